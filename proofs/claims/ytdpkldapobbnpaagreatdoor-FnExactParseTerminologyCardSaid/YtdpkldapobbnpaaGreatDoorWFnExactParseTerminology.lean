/- The walk of the law FnExactParseTerminology. -/
import Derived.Test.YtdpkldapobbnpaaGreatDoorPtx
import Derived.Test.YtdpkldapobbnpaaGreatDoorMkTrm
namespace Go.Proofs.YtdpkldapobbnpaaGreatDoor
set_option linter.unusedVariables false
set_option linter.unusedSimpArgs false
open Go.RowKit

set_option maxRecDepth 20000 in
set_option maxHeartbeats 8000000 in
theorem walk_FnExactParseTerminology (w : World) (s : ByteArray) (b0 : s.size ≤ maxLen) (m : Int) (hm : w.cell? ⟨0, 0, none⟩ = some (.int .i64 m)) (hgl : 0 < w.heap.size) :
    Calls Tryz.prog 3 #[.string s] w (PostB w true) := by
  by_cases hg0 : 1048576 < s.size
  · go_enter Tryz.func3, Tryz.ntmps3
    go_wp2
    go_ret
    exact ⟨rfl, bwT⟩
  have hq0 : ¬ (1048576 < s.size) := hg0
  obtain ⟨X, hX⟩ : ∃ X, X = (ptrO s).getD ([], []) := ⟨_, rfl⟩
  have HX := Lib.hid hX
  have hres : lenBy cntRul X.1 + lenBy cntEnt X.2 ≤ 20000 := by rw [hX]; exact ptrO_cnt s
  clear hX
  obtain ⟨V, hV⟩ : ∃ V, V = (ptrO s).isSome := ⟨_, rfl⟩
  have HV := Lib.hid hV
  clear hV
  have hvv : (V != V) = false := by simp
  go_enter Tryz.func3, Tryz.ntmps3
  go_wp2_with fail
  refine (parseTrmS_x _ s (by omega) X HX.out V HV.out).mono ?_
  rintro e w1 ⟨ra, rb, rfl, ho_r, hbw1⟩
  have hpw1 : Below w.heap.size w w1 := Below.after bwT hbw1 szT
  have sw1 := hpw1.size
  have hBw1 : Below w.heap.size w w1 := hpw1
  clear hbw1 hpw1
  obtain ⟨aor, nr, cpr, bor, mr, dpr, rfl, rfl⟩ := shapeTrm ho_r.rd
  go_wp2_with fail
  refine (parseTrmI_x _ m (oldc bwT hgl hm) (Nat.lt_of_lt_of_le hgl (show w.heap.size ≤ _ from Below.size (show Below w.heap.size w _ from bwT))) s (by omega) X HX.out V HV.out).mono ?_
  rintro e w2 ⟨ga, gb, rfl, ho_g, hbw2⟩
  simp only [World.size_alloc] at ho_g
  have hpw2 : Below w1.heap.size w1 w2 := Below.after bwT hbw2 szT
  have sw2 := hpw2.size
  have hBw2 : Below w.heap.size w w2 := Below.trans hBw1 (Below.mono hpw2 hBw1.size)
  have l_r : w1.heap.size < w2.heap.size := by have := hbw2.size; simp at this; omega
  have q_r0 : w2.cell? ⟨w1.heap.size, 0, none⟩ = some (.slice aor nr cpr) := oldc hbw2 ltT (by simp [go_sem])
  have q_r1 : w2.cell? ⟨w1.heap.size, 1, none⟩ = some (.slice bor mr dpr) := oldc hbw2 ltT (by simp [go_sem])
  have ho_r := Ow.below ho_r hpw2
  clear hbw2 hpw2
  obtain ⟨aog, ng, cpg, bog, mg, dpg, rfl, rfl⟩ := shapeTrm ho_g.rd
  go_wp2_with fail
  refine (eqTerminology_b _ _ _ _ _ X X (ho_g.rd.below bwT) (ho_r.rd.below bwT) true (by simp)).mono ?_
  rintro e w3 ⟨rfl, hbw3⟩
  have hpw3 : Below w2.heap.size w2 w3 := Below.after bwT hbw3 szT
  have sw3 := hpw3.size
  have hBw3 : Below w.heap.size w w3 := Below.trans hBw2 (Below.mono hpw3 hBw2.size)
  have q_r0 := oldc hpw3 l_r q_r0
  have q_r1 := oldc hpw3 l_r q_r1
  have l_r := Nat.lt_of_lt_of_le l_r sw3
  have l_g : w2.heap.size < w3.heap.size := by have := hbw3.size; simp at this; omega
  have q_g0 : w3.cell? ⟨w2.heap.size, 0, none⟩ = some (.slice aog ng cpg) := oldc hbw3 ltT (by simp [go_sem])
  have q_g1 : w3.cell? ⟨w2.heap.size, 1, none⟩ = some (.slice bog mg dpg) := oldc hbw3 ltT (by simp [go_sem])
  have ho_r := Ow.below ho_r hpw3
  have ho_g := Ow.below ho_g hpw3
  clear hbw3 hpw3
  obtain ⟨fp_g, hr_g, hz_g, hn_g⟩ := ho_g
  go_wp2_with fail
  refine (markTerminology_any _ _ _ X fp_g hr_g hn_g (1) (by omega) (by omega)).mono ?_
  rintro e w4 ⟨rfl, hr_g, hoffw4⟩
  have sw4 := hoffw4.size
  have hBw4 : Below w.heap.size w w4 := Below.trans hBw3 (OffF.toBelow hoffw4 hBw3.size (fun b hb => Nat.le_trans (show w.heap.size ≤ w1.heap.size + 1 by omega) (hz_g b hb).1))
  have q_r0 := offc hoffw4 hz_g (show w1.heap.size < w1.heap.size + 1 ∨ w2.heap.size ≤ w1.heap.size by omega) l_r q_r0
  have q_r1 := offc hoffw4 hz_g (show w1.heap.size < w1.heap.size + 1 ∨ w2.heap.size ≤ w1.heap.size by omega) l_r q_r1
  have q_g0 := offc hoffw4 hz_g (show w2.heap.size < w1.heap.size + 1 ∨ w2.heap.size ≤ w2.heap.size by omega) l_g q_g0
  have q_g1 := offc hoffw4 hz_g (show w2.heap.size < w1.heap.size + 1 ∨ w2.heap.size ≤ w2.heap.size by omega) l_g q_g1
  have l_g := Nat.lt_of_lt_of_le l_g sw4
  have l_r := Nat.lt_of_lt_of_le l_r sw4
  have ho_r := Ow.keep ho_r (OffF.zone hoffw4 (by omega) hz_g (by omega))
  have ho_g : Ow (w1.heap.size + 1) (w2.heap.size) w4 [.slice aog ng cpg, .slice bog mg dpg] (((marksBy cntRul mkdRul 1 X.1, marksBy cntEnt mkdEnt (1 + lenBy cntRul X.1) X.2) : Trm)) := ⟨fp_g, hr_g, hz_g, hn_g⟩
  clear hr_g hz_g hn_g hoffw4
  go_wp2_with fail
  refine (heldTerminology_any _ _ _ X.1 X.2 1 ho_g.rd (by omega) (by omega)).mono ?_
  rintro e w5 ⟨rfl, hbw5⟩
  have hpw5 : Below w4.heap.size w4 w5 := Below.after bwT hbw5 szT
  have sw5 := hpw5.size
  have hBw5 : Below w.heap.size w w5 := Below.trans hBw4 (Below.mono hpw5 hBw4.size)
  have q_r0 := oldc hpw5 l_r q_r0
  have q_r1 := oldc hpw5 l_r q_r1
  have q_g0 := oldc hpw5 l_g q_g0
  have q_g1 := oldc hpw5 l_g q_g1
  have l_g := Nat.lt_of_lt_of_le l_g sw5
  have l_r := Nat.lt_of_lt_of_le l_r sw5
  have ho_r := Ow.below ho_r hpw5
  have ho_g := Ow.below ho_g hpw5
  clear hbw5 hpw5
  go_wp2_with fail
  refine (parseTrmI_x _ m (oldc bwT hgl hm) (Nat.lt_of_lt_of_le hgl (show w.heap.size ≤ _ from Below.size (show Below w.heap.size w _ from bwT))) s (by omega) X HX.out V HV.out).mono ?_
  rintro e w6 ⟨ha, hb, rfl, ho_h, hbw6⟩
  have hpw6 : Below w5.heap.size w5 w6 := Below.after bwT hbw6 szT
  have sw6 := hpw6.size
  have hBw6 : Below w.heap.size w w6 := Below.trans hBw5 (Below.mono hpw6 hBw5.size)
  have q_r0 := oldc hpw6 l_r q_r0
  have q_r1 := oldc hpw6 l_r q_r1
  have q_g0 := oldc hpw6 l_g q_g0
  have q_g1 := oldc hpw6 l_g q_g1
  have l_g := Nat.lt_of_lt_of_le l_g sw6
  have l_r := Nat.lt_of_lt_of_le l_r sw6
  have ho_r := Ow.below ho_r hpw6
  have ho_g := Ow.below ho_g hpw6
  clear hbw6 hpw6
  obtain ⟨aoh, nh, cph, boh, mh, dph, rfl, rfl⟩ := shapeTrm ho_h.rd
  go_wp2_with fail
  refine (eqTerminology_b _ _ _ _ _ X X (ho_h.rd.below bwT) (ho_r.rd.below bwT) true (by simp)).mono ?_
  rintro e w7 ⟨rfl, hbw7⟩
  have hpw7 : Below w6.heap.size w6 w7 := Below.after bwT hbw7 szT
  have sw7 := hpw7.size
  have hBw7 : Below w.heap.size w w7 := Below.trans hBw6 (Below.mono hpw7 hBw6.size)
  have q_r0 := oldc hpw7 l_r q_r0
  have q_r1 := oldc hpw7 l_r q_r1
  have q_g0 := oldc hpw7 l_g q_g0
  have q_g1 := oldc hpw7 l_g q_g1
  have l_g := Nat.lt_of_lt_of_le l_g sw7
  have l_r := Nat.lt_of_lt_of_le l_r sw7
  have l_h : w6.heap.size < w7.heap.size := by have := hbw7.size; simp at this; omega
  have q_h0 : w7.cell? ⟨w6.heap.size, 0, none⟩ = some (.slice aoh nh cph) := oldc hbw7 ltT (by simp [go_sem])
  have q_h1 : w7.cell? ⟨w6.heap.size, 1, none⟩ = some (.slice boh mh dph) := oldc hbw7 ltT (by simp [go_sem])
  have ho_r := Ow.below ho_r hpw7
  have ho_g := Ow.below ho_g hpw7
  have ho_h := Ow.below ho_h hpw7
  clear hbw7 hpw7
  clear ho_h
  go_wp2_with fail
  refine (heldTerminology_any _ _ _ X.1 X.2 1 ho_g.rd (by omega) (by omega)).mono ?_
  rintro e w8 ⟨rfl, hbw8⟩
  have hpw8 : Below w7.heap.size w7 w8 := Below.after bwT hbw8 szT
  have sw8 := hpw8.size
  have hBw8 : Below w.heap.size w w8 := Below.trans hBw7 (Below.mono hpw8 hBw7.size)
  have q_r0 := oldc hpw8 l_r q_r0
  have q_r1 := oldc hpw8 l_r q_r1
  have q_g0 := oldc hpw8 l_g q_g0
  have q_g1 := oldc hpw8 l_g q_g1
  have q_h0 := oldc hpw8 l_h q_h0
  have q_h1 := oldc hpw8 l_h q_h1
  have l_g := Nat.lt_of_lt_of_le l_g sw8
  have l_h := Nat.lt_of_lt_of_le l_h sw8
  have l_r := Nat.lt_of_lt_of_le l_r sw8
  have ho_r := Ow.below ho_r hpw8
  have ho_g := Ow.below ho_g hpw8
  clear hbw8 hpw8
  go_wp2
  go_ret
  exact ⟨rfl, hBw8⟩
end Go.Proofs.YtdpkldapobbnpaaGreatDoor
