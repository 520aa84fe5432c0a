/- The walk of the law FnExactDoubleLines. -/
import Derived.Test.YtiingmngeiakgaaDblI
import Derived.Test.YtiingmngeiakgaaDblS
import Derived.Test.YtiingmngeiakgaaMkFam
import Derived.Test.YtiingmngeiakgaaDblL
namespace Go.Proofs.Ytiingmngeiakgaa
set_option linter.unusedVariables false
set_option linter.unusedSimpArgs false
open Go.RowKit

set_option maxRecDepth 20000 in
set_option maxHeartbeats 8000000 in
theorem walk_FnExactDoubleLines (w : World) (c0a c0b : Value) (f : Fam) (h0 : Rd false 0 w.heap.size w [c0a, c0b] f) :
    Calls Try.prog 3 #[.agg #[c0a, c0b]] w (PostB w true) := by
  by_cases hg0 : (1048576 : Int) < famSz f
  · go_enter Try.func3, Try.ntmps3
    go_wp2_with fail
    refine (szFamily_any _ _ _ f (h0.below bwT) _ (by omega) (by omega)).mono ?_
    rw [if_pos (by omega)]
    rintro e w1 ⟨rfl, hbw1⟩
    have hpw1 : Below w.heap.size w w1 := Below.after bwT hbw1 szT
    have sw1 := hpw1.size
    have hBw1 : Below w.heap.size w w1 := hpw1
    have l_a0 : w.heap.size < w1.heap.size := by have := hbw1.size; simp at this; omega
    have q_a00 : w1.cell? ⟨w.heap.size, 0, none⟩ = some (c0a) := oldc hbw1 ltT (by simp [go_sem])
    have q_a01 : w1.cell? ⟨w.heap.size, 1, none⟩ = some (c0b) := oldc hbw1 ltT (by simp [go_sem])
    clear hbw1 hpw1
    go_wp2
    go_ret
    exact ⟨rfl, hBw1⟩
  have hq0 : ¬ ((1048576 : Int) < famSz f) := hg0
  have hfl := famSz_le f
  obtain ⟨X, hX⟩ : ∃ X, X = dblV f := ⟨_, rfl⟩
  have HX := Lib.hid hX
  clear hX
  go_enter Try.func3, Try.ntmps3
  go_wp2_with fail
  refine (szFamily_any _ _ _ f (h0.below bwT) _ (by omega) (by omega)).mono ?_
  rw [if_neg (by omega)]
  rintro e w2 ⟨rfl, hbw2⟩
  have hpw2 : Below w.heap.size w w2 := Below.after bwT hbw2 szT
  have sw2 := hpw2.size
  have hBw2 : Below w.heap.size w w2 := hpw2
  have l_a0 : w.heap.size < w2.heap.size := by have := hbw2.size; simp at this; omega
  have q_a00 : w2.cell? ⟨w.heap.size, 0, none⟩ = some (c0a) := oldc hbw2 ltT (by simp [go_sem])
  have q_a01 : w2.cell? ⟨w.heap.size, 1, none⟩ = some (c0b) := oldc hbw2 ltT (by simp [go_sem])
  clear hbw2 hpw2
  go_wp2_with fail
  refine (toFamily_any _ _ _ f (h0.below bwT) (by omega) (by omega)).mono ?_
  rintro e w3 ⟨t0a, t0b, rfl, ho_t0, hbw3⟩
  have hpw3 : Below w2.heap.size w2 w3 := Below.after bwT hbw3 szT
  have sw3 := hpw3.size
  have hBw3 : Below w.heap.size w w3 := Below.trans hBw2 (Below.mono hpw3 hBw2.size)
  have q_a00 := oldc hpw3 l_a0 q_a00
  have q_a01 := oldc hpw3 l_a0 q_a01
  have l_a0 := Nat.lt_of_lt_of_le l_a0 sw3
  clear hbw3 hpw3
  go_wp2_with fail
  refine (dblS_any _ _ _ f (ho_t0.rd.below bwT) X HX.out).mono ?_
  rintro e w4 ⟨ra, rfl, ho_r, hbw4⟩
  have hpw4 : Below w3.heap.size w3 w4 := Below.after bwT hbw4 szT
  have sw4 := hpw4.size
  have hBw4 : Below w.heap.size w w4 := Below.trans hBw3 (Below.mono hpw4 hBw3.size)
  have q_a00 := oldc hpw4 l_a0 q_a00
  have q_a01 := oldc hpw4 l_a0 q_a01
  have l_a0 := Nat.lt_of_lt_of_le l_a0 sw4
  have ho_t0 := Ow.below ho_t0 hpw4
  clear hbw4 hpw4
  clear ho_t0
  go_wp2_with fail
  refine (toFamily_any _ _ _ f (h0.below bwT) (by omega) (by omega)).mono ?_
  rintro e w5 ⟨x0a, x0b, rfl, ho_x0, hbw5⟩
  have hpw5 : Below w4.heap.size w4 w5 := Below.after bwT hbw5 szT
  have sw5 := hpw5.size
  have hBw5 : Below w.heap.size w w5 := Below.trans hBw4 (Below.mono hpw5 hBw4.size)
  have q_a00 := oldc hpw5 l_a0 q_a00
  have q_a01 := oldc hpw5 l_a0 q_a01
  have l_a0 := Nat.lt_of_lt_of_le l_a0 sw5
  have ho_r := Ow.below ho_r hpw5
  clear hbw5 hpw5
  obtain ⟨aox0, nx0, cpx0, box0, mx0, dpx0, rfl, rfl⟩ := shapeFam ho_x0.rd
  go_wp2_with fail
  refine (dblI_any _ _ _ f (ho_x0.rd.below bwT) X HX.out).mono ?_
  rintro e w6 ⟨ga, rfl, ho_g, hbw6⟩
  simp only [World.size_alloc] at ho_g
  have hpw6 : Below w5.heap.size w5 w6 := Below.after bwT hbw6 szT
  have sw6 := hpw6.size
  have hBw6 : Below w.heap.size w w6 := Below.trans hBw5 (Below.mono hpw6 hBw5.size)
  have q_a00 := oldc hpw6 l_a0 q_a00
  have q_a01 := oldc hpw6 l_a0 q_a01
  have l_a0 := Nat.lt_of_lt_of_le l_a0 sw6
  have l_x0 : w5.heap.size < w6.heap.size := by have := hbw6.size; simp at this; omega
  have q_x00 : w6.cell? ⟨w5.heap.size, 0, none⟩ = some (.slice aox0 nx0 cpx0) := oldc hbw6 ltT (by simp [go_sem])
  have q_x01 : w6.cell? ⟨w5.heap.size, 1, none⟩ = some (.slice box0 mx0 dpx0) := oldc hbw6 ltT (by simp [go_sem])
  have ho_r := Ow.below ho_r hpw6
  have ho_x0 := Ow.below ho_x0 hpw6
  clear hbw6 hpw6
  go_wp2_with fail
  refine (eqIntSS_b _ _ _ X X (ho_g.rd.below bwT) (ho_r.rd.below bwT) true (by simp)).mono ?_
  rintro e w7 ⟨rfl, hbw7⟩
  have hpw7 : Below w6.heap.size w6 w7 := Below.after bwT hbw7 szT
  have sw7 := hpw7.size
  have hBw7 : Below w.heap.size w w7 := Below.trans hBw6 (Below.mono hpw7 hBw6.size)
  have q_a00 := oldc hpw7 l_a0 q_a00
  have q_a01 := oldc hpw7 l_a0 q_a01
  have q_x00 := oldc hpw7 l_x0 q_x00
  have q_x01 := oldc hpw7 l_x0 q_x01
  have l_a0 := Nat.lt_of_lt_of_le l_a0 sw7
  have l_x0 := Nat.lt_of_lt_of_le l_x0 sw7
  have ho_r := Ow.below ho_r hpw7
  have ho_x0 := Ow.below ho_x0 hpw7
  have ho_g := Ow.below ho_g hpw7
  clear hbw7 hpw7
  go_wp2_with fail
  go_region_held3 (fun w' => w'.cell? ⟨w.heap.size, 0, none⟩ = some (c0a) ∧ w'.cell? ⟨w.heap.size, 1, none⟩ = some (c0b) ∧ w'.cell? ⟨w5.heap.size, 0, none⟩ = some (.slice aox0 nx0 cpx0) ∧ w'.cell? ⟨w5.heap.size, 1, none⟩ = some (.slice box0 mx0 dpx0)) (go_keep) (first | (go_at_call 8; refine (toFamily_any _ _ _ f (h0.below (Below.drew hBw7)) (by omega) (by omega)).mono ?_; rintro e w8 ⟨y0a, y0b, rfl, ho_y0, hbw8⟩; have hpw8 : Below w7.heap.size w7 w8 := Below.trans (Below.drew (Below.refl _ _)) hbw8; have sw8 := hpw8.size; have hBw8 : Below w.heap.size w w8 := Below.trans hBw7 (Below.mono hpw8 hBw7.size); have q_a00 := oldc hpw8 l_a0 q_a00; have q_a01 := oldc hpw8 l_a0 q_a01; have q_x00 := oldc hpw8 l_x0 q_x00; have q_x01 := oldc hpw8 l_x0 q_x01; have l_a0 := Nat.lt_of_lt_of_le l_a0 sw8; have l_x0 := Nat.lt_of_lt_of_le l_x0 sw8; have ho_r := Ow.below ho_r hpw8; have ho_x0 := Ow.below ho_x0 hpw8; have ho_g := Ow.below ho_g hpw8; clear hbw8 hpw8) | (go_at_call 11; refine (eqFamily_b _ _ _ _ _ f f ho_x0.rd ho_y0.rd true (by simp)).mono ?_; rintro e w9 ⟨rfl, hbw9⟩; have sw9 := hbw9.size; have hBw9 : Below w.heap.size w w9 := Below.trans hBw8 (Below.mono hbw9 hBw8.size); have q_a00 := oldc hbw9 l_a0 q_a00; have q_a01 := oldc hbw9 l_a0 q_a01; have q_x00 := oldc hbw9 l_x0 q_x00; have q_x01 := oldc hbw9 l_x0 q_x01; have l_a0 := Nat.lt_of_lt_of_le l_a0 sw9; have l_x0 := Nat.lt_of_lt_of_le l_x0 sw9; have ho_r := Ow.below ho_r hbw9; have ho_x0 := Ow.below ho_x0 hbw9; have ho_g := Ow.below ho_g hbw9; clear hbw9 ho_y0))
  have hres : lenSS X ≤ 1600 := by rw [HX.out]; exact dblV_len f
  obtain ⟨fp_x0, hr_x0, hz_x0, hn_x0⟩ := ho_x0
  go_wp2_with fail
  refine (markFamily_any _ _ _ f fp_x0 hr_x0 hn_x0 (1) (by omega) (by omega)).mono ?_
  rintro e w10 ⟨rfl, hr_x0, hoffw10⟩
  have sw10 := hoffw10.size
  have hBw10 : Below w.heap.size w w10 := Below.trans hBw9 (OffF.toBelow hoffw10 hBw9.size (fun b hb => Nat.le_trans (show w.heap.size ≤ w4.heap.size by omega) (hz_x0 b hb).1))
  have q_a00 := offc hoffw10 hz_x0 (show w.heap.size < w4.heap.size ∨ w5.heap.size ≤ w.heap.size by omega) l_a0 q_a00
  have q_a01 := offc hoffw10 hz_x0 (show w.heap.size < w4.heap.size ∨ w5.heap.size ≤ w.heap.size by omega) l_a0 q_a01
  have q_x00 := offc hoffw10 hz_x0 (show w5.heap.size < w4.heap.size ∨ w5.heap.size ≤ w5.heap.size by omega) l_x0 q_x00
  have q_x01 := offc hoffw10 hz_x0 (show w5.heap.size < w4.heap.size ∨ w5.heap.size ≤ w5.heap.size by omega) l_x0 q_x01
  have l_a0 := Nat.lt_of_lt_of_le l_a0 sw10
  have l_x0 := Nat.lt_of_lt_of_le l_x0 sw10
  have ho_r := Ow.keep ho_r (OffF.zone hoffw10 (by omega) hz_x0 (by omega))
  have ho_g := Ow.keep ho_g (OffF.zone hoffw10 (by omega) hz_x0 (by omega))
  have ho_x0 : Ow (w4.heap.size) (w5.heap.size) w10 [.slice aox0 nx0 cpx0, .slice box0 mx0 dpx0] (((marksPer 1 f.1.length, marksUni (1 + 6 * f.1.length) f.2.length) : Fam)) := ⟨fp_x0, hr_x0, hz_x0, hn_x0⟩
  clear hr_x0 hz_x0 hn_x0 hoffw10
  go_wp2_with fail
  refine (eqIntSS_b _ _ _ X X (ho_g.rd.below bwT) (ho_r.rd.below bwT) true (by simp)).mono ?_
  rintro e w11 ⟨rfl, hbw11⟩
  have hpw11 : Below w10.heap.size w10 w11 := Below.after bwT hbw11 szT
  have sw11 := hpw11.size
  have hBw11 : Below w.heap.size w w11 := Below.trans hBw10 (Below.mono hpw11 hBw10.size)
  have q_a00 := oldc hpw11 l_a0 q_a00
  have q_a01 := oldc hpw11 l_a0 q_a01
  have q_x00 := oldc hpw11 l_x0 q_x00
  have q_x01 := oldc hpw11 l_x0 q_x01
  have l_a0 := Nat.lt_of_lt_of_le l_a0 sw11
  have l_x0 := Nat.lt_of_lt_of_le l_x0 sw11
  have ho_r := Ow.below ho_r hpw11
  have ho_x0 := Ow.below ho_x0 hpw11
  have ho_g := Ow.below ho_g hpw11
  clear hbw11 hpw11
  clear ho_x0
  obtain ⟨fp_g, hr_g, hz_g, hn_g⟩ := ho_g
  go_wp2_with fail
  refine (markIntSS_any _ _ X fp_g hr_g hn_g (1) (by omega) (by omega)).mono ?_
  rintro e w12 ⟨rfl, hr_g, hoffw12⟩
  have sw12 := hoffw12.size
  have hBw12 : Below w.heap.size w w12 := Below.trans hBw11 (OffF.toBelow hoffw12 hBw11.size (fun b hb => Nat.le_trans (show w.heap.size ≤ w5.heap.size + 1 by omega) (hz_g b hb).1))
  have q_a00 := offc hoffw12 hz_g (show w.heap.size < w5.heap.size + 1 ∨ w6.heap.size ≤ w.heap.size by omega) l_a0 q_a00
  have q_a01 := offc hoffw12 hz_g (show w.heap.size < w5.heap.size + 1 ∨ w6.heap.size ≤ w.heap.size by omega) l_a0 q_a01
  have q_x00 := offc hoffw12 hz_g (show w5.heap.size < w5.heap.size + 1 ∨ w6.heap.size ≤ w5.heap.size by omega) l_x0 q_x00
  have q_x01 := offc hoffw12 hz_g (show w5.heap.size < w5.heap.size + 1 ∨ w6.heap.size ≤ w5.heap.size by omega) l_x0 q_x01
  have l_a0 := Nat.lt_of_lt_of_le l_a0 sw12
  have l_x0 := Nat.lt_of_lt_of_le l_x0 sw12
  have ho_r := Ow.keep ho_r (OffF.zone hoffw12 (by omega) hz_g (by omega))
  have ho_g : Ow (w5.heap.size + 1) (w6.heap.size) w12 [ga] ((marksSS 1 X)) := ⟨fp_g, hr_g, hz_g, hn_g⟩
  clear hr_g hz_g hn_g hoffw12
  go_wp2_with fail
  refine (heldIntSS_any _ _ X 1 ho_g.rd (by omega) (by omega)).mono ?_
  rintro e w13 ⟨rfl, hbw13⟩
  have hpw13 : Below w12.heap.size w12 w13 := Below.after bwT hbw13 szT
  have sw13 := hpw13.size
  have hBw13 : Below w.heap.size w w13 := Below.trans hBw12 (Below.mono hpw13 hBw12.size)
  have q_a00 := oldc hpw13 l_a0 q_a00
  have q_a01 := oldc hpw13 l_a0 q_a01
  have q_x00 := oldc hpw13 l_x0 q_x00
  have q_x01 := oldc hpw13 l_x0 q_x01
  have l_a0 := Nat.lt_of_lt_of_le l_a0 sw13
  have l_x0 := Nat.lt_of_lt_of_le l_x0 sw13
  have ho_r := Ow.below ho_r hpw13
  have ho_g := Ow.below ho_g hpw13
  clear hbw13 hpw13
  go_wp2_with fail
  refine (toFamily_any _ _ _ f (h0.below bwT) (by omega) (by omega)).mono ?_
  rintro e w14 ⟨z0a, z0b, rfl, ho_z0, hbw14⟩
  have hpw14 : Below w13.heap.size w13 w14 := Below.after bwT hbw14 szT
  have sw14 := hpw14.size
  have hBw14 : Below w.heap.size w w14 := Below.trans hBw13 (Below.mono hpw14 hBw13.size)
  have q_a00 := oldc hpw14 l_a0 q_a00
  have q_a01 := oldc hpw14 l_a0 q_a01
  have q_x00 := oldc hpw14 l_x0 q_x00
  have q_x01 := oldc hpw14 l_x0 q_x01
  have l_a0 := Nat.lt_of_lt_of_le l_a0 sw14
  have l_x0 := Nat.lt_of_lt_of_le l_x0 sw14
  have ho_r := Ow.below ho_r hpw14
  have ho_g := Ow.below ho_g hpw14
  clear hbw14 hpw14
  go_wp2_with fail
  refine (dblI_any _ _ _ f (ho_z0.rd.below bwT) X HX.out).mono ?_
  rintro e w15 ⟨ha, rfl, ho_h, hbw15⟩
  have hpw15 : Below w14.heap.size w14 w15 := Below.after bwT hbw15 szT
  have sw15 := hpw15.size
  have hBw15 : Below w.heap.size w w15 := Below.trans hBw14 (Below.mono hpw15 hBw14.size)
  have q_a00 := oldc hpw15 l_a0 q_a00
  have q_a01 := oldc hpw15 l_a0 q_a01
  have q_x00 := oldc hpw15 l_x0 q_x00
  have q_x01 := oldc hpw15 l_x0 q_x01
  have l_a0 := Nat.lt_of_lt_of_le l_a0 sw15
  have l_x0 := Nat.lt_of_lt_of_le l_x0 sw15
  have ho_r := Ow.below ho_r hpw15
  have ho_g := Ow.below ho_g hpw15
  have ho_z0 := Ow.below ho_z0 hpw15
  clear hbw15 hpw15
  clear ho_z0
  go_wp2_with fail
  refine (eqIntSS_b _ _ _ X X (ho_h.rd.below bwT) (ho_r.rd.below bwT) true (by simp)).mono ?_
  rintro e w16 ⟨rfl, hbw16⟩
  have hpw16 : Below w15.heap.size w15 w16 := Below.after bwT hbw16 szT
  have sw16 := hpw16.size
  have hBw16 : Below w.heap.size w w16 := Below.trans hBw15 (Below.mono hpw16 hBw15.size)
  have q_a00 := oldc hpw16 l_a0 q_a00
  have q_a01 := oldc hpw16 l_a0 q_a01
  have q_x00 := oldc hpw16 l_x0 q_x00
  have q_x01 := oldc hpw16 l_x0 q_x01
  have l_a0 := Nat.lt_of_lt_of_le l_a0 sw16
  have l_x0 := Nat.lt_of_lt_of_le l_x0 sw16
  have ho_r := Ow.below ho_r hpw16
  have ho_g := Ow.below ho_g hpw16
  have ho_h := Ow.below ho_h hpw16
  clear hbw16 hpw16
  clear ho_h
  go_wp2_with fail
  refine (heldIntSS_any _ _ X 1 ho_g.rd (by omega) (by omega)).mono ?_
  rintro e w17 ⟨rfl, hbw17⟩
  have hpw17 : Below w16.heap.size w16 w17 := Below.after bwT hbw17 szT
  have sw17 := hpw17.size
  have hBw17 : Below w.heap.size w w17 := Below.trans hBw16 (Below.mono hpw17 hBw16.size)
  have q_a00 := oldc hpw17 l_a0 q_a00
  have q_a01 := oldc hpw17 l_a0 q_a01
  have q_x00 := oldc hpw17 l_x0 q_x00
  have q_x01 := oldc hpw17 l_x0 q_x01
  have l_a0 := Nat.lt_of_lt_of_le l_a0 sw17
  have l_x0 := Nat.lt_of_lt_of_le l_x0 sw17
  have ho_r := Ow.below ho_r hpw17
  have ho_g := Ow.below ho_g hpw17
  clear hbw17 hpw17
  go_wp2
  go_ret
  exact ⟨rfl, hBw17⟩
end Go.Proofs.Ytiingmngeiakgaa
