/- Contracts of the laws' helpers on terminologies: marks. -/
import Derived.Test.YtdpkldapobbnpaaGreatDoorDTrm
namespace Go.Proofs.YtdpkldapobbnpaaGreatDoor
set_option linter.unusedVariables false
set_option linter.unusedSimpArgs false
open Go.RowKit

set_option maxHeartbeats 1000000 in
theorem markTerminology_any (w : World) (a b : Value) (c : Trm) (fp : List Nat) (h : Rep.rep true w [a, b] c fp) (hn : fp.Nodup) (k : Int) (hk0 : 0 ≤ k) (hk1 : k + lenBy cntRul c.1 + lenBy cntEnt c.2 ≤ 1000000000) :
    Calls Tryz.prog 8 #[.agg #[a, b], .int .i64 k] w (PostMark fp w [a, b] ((marksBy cntRul mkdRul k c.1, marksBy cntEnt mkdEnt (k + lenBy cntRul c.1) c.2) : Trm) (k + lenBy cntRul c.1 + lenBy cntEnt c.2)) := by
  obtain ⟨x, y⟩ := c
  obtain ⟨c1, c2, f1, f2, e, rfl, h1, h2⟩ := h
  dsimp only at hk1 h1 h2 ⊢
  obtain ⟨rfl, rfl⟩ : c1 = [a] ∧ c2 = [b] := by
    have := Rep.len h1
    have := app_inj (a := [a]) (b := [b]) e (by rw [this]; rfl)
    exact ⟨this.1.symm, this.2.symm⟩
  clear e
  have hd := (List.nodup_append.1 hn).2.2
  have hlt : ∀ b ∈ f1 ++ f2, b < w.heap.size := fun b hb => by
    rcases List.mem_append.1 hb with hb | hb
    · exact Rep.lt h1 b hb
    · exact Rep.lt h2 b hb
  have hn1 := (List.nodup_append.1 hn).1
  have hn2 := (List.nodup_append.1 hn).2.1
  go_enter Tryz.func8, Tryz.ntmps8
  go_wp2_with fail
  refine (markRuleS_any _ _ _ f1 (Rep.keep h1 (fun b hb => Below.heap_alloc _ _ _ (hlt b (by simp [hb])))) hn1 _ hk0 (by omega)).mono ?_
  rintro e w1 ⟨rfl, hr1, ho1⟩
  have ho1' : OffF f1 w w1 := ((OffF.refl _ _).alloc _).trans ho1
  have h2' : Rep.rep true w1 [b] y f2 := Rep.keep h2 fun i hi => ho1'.block i (hlt i (by simp [hi])) (fun hm => hd i hm i hi rfl)
  have hc0 : ∀ o, w1.cell? ⟨w.heap.size, o, none⟩ = (w.alloc (.cells #[a, b] 25)).cell? ⟨w.heap.size, o, none⟩ := fun o => World.cell?_of_block (a := ⟨w.heap.size, o, none⟩) (ho1.block w.heap.size (by simp) (fun hm => by have := hlt _ (List.mem_append.2 (.inl hm)); omega))
  have s1 := ho1'.size
  clear ho1
  go_wp2_with fail
  refine (markEntryS_any _ _ _ f2 h2' hn2 _ (by omega) (by omega)).mono ?_
  rintro e w2 ⟨rfl, hr2, ho2⟩
  have hr1' : Rep.rep true w2 [a] (marksBy cntRul mkdRul k x) f1 := Rep.keep hr1 fun i hi => ho2.block i (Nat.lt_of_lt_of_le (hlt i (by simp [hi])) s1) (fun hm => hd i hi i hm rfl)
  have HR := Lib.hid (show Rep.rep true w2 [a, b] ((marksBy cntRul mkdRul k x, marksBy cntEnt mkdEnt (k + lenBy cntRul x) y) : Trm) (f1 ++ f2) from ⟨[a], [b], f1, f2, rfl, rfl, hr1', hr2⟩)
  have HO := Lib.hid (show OffF (f1 ++ f2) w w2 from (ho1'.mono (fun i hi => by simp [hi])).trans (ho2.mono (fun i hi => by simp [hi])))
  clear hr1 hr1' hr2 ho1' ho2 h1 h2 h2' hd hlt hn hn1 hn2
  go_wp2
  go_ret
  exact ⟨rfl, HR.out, HO.out⟩
set_option maxHeartbeats 1000000 in
theorem heldTerminology_any {z : Bool} {lo hi : Nat} (w : World) (a b : Value) (c1 : List Rul) (c2 : List Ent) (k : Int) (h : Rd z lo hi w [a, b] ((marksBy cntRul mkdRul k c1, marksBy cntEnt mkdEnt (k + lenBy cntRul c1) c2) : Trm)) (hk0 : 0 ≤ k) (hk1 : k + lenBy cntRul c1 + lenBy cntEnt c2 ≤ 1000000000) :
    Calls Tryz.prog 9 #[.agg #[a, b], .int .i64 k] w (PostI w (k + lenBy cntRul c1 + lenBy cntEnt c2)) := by
  obtain ⟨h1, h2⟩ := h.two rfl
  obtain ⟨m1, hm1⟩ : ∃ m : Nat, m = lenBy cntRul c1 := ⟨_, rfl⟩
  obtain ⟨m2, hm2⟩ : ∃ m : Nat, m = lenBy cntEnt c2 := ⟨_, rfl⟩
  have K1 := Lib.hid (show ∀ (w' : World) (h' : Below w.heap.size w w'), Calls Tryz.prog 33 #[a, .int .i64 k] w' (PostI w' (k + m1)) from fun w' h' => by rw [hm1]; exact heldRuleS_any w' a c1 k (h1.below h') hk0 (by omega))
  have K2 := Lib.hid (show ∀ (w' : World) (h' : Below w.heap.size w w'), Calls Tryz.prog 34 #[b, .int .i64 (k + m1)] w' (PostI w' (k + m1 + m2)) from fun w' h' => by rw [hm1, hm2]; exact heldEntryS_any w' b c2 (k + lenBy cntRul c1) (h2.below h') (by omega) (by omega))
  rw [← hm1, ← hm2]
  rw [← hm1, ← hm2] at hk1
  clear h1 h2 h hm1 hm2
  go_enter Tryz.func9, Tryz.ntmps9
  go_wp2_with fail
  refine (K1.out _ bwT).mono ?_
  rintro e1 w1 ⟨rfl, hbw1⟩
  have hpw1 : Below w.heap.size w w1 := Below.after bwT hbw1 szT
  have sw1 := hpw1.size
  have hBw1 : Below w.heap.size w w1 := hpw1
  have l_c : w.heap.size < w1.heap.size := by have := hbw1.size; simp at this; omega
  have q_c0 : w1.cell? ⟨w.heap.size, 0, none⟩ = some (a) := oldc hbw1 ltT (by simp [go_sem])
  have q_c1 : w1.cell? ⟨w.heap.size, 1, none⟩ = some (b) := oldc hbw1 ltT (by simp [go_sem])
  clear hbw1 hpw1
  have g1 : ¬ k + (m1 : Int) < 0 := by omega
  go_wp2_with fail
  refine (K2.out _ bwT).mono ?_
  rintro e2 w2 ⟨rfl, hbw2⟩
  have hpw2 : Below w1.heap.size w1 w2 := Below.after bwT hbw2 szT
  have sw2 := hpw2.size
  have hBw2 : Below w.heap.size w w2 := Below.trans hBw1 (Below.mono hpw2 hBw1.size)
  have q_c0 := oldc hpw2 l_c q_c0
  have q_c1 := oldc hpw2 l_c q_c1
  have l_c := Nat.lt_of_lt_of_le l_c sw2
  clear hbw2 hpw2
  have g2 : ¬ k + (m1 : Int) + (m2 : Int) < 0 := by omega
  go_wp2
  go_ret
  exact ⟨rfl, hBw2⟩
end Go.Proofs.YtdpkldapobbnpaaGreatDoor
