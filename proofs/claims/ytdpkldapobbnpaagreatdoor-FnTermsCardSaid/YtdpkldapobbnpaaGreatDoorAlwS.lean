/- Contracts of AllowsType (spec) and l3Last. Written by alw_gen.py. -/
import Derived.Test.YtdpkldapobbnpaaGreatDoorTPmS
import Derived.Test.YtdpkldapobbnpaaGreatDoorBase
namespace Go.Proofs.YtdpkldapobbnpaaGreatDoor
set_option linter.unusedVariables false
set_option linter.unusedSimpArgs false
open Go.RowKit
set_option maxHeartbeats 1000000 in
theorem lastS_any {z : Bool} {lo hi : Nat} (w : World) (a b : Value) (t : Kin) (h : Rd z lo hi w [a, b] t) (ht : isKin t = true) (R : Int) (hR : R = sexOf t) : Calls Tryz.prog 98 #[.agg #[a, b]] w (PostI w R) := by
 obtain ⟨rfl, hI, hb⟩ := h.kin
 have HK := Lib.hid (isKin_facts ht)
 have HR := Lib.hid hR
 clear h hR ht
 obtain ⟨ao, n, cap, rfl, hn, hnc, hcm, hnone⟩ := hb.shape
 subst hn
 unfold maxLen at *
 clear hnone
 obtain ⟨L, hL⟩ : ∃ L, L = t.2.length := ⟨_, rfl⟩
 rw [← hL]
 rw [← hL] at hnc hb
 by_cases h0 : L = 0
 ·have HF := Lib.hid (show R = t.1 by rw [HR.out, sexOf, List.getLast?_eq_getElem?, List.getElem?_eq_none (by omega)])
  subst h0
  clear HK HR hb hL
  go_enter Tryz.func98, Tryz.ntmps98
  go_wp2
  go_ret
  exact ⟨ret_int HF.out.symm, bwT⟩
 ·obtain ⟨m, hm⟩ : ∃ m, L = m + 1 := ⟨L - 1, by omega⟩
  obtain ⟨sb, soff, ki, ag, rfl, hx, c0, c1, -, -, -, -, sbl, -⟩ := hb.stp_at (i := m) (show m < L by omega)
  have hki := (HK.out.2.2.2 _ (List.mem_of_getElem? hx.out)).1
  have HX := Lib.hid (show R = stSex ki by rw [HR.out, sexOf, List.getLast?_eq_getElem?, ← hL, hm, Nat.add_sub_cancel, hx.out])
  have n0 : ((L : Int) == 0) = false := by simp; omega
  have q2 : (L : Int) - 1 = (m : Int) := by omega
  have q : wrap64 (m : Int) = (m : Int) := IntWalk.wrap64_in _ (by omega)
  have hml : (m : Int) < (L : Int) := by omega
  dsimp only at hki
  clear HK HR hb hx hm h0 hL
  go_enter Tryz.func98, Tryz.ntmps98
  go_wp2_with fail
  refine (stepSexS_any _ ki hki).mono ?_
  rintro e1 w1 ⟨rfl, hbw1⟩
  have hpw1 : Below w.heap.size w w1 := Below.after bwT hbw1 szT
  have sw1 := hpw1.size
  have hBw1 : Below w.heap.size w w1 := hpw1
  have l_t : w.heap.size < w1.heap.size := by have := hbw1.size; simp at this; omega
  have q_t0 : w1.cell? ⟨w.heap.size, 0, none⟩ = some (.int .i64 t.1) := oldc hbw1 ltT (by simp [go_sem])
  have q_t1 : w1.cell? ⟨w.heap.size, 1, none⟩ = some (.slice (some ⟨sb, soff, none⟩) L cap) := oldc hbw1 ltT (by simp [go_sem])
  clear hbw1 hpw1
  rw [← HX.out]
  go_wp2
  go_ret
  exact ⟨rfl, hBw1⟩
end Go.Proofs.YtdpkldapobbnpaaGreatDoor
