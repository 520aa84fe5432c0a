/- Contracts of the reference's functions on kin types. Written by typ_gen.py. -/
import Derived.Test.YtdpkldapobbnpaaGreatDoorBase
namespace Go.Proofs.YtdpkldapobbnpaaGreatDoor
set_option linter.unusedVariables false
set_option linter.unusedSimpArgs false
open Go.RowKit
theorem stepSexS_any (w : World) (k : Int) (h : 1 ≤ k ∧ k ≤ 8) : Calls Tryz.prog 87 #[.int .i64 k] w (PostI w (stSex k)) := by
 obtain rfl | rfl | rfl | rfl | rfl | rfl | rfl | rfl : k = 1 ∨ k = 2 ∨ k = 3 ∨ k = 4 ∨ k = 5 ∨ k = 6 ∨ k = 7 ∨ k = 8 := by omega
 all_goals
  go_enter Tryz.func87, Tryz.ntmps87
  go_wp2
  go_ret
  exact ⟨rfl, Below.refl _ _⟩
set_option maxHeartbeats 4000000 in
theorem stepFitsS_b (w : World) (ki ag sex : Int) (r : Bool) (hr : r = stFits (ki, ag) sex) : Calls Tryz.prog 86 #[.agg #[.int .i64 ki, .int .i64 ag], .int .i64 sex] w (PostB w r) := by
 obtain ⟨r1, hlet_r1⟩ : ∃ r, r = decide (1 ≤ ki ∧ ki ≤ 8) := ⟨_, rfl⟩
 have H1 := Lib.hid hlet_r1
 clear hlet_r1
 obtain ⟨r2, hlet_r2⟩ : ∃ r, r = decide (0 ≤ ag ∧ ag ≤ 2) := ⟨_, rfl⟩
 have H2 := Lib.hid hlet_r2
 clear hlet_r2
 have HR := Lib.hid hr
 clear hr
 go_enter Tryz.func86, Tryz.ntmps86
 go_wp2_with fail
 refine (l1In_b ki 1 8 _ r1 H1.out).mono ?_
 rintro e1 w1 ⟨rfl, hbw1⟩
 have hpw1 : Below w.heap.size w w1 := Below.after bwT hbw1 szT
 have sw1 := hpw1.size
 have hBw1 : Below w.heap.size w w1 := hpw1
 have l_s : w.heap.size < w1.heap.size := by have := hbw1.size; simp at this; omega
 have q_s0 : w1.cell? ⟨w.heap.size, 0, none⟩ = some (.int .i64 ki) := oldc hbw1 ltT (by simp [go_sem])
 have q_s1 : w1.cell? ⟨w.heap.size, 1, none⟩ = some (.int .i64 ag) := oldc hbw1 ltT (by simp [go_sem])
 clear hbw1 hpw1
 cases r1
 ·have HF := Lib.hid (show r = false by rw [HR.out]; have := H1.out; simp only [stFits, ← this, Bool.false_and])
  clear HR H1 H2
  go_wp2
  go_ret
  exact ⟨ret_bool HF.out.symm, hBw1⟩
 go_wp2_with fail
 refine (l1In_b ag 0 2 _ r2 H2.out).mono ?_
 rintro e2 w2 ⟨rfl, hbw2⟩
 have hpw2 : Below w1.heap.size w1 w2 := Below.after bwT hbw2 szT
 have sw2 := hpw2.size
 have hBw2 : Below w.heap.size w w2 := Below.trans hBw1 (Below.mono hpw2 hBw1.size)
 have q_s0 := oldc hpw2 l_s q_s0
 have q_s1 := oldc hpw2 l_s q_s1
 have l_s := Nat.lt_of_lt_of_le l_s sw2
 clear hbw2 hpw2
 cases r2
 ·have HF := Lib.hid (show r = false by rw [HR.out]; have := H2.out; simp only [stFits, ← this, Bool.false_and, Bool.and_false])
  clear HR H1 H2
  go_wp2
  go_ret
  exact ⟨ret_bool HF.out.symm, hBw2⟩
 have hk : 1 ≤ ki ∧ ki ≤ 8 := of_decide_eq_true H1.out.symm
 have hg : 0 ≤ ag ∧ ag ≤ 2 := of_decide_eq_true H2.out.symm
 clear H1 H2
 obtain ⟨b1, b2⟩ := hk
 obtain ⟨b3, b4⟩ := hg
 by_cases g0 : ag = 0
 ·subst g0
  by_cases k7 : ki = 7
  ·subst k7
   by_cases s1 : sex = 1
   ·subst s1
    have HF := Lib.hid (show r = false by rw [HR.out]; simp only [stFits]; rfl)
    clear HR
    go_wp2
    go_ret
    exact ⟨ret_bool HF.out.symm, hBw2⟩
   ·skip
    have s1e : (sex == 1) = false := by simpa using s1
    have s1n : (sex != 1) = true := by simpa using s1
    have HF := Lib.hid (show r = true by rw [HR.out]; simp only [stFits]; simp [*])
    clear HR
    go_wp2
    go_ret
    exact ⟨ret_bool HF.out.symm, hBw2⟩
  by_cases k8 : ki = 8
  ·subst k8
   by_cases s2 : sex = 2
   ·subst s2
    have HF := Lib.hid (show r = false by rw [HR.out]; simp only [stFits]; rfl)
    clear HR
    go_wp2
    go_ret
    exact ⟨ret_bool HF.out.symm, hBw2⟩
   ·skip
    have s2e : (sex == 2) = false := by simpa using s2
    have s2n : (sex != 2) = true := by simpa using s2
    have HF := Lib.hid (show r = true by rw [HR.out]; simp only [stFits]; simp [*])
    clear HR
    go_wp2
    go_ret
    exact ⟨ret_bool HF.out.symm, hBw2⟩
  have k7e : (ki == 7) = false := by simpa using k7
  have k7n : (ki != 7) = true := by simpa using k7
  have k8e : (ki == 8) = false := by simpa using k8
  have k8n : (ki != 8) = true := by simpa using k8
  have HF := Lib.hid (show r = true by rw [HR.out]; simp only [stFits]; simp [*])
  clear HR
  go_wp2
  go_ret
  exact ⟨ret_bool HF.out.symm, hBw2⟩
 have g0e : (ag == 0) = false := by simpa using g0
 have g0n : (ag != 0) = true := by simpa using g0
 by_cases k3 : ki = 3
 ·subst k3
  have HF := Lib.hid (show r = true by rw [HR.out]; simp only [stFits]; simp [*])
  clear HR
  go_wp2
  go_ret
  exact ⟨ret_bool HF.out.symm, hBw2⟩
 by_cases k4 : ki = 4
 ·subst k4
  have HF := Lib.hid (show r = true by rw [HR.out]; simp only [stFits]; simp [*])
  clear HR
  go_wp2
  go_ret
  exact ⟨ret_bool HF.out.symm, hBw2⟩
 have k3e : (ki == 3) = false := by simpa using k3
 have k3n : (ki != 3) = true := by simpa using k3
 have k4e : (ki == 4) = false := by simpa using k4
 have k4n : (ki != 4) = true := by simpa using k4
 have HF := Lib.hid (show r = false by rw [HR.out]; simp only [stFits]; simp [*])
 clear HR
 go_wp2
 go_ret
 exact ⟨ret_bool HF.out.symm, hBw2⟩
set_option maxHeartbeats 4000000 in
theorem isTypeS_b {z : Bool} {lo hi : Nat} (w : World) (a b : Value) (t : Kin) (h : Rd z lo hi w [a, b] t) (r : Bool) (hr : r = isKin t) : Calls Tryz.prog 42 #[.agg #[a, b]] w (PostB w r) := by
 obtain ⟨rfl, hI, hb⟩ := h.kin
 clear h
 obtain ⟨ao, n, cap, rfl, hn, hnc, hcm, hnone⟩ := hb.shape
 subst hn
 unfold maxLen at *
 clear hnone
 have HR := Lib.hid hr
 clear hr
 obtain ⟨r1, hlet_r1⟩ : ∃ r, r = decide (0 ≤ t.1 ∧ t.1 ≤ 2) := ⟨_, rfl⟩
 have H1 := Lib.hid hlet_r1
 clear hlet_r1
 go_enter Tryz.func42, Tryz.ntmps42
 go_wp2_with fail
 refine (l1In_b t.1 0 2 _ r1 H1.out).mono ?_
 rintro e3 w3 ⟨rfl, hbw3⟩
 have hpw3 : Below w.heap.size w w3 := Below.after bwT hbw3 szT
 have sw3 := hpw3.size
 have hBw3 : Below w.heap.size w w3 := hpw3
 have l_t : w.heap.size < w3.heap.size := by have := hbw3.size; simp at this; omega
 have q_t0 : w3.cell? ⟨w.heap.size, 0, none⟩ = some (.int .i64 t.1) := oldc hbw3 ltT (by simp [go_sem])
 have q_t1 : w3.cell? ⟨w.heap.size, 1, none⟩ = some (.slice ao t.2.length cap) := oldc hbw3 ltT (by simp [go_sem])
 clear hbw3 hpw3
 cases r1
 ·have HF := Lib.hid (show r = false by rw [HR.out]; have := H1.out; simp only [isKin, ← this, Bool.false_and])
  clear HR hb H1
  go_wp2
  go_ret
  exact ⟨ret_bool HF.out.symm, hBw3⟩
 by_cases a3 : 8 < t.2.length
 ·have HF := Lib.hid (show r = false by rw [HR.out]; simp only [isKin, Bool.and_eq_false_iff, decide_eq_false_iff_not]; omega)
  have a3I : (8 : Int) < (t.2.length : Int) := by omega
  clear HR hb H1
  go_wp2
  go_ret
  exact ⟨ret_bool HF.out.symm, hBw3⟩
 have a3I : ¬ (8 : Int) < (t.2.length : Int) := by omega
 have HK := Lib.hid (show r = kinGo t.1 t.2 by rw [HR.out]; have := H1.out; simp only [isKin, ← this]; rw [decide_eq_true (by omega), Bool.true_and, Bool.true_and])
 clear HR H1
 obtain ⟨W0, hW0⟩ : ∃ W0 : World, W0 = w3 := ⟨_, rfl⟩
 subst hW0
 have hB0 : Below w.heap.size w W0 := hBw3
 go_wp2
 go_loopw [3, 5, 21] (fun s3 _ s5 wr => ∃ (k : Nat) (sex : Int), k ≤ t.2.length ∧ s5 = .int .i64 k ∧ s3 = .int .i64 sex ∧ Hid (r = kinGo sex (t.2.drop k)) ∧ Below W0.heap.size W0 wr) (fun _ _ s5 _ => t.2.length - (intOf s5).toNat)
 case atStart => exact ⟨0, t.1, Nat.zero_le _, rfl, rfl, HK, Below.refl _ _⟩
 case round =>
  clear HK
  obtain ⟨wb, hwb⟩ : ∃ wm : World, wm = wr := ⟨_, rfl⟩
  subst hwb
  obtain ⟨k, sex, hk, rfl, rfl, hK, hbb⟩ := hrel
  have hBb : Below w.heap.size w wb := hB0.trans (hbb.mono hB0.size)
  have sR := hbb.size
  by_cases hlt : k < t.2.length
  ·have hI : (k : Int) < (t.2.length : Int) := by omega
   obtain ⟨sb, soff, ki, ag, rfl, hx, c0, c1, -, -, -, -, sbl, -⟩ := (hb.below hBb).stp_at hlt
   obtain ⟨r2, hlet_r2⟩ : ∃ r, r = stFits (ki, ag) sex := ⟨_, rfl⟩
   have H2 := Lib.hid hlet_r2
   clear hlet_r2
   have hK2 := Lib.hid (show r = (r2 && kinGo (stSex ki) (t.2.drop (k + 1))) by rw [hK.out, drop_cons hx.out, kinGo, H2.out])
   clear hK hx
   go_wp2_with fail
   refine (stepFitsS_b _ ki ag sex r2 H2.out).mono ?_
   rintro e w1 ⟨rfl, hb1⟩
   have hbb1 : Below W0.heap.size W0 w1 := Below.after bwT hb1 szT
   have qk : w1.cell? ⟨wb.heap.size, 0, none⟩ = some (.int .i64 ki) := oldc hb1 ltT (by simp [go_sem])
   clear hb1 c0 c1
   cases r2
   ·have HF := Lib.hid (show r = false by rw [hK2.out]; rfl)
    have hBw : Below w.heap.size w w1 := hB0.trans (hbb1.mono hB0.size)
    clear hK2 H2 hb
    go_wp2
    go_ret
    exact ⟨ret_bool HF.out.symm, hBw⟩
   ·have hki := (stFits_facts H2.out.symm).1
    have HN := Lib.hid (show r = kinGo (stSex ki) (t.2.drop (k + 1)) by rw [hK2.out, Bool.true_and])
    clear hK2 H2
    dsimp only at hki
    go_wp2_with fail
    refine (stepSexS_any _ ki hki).mono ?_
    rintro e w2 ⟨rfl, hb2⟩
    have hbb2 : Below W0.heap.size W0 w2 := hbb1.trans (hb2.mono hbb1.size)
    clear hb2 hbb1
    go_wp2
    go_roundw
    case rel => exact ⟨k + 1, _, by omega, by go_num, rfl, HN, hbb2⟩
    case measure => simp [intOf]; omega
  ·have HF := Lib.hid (show r = true by rw [hK.out, List.drop_eq_nil_of_le (by omega)]; rfl)
   have nI : ¬ (k : Int) < (t.2.length : Int) := by omega
   clear hK hb
   go_wp2
   go_ret
   exact ⟨ret_bool HF.out.symm, hBb⟩
set_option maxHeartbeats 4000000 in
theorem egoS_any {z : Bool} {lo hi : Nat} (w : World) (a b : Value) (t : Kin) (h : Rd z lo hi w [a, b] t) (R : Int) (hR : R = egoOf t) : Calls Tryz.prog 129 #[.agg #[a, b]] w (PostI w R) := by
 obtain ⟨rfl, hI, hb⟩ := h.kin
 clear h
 obtain ⟨e, l⟩ := t
 dsimp only at hb hI ⊢
 obtain ⟨ao, n, cap, rfl, hn, hnc, hcm, hnone⟩ := hb.shape
 subst hn
 unfold maxLen at *
 have HR := Lib.hid hR
 clear hR hnone
 by_cases h0 : e = 0
 ·subst h0
  cases l with
  | nil =>
    have HF := Lib.hid (show R = 0 by rw [HR.out]; rfl)
    simp only [List.length_nil] at *
    clear HR hb
    go_enter Tryz.func129, Tryz.ntmps129
    go_wp2
    go_ret
    exact ⟨ret_int HF.out.symm, bwT⟩
  | cons s l =>
    have hpos : 0 < (s :: l).length := by simp
    obtain ⟨sb, soff, ki, ag, rfl, hx, c0, c1, -, -, -, -, sbl, -⟩ := hb.stp_at (i := 0) hpos
    have hx' := hx.out
    simp only [List.getElem?_cons_zero, Option.some.injEq] at hx'
    subst hx'
    have HF := Lib.hid (show R = if ki = 7 then 2 else if ki = 8 then 1 else 0 by rw [HR.out]; rfl)
    obtain ⟨m, hm⟩ : ∃ m, m = ((ki, ag) :: l : List Stp).length := ⟨_, rfl⟩
    have hmp : 0 < m := by rw [hm]; simp
    rw [← hm]
    rw [← hm] at hnc
    have hmn : ((m : Int) == 0) = false := by simp; omega
    have hmI : (0 : Int) < (m : Int) := by omega
    clear HR hb hx hm hpos
    simp only [Nat.zero_mul, Nat.add_zero] at c0 c1
    by_cases k7 : ki = 7
    ·subst k7
     go_enter Tryz.func129, Tryz.ntmps129
     go_wp2
     go_ret
     exact ⟨ret_int (by rw [HF.out]; rfl), bwT⟩
    ·have n7 : (ki == 7) = false := by simpa using k7
     by_cases k8 : ki = 8
     ·subst k8
      go_enter Tryz.func129, Tryz.ntmps129
      go_wp2
      go_ret
      exact ⟨ret_int (by rw [HF.out]; rfl), bwT⟩
     ·have n8 : (ki == 8) = false := by simpa using k8
      have HF := Lib.hid (show R = 0 by rw [HF.out, if_neg k7, if_neg k8])
      go_enter Tryz.func129, Tryz.ntmps129
      go_wp2
      go_ret
      exact ⟨ret_int HF.out.symm, bwT⟩
 ·have HF := Lib.hid (show R = e by rw [HR.out]; simp only [egoOf]; rw [if_neg h0])
  have n0 : (e == 0) = false := by simpa using h0
  have m0 : (e != 0) = true := by simpa using h0
  clear HR hb
  go_enter Tryz.func129, Tryz.ntmps129
  go_wp2
  go_ret
  exact ⟨ret_int HF.out.symm, bwT⟩
end Go.Proofs.YtdpkldapobbnpaaGreatDoor
