/- Contracts of the program's functions on kin types. Written by typ_gen.py. -/
import Derived.Test.YtlnhhfebmeekhaaZ10J
namespace Go.Proofs.Ytlnhhfebmeekhaa
set_option linter.unusedVariables false
set_option linter.unusedSimpArgs false
open Go.RowKit

theorem stepSexI_any (w : World) (k : Int) (h : 1 ≤ k ∧ k ≤ 8) : Calls Try.prog 97 #[.int .i64 k] w (PostI w (stSex k)) := by
  obtain rfl | rfl | rfl | rfl | rfl | rfl | rfl | rfl : k = 1 ∨ k = 2 ∨ k = 3 ∨ k = 4 ∨ k = 5 ∨ k = 6 ∨ k = 7 ∨ k = 8 := by omega
  all_goals
    go_enter Try.func97, Try.ntmps97
    go_wp2
    go_ret
    exact ⟨rfl, Below.refl _ _⟩
set_option maxHeartbeats 4000000 in
theorem stepFitsI_b (w : World) (ki ag sex : Int) (r : Bool) (hr : r = stFits (ki, ag) sex) : Calls Try.prog 92 #[.agg #[.int .i64 ki, .int .i64 ag], .int .i64 sex] w (PostB w r) := by
  have HR := Lib.hid hr
  clear hr
  by_cases a1 : ki < 1
  · go_enter Try.func92, Try.ntmps92
    go_wp2
    go_ret
    exact ⟨ret_bool (by rw [HR.out]; symm; simp only [stFits, Bool.and_eq_false_iff, decide_eq_false_iff_not]; omega), bwT⟩
  by_cases a2 : 8 < ki
  · go_enter Try.func92, Try.ntmps92
    go_wp2
    go_ret
    exact ⟨ret_bool (by rw [HR.out]; symm; simp only [stFits, Bool.and_eq_false_iff, decide_eq_false_iff_not]; omega), bwT⟩
  by_cases a3 : ag < 0
  · go_enter Try.func92, Try.ntmps92
    go_wp2
    go_ret
    exact ⟨ret_bool (by rw [HR.out]; symm; simp only [stFits, Bool.and_eq_false_iff, decide_eq_false_iff_not]; omega), bwT⟩
  by_cases a4 : 2 < ag
  · go_enter Try.func92, Try.ntmps92
    go_wp2
    go_ret
    exact ⟨ret_bool (by rw [HR.out]; symm; simp only [stFits, Bool.and_eq_false_iff, decide_eq_false_iff_not]; omega), bwT⟩
  have b1 : 1 ≤ ki := by omega
  have b2 : ki ≤ 8 := by omega
  have b3 : 0 ≤ ag := by omega
  have b4 : ag ≤ 2 := by omega
  by_cases g0 : ag = 0
  · subst g0
    by_cases k7 : ki = 7
    · subst k7
      by_cases s1 : sex = 1
      · subst s1
        have HF := Lib.hid (show r = false by rw [HR.out]; simp only [stFits]; rfl)
        clear HR
        go_enter Try.func92, Try.ntmps92
        go_wp2
        go_ret
        exact ⟨ret_bool HF.out.symm, bwT⟩
      · skip
        have s1e : (sex == 1) = false := by simpa using s1
        have s1n : (sex != 1) = true := by simpa using s1
        have HF := Lib.hid (show r = true by rw [HR.out]; simp only [stFits]; simp [*])
        clear HR
        go_enter Try.func92, Try.ntmps92
        go_wp2
        go_ret
        exact ⟨ret_bool HF.out.symm, bwT⟩
    by_cases k8 : ki = 8
    · subst k8
      by_cases s2 : sex = 2
      · subst s2
        have HF := Lib.hid (show r = false by rw [HR.out]; simp only [stFits]; rfl)
        clear HR
        go_enter Try.func92, Try.ntmps92
        go_wp2
        go_ret
        exact ⟨ret_bool HF.out.symm, bwT⟩
      · skip
        have s2e : (sex == 2) = false := by simpa using s2
        have s2n : (sex != 2) = true := by simpa using s2
        have HF := Lib.hid (show r = true by rw [HR.out]; simp only [stFits]; simp [*])
        clear HR
        go_enter Try.func92, Try.ntmps92
        go_wp2
        go_ret
        exact ⟨ret_bool HF.out.symm, bwT⟩
    have k7e : (ki == 7) = false := by simpa using k7
    have k7n : (ki != 7) = true := by simpa using k7
    have k8e : (ki == 8) = false := by simpa using k8
    have k8n : (ki != 8) = true := by simpa using k8
    have HF := Lib.hid (show r = true by rw [HR.out]; simp only [stFits]; simp [*])
    clear HR
    go_enter Try.func92, Try.ntmps92
    go_wp2
    go_ret
    exact ⟨ret_bool HF.out.symm, bwT⟩
  have g0e : (ag == 0) = false := by simpa using g0
  have g0n : (ag != 0) = true := by simpa using g0
  by_cases k3 : ki = 3
  · subst k3
    have HF := Lib.hid (show r = true by rw [HR.out]; simp only [stFits]; simp [*])
    clear HR
    go_enter Try.func92, Try.ntmps92
    go_wp2
    go_ret
    exact ⟨ret_bool HF.out.symm, bwT⟩
  by_cases k4 : ki = 4
  · subst k4
    have HF := Lib.hid (show r = true by rw [HR.out]; simp only [stFits]; simp [*])
    clear HR
    go_enter Try.func92, Try.ntmps92
    go_wp2
    go_ret
    exact ⟨ret_bool HF.out.symm, bwT⟩
  have k3e : (ki == 3) = false := by simpa using k3
  have k3n : (ki != 3) = true := by simpa using k3
  have k4e : (ki == 4) = false := by simpa using k4
  have k4n : (ki != 4) = true := by simpa using k4
  have HF := Lib.hid (show r = false by rw [HR.out]; simp only [stFits]; simp [*])
  clear HR
  go_enter Try.func92, Try.ntmps92
  go_wp2
  go_ret
  exact ⟨ret_bool HF.out.symm, bwT⟩
set_option maxHeartbeats 4000000 in
theorem isTypeI_b {z : Bool} {lo hi : Nat} (w : World) (a b : Value) (t : Kin) (h : Rd z lo hi w [a, b] t) (r : Bool) (hr : r = isKin t) : Calls Try.prog 63 #[.agg #[a, b]] w (PostB w r) := by
  obtain ⟨rfl, hI, hb⟩ := h.kin
  clear h
  obtain ⟨ao, n, cap, rfl, hn, hnc, hcm, hnone⟩ := hb.shape
  subst hn
  unfold maxLen at *
  clear hnone
  by_cases a1 : t.1 < 0
  · have HF := Lib.hid (show r = false by rw [hr]; simp only [isKin, Bool.and_eq_false_iff, decide_eq_false_iff_not]; omega)
    clear hr hb
    go_enter Try.func63, Try.ntmps63
    go_wp2
    go_ret
    exact ⟨ret_bool HF.out.symm, bwT⟩
  by_cases a2 : 2 < t.1
  · have HF := Lib.hid (show r = false by rw [hr]; simp only [isKin, Bool.and_eq_false_iff, decide_eq_false_iff_not]; omega)
    clear hr hb
    go_enter Try.func63, Try.ntmps63
    go_wp2
    go_ret
    exact ⟨ret_bool HF.out.symm, bwT⟩
  have HR := Lib.hid hr
  clear hr
  by_cases a3 : 8 < t.2.length
  · have HF := Lib.hid (show r = false by rw [HR.out]; simp only [isKin, Bool.and_eq_false_iff, decide_eq_false_iff_not]; omega)
    have a3I : (8 : Int) < (t.2.length : Int) := by omega
    clear HR hb
    go_enter Try.func63, Try.ntmps63
    go_wp2
    go_ret
    exact ⟨ret_bool HF.out.symm, bwT⟩
  have a3I : ¬ (8 : Int) < (t.2.length : Int) := by omega
  have HK := Lib.hid (show r = kinGo t.1 t.2 by rw [HR.out]; simp only [isKin]; rw [decide_eq_true (by omega), decide_eq_true (by omega), Bool.true_and, Bool.true_and])
  clear HR
  go_enter Try.func63, Try.ntmps63
  obtain ⟨W0, hW0⟩ : ∃ W0 : World, W0 = w.alloc (.cells #[.int .i64 t.1, .slice ao t.2.length cap] 53) := ⟨_, rfl⟩
  have hB0 : Below w.heap.size w W0 := by subst hW0; exact bwT
  go_wp2
  rw [← hW0]
  clear hW0
  go_loopw [3, 5, 25] (fun s3 _ s5 wr => ∃ (k : Nat) (sex : Int), k ≤ t.2.length ∧ s5 = .int .i64 k ∧ s3 = .int .i64 sex ∧ Hid (r = kinGo sex (t.2.drop k)) ∧ Below W0.heap.size W0 wr) (fun _ _ s5 _ => t.2.length - (intOf s5).toNat)
  case atStart => exact ⟨0, t.1, Nat.zero_le _, rfl, rfl, HK, Below.refl _ _⟩
  case round =>
    clear HK
    obtain ⟨wb, hwb⟩ : ∃ wm : World, wm = wr := ⟨_, rfl⟩
    subst hwb
    obtain ⟨k, sex, hk, rfl, rfl, hK, hbb⟩ := hrel
    have hBb : Below w.heap.size w wb := hB0.trans (hbb.mono hB0.size)
    have sR := hbb.size
    by_cases hlt : k < t.2.length
    · have hI : (k : Int) < (t.2.length : Int) := by omega
      obtain ⟨sb, soff, ki, ag, rfl, hx, c0, c1, -, -, -, -, sbl, -⟩ := (hb.below hBb).stp_at hlt
      obtain ⟨r2, hlet_r2⟩ : ∃ r, r = stFits (ki, ag) sex := ⟨_, rfl⟩
      have H2 := Lib.hid hlet_r2
      clear hlet_r2
      have hK2 := Lib.hid (show r = (r2 && kinGo (stSex ki) (t.2.drop (k + 1))) by rw [hK.out, drop_cons hx.out, kinGo, H2.out])
      clear hK hx
      go_wp2_with fail
      refine (stepFitsI_b _ ki ag sex r2 H2.out).mono ?_
      rintro e w1 ⟨rfl, hb1⟩
      have hbb1 : Below W0.heap.size W0 w1 := Below.after bwT hb1 szT
      have qk : w1.cell? ⟨wb.heap.size, 0, none⟩ = some (.int .i64 ki) := oldc hb1 ltT (by simp [go_sem])
      clear hb1 c0 c1
      cases r2
      · have HF := Lib.hid (show r = false by rw [hK2.out]; rfl)
        have hBw : Below w.heap.size w w1 := hB0.trans (hbb1.mono hB0.size)
        clear hK2 H2 hb
        go_wp2
        go_ret
        exact ⟨ret_bool HF.out.symm, hBw⟩
      · have hki := (stFits_facts H2.out.symm).1
        have HN := Lib.hid (show r = kinGo (stSex ki) (t.2.drop (k + 1)) by rw [hK2.out, Bool.true_and])
        clear hK2 H2
        dsimp only at hki
        go_wp2_with fail
        refine (stepSexI_any _ ki hki).mono ?_
        rintro e w2 ⟨rfl, hb2⟩
        have hbb2 : Below W0.heap.size W0 w2 := hbb1.trans (hb2.mono hbb1.size)
        clear hb2 hbb1
        go_wp2
        go_roundw
        case rel => exact ⟨k + 1, _, by omega, by go_num, rfl, HN, hbb2⟩
        case measure => simp [intOf]; omega
    · have HF := Lib.hid (show r = true by rw [hK.out, List.drop_eq_nil_of_le (by omega)]; rfl)
      have nI : ¬ (k : Int) < (t.2.length : Int) := by omega
      clear hK hb
      go_wp2
      go_ret
      exact ⟨ret_bool HF.out.symm, hBb⟩
set_option maxHeartbeats 4000000 in
theorem egoI_any {z : Bool} {lo hi : Nat} (w : World) (a b : Value) (t : Kin) (h : Rd z lo hi w [a, b] t) (R : Int) (hR : R = egoOf t) : Calls Try.prog 64 #[.agg #[a, b]] w (PostI w R) := by
  obtain ⟨rfl, hI, hb⟩ := h.kin
  clear h
  obtain ⟨e, l⟩ := t
  dsimp only at hb hI ⊢
  obtain ⟨ao, n, cap, rfl, hn, hnc, hcm, hnone⟩ := hb.shape
  subst hn
  unfold maxLen at *
  have HR := Lib.hid hR
  clear hR hnone
  by_cases h0 : e = 0
  · subst h0
    cases l with
    | nil =>
      have HF := Lib.hid (show R = 0 by rw [HR.out]; rfl)
      simp only [List.length_nil] at *
      clear HR hb
      go_enter Try.func64, Try.ntmps64
      go_wp2
      go_ret
      exact ⟨ret_int HF.out.symm, bwT⟩
    | cons s l =>
      have hpos : 0 < (s :: l).length := by simp
      obtain ⟨sb, soff, ki, ag, rfl, hx, c0, c1, -, -, -, -, sbl, -⟩ := hb.stp_at (i := 0) hpos
      have hx' := hx.out
      simp only [List.getElem?_cons_zero, Option.some.injEq] at hx'
      subst hx'
      have HF := Lib.hid (show R = if ki = 7 then 2 else if ki = 8 then 1 else 0 by rw [HR.out]; rfl)
      obtain ⟨m, hm⟩ : ∃ m, m = ((ki, ag) :: l : List Stp).length := ⟨_, rfl⟩
      have hmp : 0 < m := by rw [hm]; simp
      rw [← hm]
      rw [← hm] at hnc
      have hmn : ((m : Int) == 0) = false := by simp; omega
      have hmI : (0 : Int) < (m : Int) := by omega
      clear HR hb hx hm hpos
      simp only [Nat.zero_mul, Nat.add_zero] at c0 c1
      by_cases k7 : ki = 7
      · subst k7
        go_enter Try.func64, Try.ntmps64
        go_wp2
        go_ret
        exact ⟨ret_int (by rw [HF.out]; rfl), bwT⟩
      · have n7 : (ki == 7) = false := by simpa using k7
        by_cases k8 : ki = 8
        · subst k8
          go_enter Try.func64, Try.ntmps64
          go_wp2
          go_ret
          exact ⟨ret_int (by rw [HF.out]; rfl), bwT⟩
        · have n8 : (ki == 8) = false := by simpa using k8
          have HF := Lib.hid (show R = 0 by rw [HF.out, if_neg k7, if_neg k8])
          go_enter Try.func64, Try.ntmps64
          go_wp2
          go_ret
          exact ⟨ret_int HF.out.symm, bwT⟩
  · have HF := Lib.hid (show R = e by rw [HR.out]; simp only [egoOf]; rw [if_neg h0])
    have n0 : (e == 0) = false := by simpa using h0
    have m0 : (e != 0) = true := by simpa using h0
    clear HR hb
    go_enter Try.func64, Try.ntmps64
    go_wp2
    go_ret
    exact ⟨ret_int HF.out.symm, bwT⟩
end Go.Proofs.Ytlnhhfebmeekhaa
