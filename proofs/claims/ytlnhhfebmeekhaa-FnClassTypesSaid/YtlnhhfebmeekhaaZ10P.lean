/- Texts laid one behind the other (merge.py): Rev, TypS, TPmS, AlwS. -/
import Derived.Test.YtlnhhfebmeekhaaRul
import Derived.Test.YtlnhhfebmeekhaaZ10J
import Derived.Test.YtlnhhfebmeekhaaPerm
import Derived.Test.YtlnhhfebmeekhaaAlwI
namespace Go.Proofs.Ytlnhhfebmeekhaa
set_option linter.unusedVariables false
set_option linter.unusedSimpArgs false
open Go.RowKit

/-! ### Rev -/
section

def backSt (s : Stp) (sex : Int) : Stp :=
  if s.1 = 1 ∨ s.1 = 2 then (if sex = 1 then 5 else 6, 0)
  else if s.1 = 5 ∨ s.1 = 6 then (if sex = 1 then 1 else 2, 0)
  else if s.1 = 3 ∨ s.1 = 4 then (if sex = 1 then 3 else 4, if s.2 = 0 then 0 else 3 - s.2)
  else if s.1 = 7 then (8, 0) else (7, 0)
/-- The steps back, from the first step's on. -/
def backs : Int → List Stp → List Stp
  | _, [] => []
  | sex, s :: l => backSt s sex :: backs (stSex s.1) l
def revV (t : Kin) : Bool := isKin t && decide (t.2 = [] ∨ egoOf t ≠ 0)
def revK (t : Kin) : Kin := (sexOf t, (backs (egoOf t) t.2).reverse)
def revX (t : Kin) : Kin := if revV t = true then revK t else (0, [])
theorem backs_len : ∀ (l : List Stp) (sex : Int), (backs sex l).length = l.length
  | [], _ => rfl
  | s :: l, sex => by rw [backs, List.length_cons, List.length_cons, backs_len l]
theorem backs_at : ∀ (l : List Stp) (sex : Int) (i : Nat) (s : Stp), l[i]? = some s → (backs sex l)[i]? = some (backSt s (match i with | 0 => sex | k + 1 => match l[k]? with | some x => stSex x.1 | none => 0))
  | [], _, i, s, h => by simp at h
  | x :: l, sex, 0, s, h => by simp at h; subst h; rfl
  | x :: l, sex, 1, s, h => by
    have := backs_at l (stSex x.1) 0 s (by simpa using h)
    simpa [backs] using this
  | x :: l, sex, k + 2, s, h => by
    have := backs_at l (stSex x.1) (k + 1) s (by simpa using h)
    simpa [backs] using this
theorem revK_at {t : Kin} {i : Nat} {s : Stp} (h : t.2[i]? = some s) : (backs (egoOf t) t.2)[i]? = some (backSt s (sexAt t i)) := by
  rw [backs_at _ _ _ _ h]
  cases i with
  | zero => rfl
  | succ k => rfl
theorem drop_rev {α : Type} {l : List α} {i : Nat} {x : α} (h : l[i]? = some x) : (l.drop i).reverse = (l.drop (i + 1)).reverse ++ [x] := by
  rw [drop_cons h, List.reverse_cons]
theorem take_rev {α : Type} {l : List α} {i : Nat} {x : α} (h : l[i]? = some x) : (l.take (i + 1)).reverse = x :: (l.take i).reverse := by
  rw [take_snoc h, List.reverse_append]; rfl
theorem sexEnd_app (a b : List Stp) (sex : Int) : sexEnd sex (a ++ b) = sexEnd (sexEnd sex a) b := by
  induction a generalizing sex with
  | nil => rfl
  | cons s a ih => rw [List.cons_append, sexEnd_cons, ih, sexEnd_cons]
theorem back_fits {s : Stp} {sex : Int} (hs : sex = 1 ∨ sex = 2) (h : stFits s sex = true) : stFits (backSt s sex) (stSex s.1) = true ∧ stSex (backSt s sex).1 = sex := by
  obtain ⟨⟨h1, h2⟩, ⟨h3, h4⟩, h5, h6⟩ := stFits_facts h
  obtain ⟨k, a⟩ := s
  dsimp only at *
  have hk : k = 1 ∨ k = 2 ∨ k = 3 ∨ k = 4 ∨ k = 5 ∨ k = 6 ∨ k = 7 ∨ k = 8 := by omega
  have ha : a = 0 ∨ a = 1 ∨ a = 2 := by omega
  rcases hk with rfl | rfl | rfl | rfl | rfl | rfl | rfl | rfl <;> rcases ha with rfl | rfl | rfl <;> rcases hs with rfl | rfl <;>
    first
    | exact ⟨by decide, by decide⟩
    | (exfalso; omega)
theorem back_kin : ∀ (l : List Stp) (sex : Int), (sex = 1 ∨ sex = 2) → kinGo sex l = true → kinGo (sexEnd sex l) (backs sex l).reverse = true ∧ sexEnd (sexEnd sex l) (backs sex l).reverse = sex
  | [], _, _, _ => ⟨rfl, rfl⟩
  | s :: l, sex, hs, h => by
    rw [kinGo, Bool.and_eq_true] at h
    obtain ⟨i1, i2⟩ := back_kin l (stSex s.1) (stSex_in _) h.2
    obtain ⟨b1, b2⟩ := back_fits hs h.1
    rw [backs, List.reverse_cons, sexEnd_cons, kinGo_app, sexEnd_app, i1, i2, Bool.true_and]
    refine ⟨?_, ?_⟩
    · rw [kinGo, kinGo, b1]; rfl
    · rw [sexEnd_cons, b2]; rfl
theorem revX_kin (t : Kin) : isKin (revX t) = true := by
  unfold revX
  split
  · rename_i h
    unfold revV at h
    simp only [Bool.and_eq_true, decide_eq_true_eq] at h
    obtain ⟨hk, he⟩ := h
    obtain ⟨h1, h2, h3, -⟩ := isKin_facts hk
    unfold revK isKin
    dsimp only
    simp only [Bool.and_eq_true, decide_eq_true_eq]
    refine ⟨?_, by rw [List.length_reverse, backs_len]; exact h2, ?_⟩
    · unfold sexOf
      split
      · rename_i s _; rcases stSex_in s.1 with e | e <;> rw [e] <;> omega
      · exact h1
    · rcases he with he | he
      · rw [he]; rfl
      · have hin := egoOf_in hk
        have hg := kinGo_ego hk
        have := (back_kin t.2 (egoOf t) (by omega) hg).1
        cases hl : t.2 with
        | nil => rfl
        | cons s l =>
          have e : sexOf t = sexEnd (egoOf t) t.2 := by
            unfold sexOf sexEnd
            cases hx : t.2.getLast? with
            | none => rw [hl] at hx; simp at hx
            | some z => rfl
          rw [← hl, e]; exact this
  · rfl
/-- What a type that is listed leads back by. -/
theorem revX_eq {t : Kin} (h : isKin t = true) (he : t.1 ≠ 0) : revX t = revK t := by
  unfold revX
  rw [if_pos]
  unfold revV
  rw [h, Bool.true_and, decide_eq_true_eq]
  right
  unfold egoOf
  rw [if_neg he]; exact he
/-! ### terms that are reciprocal -/

end

/-! ### TypS -/
section

theorem stepSexS_any (w : World) (k : Int) (h : 1 ≤ k ∧ k ≤ 8) : Calls Try.prog 96 #[.int .i64 k] w (PostI w (stSex k)) := by
  obtain rfl | rfl | rfl | rfl | rfl | rfl | rfl | rfl : k = 1 ∨ k = 2 ∨ k = 3 ∨ k = 4 ∨ k = 5 ∨ k = 6 ∨ k = 7 ∨ k = 8 := by omega
  all_goals
    go_enter Try.func96, Try.ntmps96
    go_wp2
    go_ret
    exact ⟨rfl, Below.refl _ _⟩
set_option maxHeartbeats 4000000 in
theorem stepFitsS_b (w : World) (ki ag sex : Int) (r : Bool) (hr : r = stFits (ki, ag) sex) : Calls Try.prog 95 #[.agg #[.int .i64 ki, .int .i64 ag], .int .i64 sex] w (PostB w r) := by
  obtain ⟨r1, hlet_r1⟩ : ∃ r, r = decide (1 ≤ ki ∧ ki ≤ 8) := ⟨_, rfl⟩
  have H1 := Lib.hid hlet_r1
  clear hlet_r1
  obtain ⟨r2, hlet_r2⟩ : ∃ r, r = decide (0 ≤ ag ∧ ag ≤ 2) := ⟨_, rfl⟩
  have H2 := Lib.hid hlet_r2
  clear hlet_r2
  have HR := Lib.hid hr
  clear hr
  go_enter Try.func95, Try.ntmps95
  go_wp2_with fail
  refine (l1In_b ki 1 8 _ r1 H1.out).mono ?_
  rintro e1 w1 ⟨rfl, hbw1⟩
  have hpw1 : Below w.heap.size w w1 := Below.after bwT hbw1 szT
  have sw1 := hpw1.size
  have hBw1 : Below w.heap.size w w1 := hpw1
  have l_s : w.heap.size < w1.heap.size := by have := hbw1.size; simp at this; omega
  have q_s0 : w1.cell? ⟨w.heap.size, 0, none⟩ = some (.int .i64 ki) := oldc hbw1 ltT (by simp [go_sem])
  have q_s1 : w1.cell? ⟨w.heap.size, 1, none⟩ = some (.int .i64 ag) := oldc hbw1 ltT (by simp [go_sem])
  clear hbw1 hpw1
  cases r1
  · have HF := Lib.hid (show r = false by rw [HR.out]; have := H1.out; simp only [stFits, ← this, Bool.false_and])
    clear HR H1 H2
    go_wp2
    go_ret
    exact ⟨ret_bool HF.out.symm, hBw1⟩
  go_wp2_with fail
  refine (l1In_b ag 0 2 _ r2 H2.out).mono ?_
  rintro e2 w2 ⟨rfl, hbw2⟩
  have hpw2 : Below w1.heap.size w1 w2 := Below.after bwT hbw2 szT
  have sw2 := hpw2.size
  have hBw2 : Below w.heap.size w w2 := Below.trans hBw1 (Below.mono hpw2 hBw1.size)
  have q_s0 := oldc hpw2 l_s q_s0
  have q_s1 := oldc hpw2 l_s q_s1
  have l_s := Nat.lt_of_lt_of_le l_s sw2
  clear hbw2 hpw2
  cases r2
  · have HF := Lib.hid (show r = false by rw [HR.out]; have := H2.out; simp only [stFits, ← this, Bool.false_and, Bool.and_false])
    clear HR H1 H2
    go_wp2
    go_ret
    exact ⟨ret_bool HF.out.symm, hBw2⟩
  have hk : 1 ≤ ki ∧ ki ≤ 8 := of_decide_eq_true H1.out.symm
  have hg : 0 ≤ ag ∧ ag ≤ 2 := of_decide_eq_true H2.out.symm
  clear H1 H2
  obtain ⟨b1, b2⟩ := hk
  obtain ⟨b3, b4⟩ := hg
  by_cases g0 : ag = 0
  · subst g0
    by_cases k7 : ki = 7
    · subst k7
      by_cases s1 : sex = 1
      · subst s1
        have HF := Lib.hid (show r = false by rw [HR.out]; simp only [stFits]; rfl)
        clear HR
        go_wp2
        go_ret
        exact ⟨ret_bool HF.out.symm, hBw2⟩
      · skip
        have s1e : (sex == 1) = false := by simpa using s1
        have s1n : (sex != 1) = true := by simpa using s1
        have HF := Lib.hid (show r = true by rw [HR.out]; simp only [stFits]; simp [*])
        clear HR
        go_wp2
        go_ret
        exact ⟨ret_bool HF.out.symm, hBw2⟩
    by_cases k8 : ki = 8
    · subst k8
      by_cases s2 : sex = 2
      · subst s2
        have HF := Lib.hid (show r = false by rw [HR.out]; simp only [stFits]; rfl)
        clear HR
        go_wp2
        go_ret
        exact ⟨ret_bool HF.out.symm, hBw2⟩
      · skip
        have s2e : (sex == 2) = false := by simpa using s2
        have s2n : (sex != 2) = true := by simpa using s2
        have HF := Lib.hid (show r = true by rw [HR.out]; simp only [stFits]; simp [*])
        clear HR
        go_wp2
        go_ret
        exact ⟨ret_bool HF.out.symm, hBw2⟩
    have k7e : (ki == 7) = false := by simpa using k7
    have k7n : (ki != 7) = true := by simpa using k7
    have k8e : (ki == 8) = false := by simpa using k8
    have k8n : (ki != 8) = true := by simpa using k8
    have HF := Lib.hid (show r = true by rw [HR.out]; simp only [stFits]; simp [*])
    clear HR
    go_wp2
    go_ret
    exact ⟨ret_bool HF.out.symm, hBw2⟩
  have g0e : (ag == 0) = false := by simpa using g0
  have g0n : (ag != 0) = true := by simpa using g0
  by_cases k3 : ki = 3
  · subst k3
    have HF := Lib.hid (show r = true by rw [HR.out]; simp only [stFits]; simp [*])
    clear HR
    go_wp2
    go_ret
    exact ⟨ret_bool HF.out.symm, hBw2⟩
  by_cases k4 : ki = 4
  · subst k4
    have HF := Lib.hid (show r = true by rw [HR.out]; simp only [stFits]; simp [*])
    clear HR
    go_wp2
    go_ret
    exact ⟨ret_bool HF.out.symm, hBw2⟩
  have k3e : (ki == 3) = false := by simpa using k3
  have k3n : (ki != 3) = true := by simpa using k3
  have k4e : (ki == 4) = false := by simpa using k4
  have k4n : (ki != 4) = true := by simpa using k4
  have HF := Lib.hid (show r = false by rw [HR.out]; simp only [stFits]; simp [*])
  clear HR
  go_wp2
  go_ret
  exact ⟨ret_bool HF.out.symm, hBw2⟩
set_option maxHeartbeats 4000000 in
theorem isTypeS_b {z : Bool} {lo hi : Nat} (w : World) (a b : Value) (t : Kin) (h : Rd z lo hi w [a, b] t) (r : Bool) (hr : r = isKin t) : Calls Try.prog 61 #[.agg #[a, b]] w (PostB w r) := by
  obtain ⟨rfl, hI, hb⟩ := h.kin
  clear h
  obtain ⟨ao, n, cap, rfl, hn, hnc, hcm, hnone⟩ := hb.shape
  subst hn
  unfold maxLen at *
  clear hnone
  have HR := Lib.hid hr
  clear hr
  obtain ⟨r1, hlet_r1⟩ : ∃ r, r = decide (0 ≤ t.1 ∧ t.1 ≤ 2) := ⟨_, rfl⟩
  have H1 := Lib.hid hlet_r1
  clear hlet_r1
  go_enter Try.func61, Try.ntmps61
  go_wp2_with fail
  refine (l1In_b t.1 0 2 _ r1 H1.out).mono ?_
  rintro e3 w3 ⟨rfl, hbw3⟩
  have hpw3 : Below w.heap.size w w3 := Below.after bwT hbw3 szT
  have sw3 := hpw3.size
  have hBw3 : Below w.heap.size w w3 := hpw3
  have l_t : w.heap.size < w3.heap.size := by have := hbw3.size; simp at this; omega
  have q_t0 : w3.cell? ⟨w.heap.size, 0, none⟩ = some (.int .i64 t.1) := oldc hbw3 ltT (by simp [go_sem])
  have q_t1 : w3.cell? ⟨w.heap.size, 1, none⟩ = some (.slice ao t.2.length cap) := oldc hbw3 ltT (by simp [go_sem])
  clear hbw3 hpw3
  cases r1
  · have HF := Lib.hid (show r = false by rw [HR.out]; have := H1.out; simp only [isKin, ← this, Bool.false_and])
    clear HR hb H1
    go_wp2
    go_ret
    exact ⟨ret_bool HF.out.symm, hBw3⟩
  by_cases a3 : 8 < t.2.length
  · have HF := Lib.hid (show r = false by rw [HR.out]; simp only [isKin, Bool.and_eq_false_iff, decide_eq_false_iff_not]; omega)
    have a3I : (8 : Int) < (t.2.length : Int) := by omega
    clear HR hb H1
    go_wp2
    go_ret
    exact ⟨ret_bool HF.out.symm, hBw3⟩
  have a3I : ¬ (8 : Int) < (t.2.length : Int) := by omega
  have HK := Lib.hid (show r = kinGo t.1 t.2 by rw [HR.out]; have := H1.out; simp only [isKin, ← this]; rw [decide_eq_true (by omega), Bool.true_and, Bool.true_and])
  clear HR H1
  obtain ⟨W0, hW0⟩ : ∃ W0 : World, W0 = w3 := ⟨_, rfl⟩
  subst hW0
  have hB0 : Below w.heap.size w W0 := hBw3
  go_wp2
  go_loopw [3, 5, 21] (fun s3 _ s5 wr => ∃ (k : Nat) (sex : Int), k ≤ t.2.length ∧ s5 = .int .i64 k ∧ s3 = .int .i64 sex ∧ Hid (r = kinGo sex (t.2.drop k)) ∧ Below W0.heap.size W0 wr) (fun _ _ s5 _ => t.2.length - (intOf s5).toNat)
  case atStart => exact ⟨0, t.1, Nat.zero_le _, rfl, rfl, HK, Below.refl _ _⟩
  case round =>
    clear HK
    obtain ⟨wb, hwb⟩ : ∃ wm : World, wm = wr := ⟨_, rfl⟩
    subst hwb
    obtain ⟨k, sex, hk, rfl, rfl, hK, hbb⟩ := hrel
    have hBb : Below w.heap.size w wb := hB0.trans (hbb.mono hB0.size)
    have sR := hbb.size
    by_cases hlt : k < t.2.length
    · have hI : (k : Int) < (t.2.length : Int) := by omega
      obtain ⟨sb, soff, ki, ag, rfl, hx, c0, c1, -, -, -, -, sbl, -⟩ := (hb.below hBb).stp_at hlt
      obtain ⟨r2, hlet_r2⟩ : ∃ r, r = stFits (ki, ag) sex := ⟨_, rfl⟩
      have H2 := Lib.hid hlet_r2
      clear hlet_r2
      have hK2 := Lib.hid (show r = (r2 && kinGo (stSex ki) (t.2.drop (k + 1))) by rw [hK.out, drop_cons hx.out, kinGo, H2.out])
      clear hK hx
      go_wp2_with fail
      refine (stepFitsS_b _ ki ag sex r2 H2.out).mono ?_
      rintro e w1 ⟨rfl, hb1⟩
      have hbb1 : Below W0.heap.size W0 w1 := Below.after bwT hb1 szT
      have qk : w1.cell? ⟨wb.heap.size, 0, none⟩ = some (.int .i64 ki) := oldc hb1 ltT (by simp [go_sem])
      clear hb1 c0 c1
      cases r2
      · have HF := Lib.hid (show r = false by rw [hK2.out]; rfl)
        have hBw : Below w.heap.size w w1 := hB0.trans (hbb1.mono hB0.size)
        clear hK2 H2 hb
        go_wp2
        go_ret
        exact ⟨ret_bool HF.out.symm, hBw⟩
      · have hki := (stFits_facts H2.out.symm).1
        have HN := Lib.hid (show r = kinGo (stSex ki) (t.2.drop (k + 1)) by rw [hK2.out, Bool.true_and])
        clear hK2 H2
        dsimp only at hki
        go_wp2_with fail
        refine (stepSexS_any _ ki hki).mono ?_
        rintro e w2 ⟨rfl, hb2⟩
        have hbb2 : Below W0.heap.size W0 w2 := hbb1.trans (hb2.mono hbb1.size)
        clear hb2 hbb1
        go_wp2
        go_roundw
        case rel => exact ⟨k + 1, _, by omega, by go_num, rfl, HN, hbb2⟩
        case measure => simp [intOf]; omega
    · have HF := Lib.hid (show r = true by rw [hK.out, List.drop_eq_nil_of_le (by omega)]; rfl)
      have nI : ¬ (k : Int) < (t.2.length : Int) := by omega
      clear hK hb
      go_wp2
      go_ret
      exact ⟨ret_bool HF.out.symm, hBb⟩

end

/-! ### TPmS -/
section

theorem comp_getP {p q : List Int} {x : Int} (h0 : 0 ≤ x) (h1 : x < p.length) : getP (comp p q) x = getP q (getP p x) := by
  have h := getP_some h0 h1
  have h2 : (comp p q)[x.toNat]? = some (getP q (getP p x)) := by
    show (p.map fun x => q.getD x.toNat 0)[x.toNat]? = _
    rw [List.getElem?_map, h]; rfl
  simp [getP, List.getD_eq_getElem?_getD, h2]
theorem idL_getP {n x : Nat} (h : x < n) : getP (idL n) (x : Int) = x := by simp [getP, idL, List.getD_eq_getElem?_getD, h]


end

/-! ### AlwS -/
section

set_option maxHeartbeats 1000000 in
theorem lastS_any {z : Bool} {lo hi : Nat} (w : World) (a b : Value) (t : Kin) (h : Rd z lo hi w [a, b] t) (ht : isKin t = true) (R : Int) (hR : R = sexOf t) : Calls Try.prog 62 #[.agg #[a, b]] w (PostI w R) := by
  obtain ⟨rfl, hI, hb⟩ := h.kin
  have HK := Lib.hid (isKin_facts ht)
  have HR := Lib.hid hR
  clear h hR ht
  obtain ⟨ao, n, cap, rfl, hn, hnc, hcm, hnone⟩ := hb.shape
  subst hn
  unfold maxLen at *
  clear hnone
  obtain ⟨L, hL⟩ : ∃ L, L = t.2.length := ⟨_, rfl⟩
  rw [← hL]
  rw [← hL] at hnc hb
  by_cases h0 : L = 0
  · have HF := Lib.hid (show R = t.1 by rw [HR.out, sexOf, List.getLast?_eq_getElem?, List.getElem?_eq_none (by omega)])
    subst h0
    clear HK HR hb hL
    go_enter Try.func62, Try.ntmps62
    go_wp2
    go_ret
    exact ⟨ret_int HF.out.symm, bwT⟩
  · obtain ⟨m, hm⟩ : ∃ m, L = m + 1 := ⟨L - 1, by omega⟩
    obtain ⟨sb, soff, ki, ag, rfl, hx, c0, c1, -, -, -, -, sbl, -⟩ := hb.stp_at (i := m) (show m < L by omega)
    have hki := (HK.out.2.2.2 _ (List.mem_of_getElem? hx.out)).1
    have HX := Lib.hid (show R = stSex ki by rw [HR.out, sexOf, List.getLast?_eq_getElem?, ← hL, hm, Nat.add_sub_cancel, hx.out])
    have n0 : ((L : Int) == 0) = false := by simp; omega
    have q2 : (L : Int) - 1 = (m : Int) := by omega
    have q : wrap64 (m : Int) = (m : Int) := IntWalk.wrap64_in _ (by omega)
    have hml : (m : Int) < (L : Int) := by omega
    dsimp only at hki
    clear HK HR hb hx hm h0 hL
    go_enter Try.func62, Try.ntmps62
    go_wp2_with fail
    refine (stepSexS_any _ ki hki).mono ?_
    rintro e11 w11 ⟨rfl, hbw11⟩
    have hpw11 : Below w.heap.size w w11 := Below.after bwT hbw11 szT
    have sw11 := hpw11.size
    have hBw11 : Below w.heap.size w w11 := hpw11
    have l_t : w.heap.size < w11.heap.size := by have := hbw11.size; simp at this; omega
    have q_t0 : w11.cell? ⟨w.heap.size, 0, none⟩ = some (.int .i64 t.1) := oldc hbw11 ltT (by simp [go_sem])
    have q_t1 : w11.cell? ⟨w.heap.size, 1, none⟩ = some (.slice (some ⟨sb, soff, none⟩) L cap) := oldc hbw11 ltT (by simp [go_sem])
    clear hbw11 hpw11
    rw [← HX.out]
    go_wp2
    go_ret
    exact ⟨rfl, hBw11⟩

end

end Go.Proofs.Ytlnhhfebmeekhaa
