/- Texts laid one behind the other (merge.py): TypI, TPm. -/
import Derived.Test.YtefbbbhidnnchaaZ14V
import Derived.Test.YtefbbbhidnnchaaZ14H
import Derived.Test.YtefbbbhidnnchaaZ14C
namespace Go.Proofs.Ytefbbbhidnnchaa
set_option linter.unusedVariables false
set_option linter.unusedSimpArgs false
open Go.RowKit

/-! ### TypI -/
section

theorem stepSexI_any (w : World) (k : Int) (h : 1 ≤ k ∧ k ≤ 8) : Calls Try.prog 87 #[.int .i64 k] w (PostI w (stSex k)) := by
  obtain rfl | rfl | rfl | rfl | rfl | rfl | rfl | rfl : k = 1 ∨ k = 2 ∨ k = 3 ∨ k = 4 ∨ k = 5 ∨ k = 6 ∨ k = 7 ∨ k = 8 := by omega
  all_goals
    go_enter Try.func87, Try.ntmps87
    go_wp2
    go_ret
    exact ⟨rfl, Below.refl _ _⟩
set_option maxHeartbeats 4000000 in
theorem stepFitsI_b (w : World) (ki ag sex : Int) (r : Bool) (hr : r = stFits (ki, ag) sex) : Calls Try.prog 86 #[.agg #[.int .i64 ki, .int .i64 ag], .int .i64 sex] w (PostB w r) := by
  have HR := Lib.hid hr
  clear hr
  by_cases a1 : ki < 1
  · go_enter Try.func86, Try.ntmps86
    go_wp2
    go_ret
    exact ⟨ret_bool (by rw [HR.out]; symm; simp only [stFits, Bool.and_eq_false_iff, decide_eq_false_iff_not]; omega), bwT⟩
  by_cases a2 : 8 < ki
  · go_enter Try.func86, Try.ntmps86
    go_wp2
    go_ret
    exact ⟨ret_bool (by rw [HR.out]; symm; simp only [stFits, Bool.and_eq_false_iff, decide_eq_false_iff_not]; omega), bwT⟩
  by_cases a3 : ag < 0
  · go_enter Try.func86, Try.ntmps86
    go_wp2
    go_ret
    exact ⟨ret_bool (by rw [HR.out]; symm; simp only [stFits, Bool.and_eq_false_iff, decide_eq_false_iff_not]; omega), bwT⟩
  by_cases a4 : 2 < ag
  · go_enter Try.func86, Try.ntmps86
    go_wp2
    go_ret
    exact ⟨ret_bool (by rw [HR.out]; symm; simp only [stFits, Bool.and_eq_false_iff, decide_eq_false_iff_not]; omega), bwT⟩
  have b1 : 1 ≤ ki := by omega
  have b2 : ki ≤ 8 := by omega
  have b3 : 0 ≤ ag := by omega
  have b4 : ag ≤ 2 := by omega
  by_cases g0 : ag = 0
  · subst g0
    by_cases k7 : ki = 7
    · subst k7
      by_cases s1 : sex = 1
      · subst s1
        have HF := Lib.hid (show r = false by rw [HR.out]; simp only [stFits]; rfl)
        clear HR
        go_enter Try.func86, Try.ntmps86
        go_wp2
        go_ret
        exact ⟨ret_bool HF.out.symm, bwT⟩
      · skip
        have s1e : (sex == 1) = false := by simpa using s1
        have s1n : (sex != 1) = true := by simpa using s1
        have HF := Lib.hid (show r = true by rw [HR.out]; simp only [stFits]; simp [*])
        clear HR
        go_enter Try.func86, Try.ntmps86
        go_wp2
        go_ret
        exact ⟨ret_bool HF.out.symm, bwT⟩
    by_cases k8 : ki = 8
    · subst k8
      by_cases s2 : sex = 2
      · subst s2
        have HF := Lib.hid (show r = false by rw [HR.out]; simp only [stFits]; rfl)
        clear HR
        go_enter Try.func86, Try.ntmps86
        go_wp2
        go_ret
        exact ⟨ret_bool HF.out.symm, bwT⟩
      · skip
        have s2e : (sex == 2) = false := by simpa using s2
        have s2n : (sex != 2) = true := by simpa using s2
        have HF := Lib.hid (show r = true by rw [HR.out]; simp only [stFits]; simp [*])
        clear HR
        go_enter Try.func86, Try.ntmps86
        go_wp2
        go_ret
        exact ⟨ret_bool HF.out.symm, bwT⟩
    have k7e : (ki == 7) = false := by simpa using k7
    have k7n : (ki != 7) = true := by simpa using k7
    have k8e : (ki == 8) = false := by simpa using k8
    have k8n : (ki != 8) = true := by simpa using k8
    have HF := Lib.hid (show r = true by rw [HR.out]; simp only [stFits]; simp [*])
    clear HR
    go_enter Try.func86, Try.ntmps86
    go_wp2
    go_ret
    exact ⟨ret_bool HF.out.symm, bwT⟩
  have g0e : (ag == 0) = false := by simpa using g0
  have g0n : (ag != 0) = true := by simpa using g0
  by_cases k3 : ki = 3
  · subst k3
    have HF := Lib.hid (show r = true by rw [HR.out]; simp only [stFits]; simp [*])
    clear HR
    go_enter Try.func86, Try.ntmps86
    go_wp2
    go_ret
    exact ⟨ret_bool HF.out.symm, bwT⟩
  by_cases k4 : ki = 4
  · subst k4
    have HF := Lib.hid (show r = true by rw [HR.out]; simp only [stFits]; simp [*])
    clear HR
    go_enter Try.func86, Try.ntmps86
    go_wp2
    go_ret
    exact ⟨ret_bool HF.out.symm, bwT⟩
  have k3e : (ki == 3) = false := by simpa using k3
  have k3n : (ki != 3) = true := by simpa using k3
  have k4e : (ki == 4) = false := by simpa using k4
  have k4n : (ki != 4) = true := by simpa using k4
  have HF := Lib.hid (show r = false by rw [HR.out]; simp only [stFits]; simp [*])
  clear HR
  go_enter Try.func86, Try.ntmps86
  go_wp2
  go_ret
  exact ⟨ret_bool HF.out.symm, bwT⟩
set_option maxHeartbeats 4000000 in
theorem isTypeI_b {z : Bool} {lo hi : Nat} (w : World) (a b : Value) (t : Kin) (h : Rd z lo hi w [a, b] t) (r : Bool) (hr : r = isKin t) : Calls Try.prog 51 #[.agg #[a, b]] w (PostB w r) := by
  obtain ⟨rfl, hI, hb⟩ := h.kin
  clear h
  obtain ⟨ao, n, cap, rfl, hn, hnc, hcm, hnone⟩ := hb.shape
  subst hn
  unfold maxLen at *
  clear hnone
  by_cases a1 : t.1 < 0
  · have HF := Lib.hid (show r = false by rw [hr]; simp only [isKin, Bool.and_eq_false_iff, decide_eq_false_iff_not]; omega)
    clear hr hb
    go_enter Try.func51, Try.ntmps51
    go_wp2
    go_ret
    exact ⟨ret_bool HF.out.symm, bwT⟩
  by_cases a2 : 2 < t.1
  · have HF := Lib.hid (show r = false by rw [hr]; simp only [isKin, Bool.and_eq_false_iff, decide_eq_false_iff_not]; omega)
    clear hr hb
    go_enter Try.func51, Try.ntmps51
    go_wp2
    go_ret
    exact ⟨ret_bool HF.out.symm, bwT⟩
  have HR := Lib.hid hr
  clear hr
  by_cases a3 : 8 < t.2.length
  · have HF := Lib.hid (show r = false by rw [HR.out]; simp only [isKin, Bool.and_eq_false_iff, decide_eq_false_iff_not]; omega)
    have a3I : (8 : Int) < (t.2.length : Int) := by omega
    clear HR hb
    go_enter Try.func51, Try.ntmps51
    go_wp2
    go_ret
    exact ⟨ret_bool HF.out.symm, bwT⟩
  have a3I : ¬ (8 : Int) < (t.2.length : Int) := by omega
  have HK := Lib.hid (show r = kinGo t.1 t.2 by rw [HR.out]; simp only [isKin]; rw [decide_eq_true (by omega), decide_eq_true (by omega), Bool.true_and, Bool.true_and])
  clear HR
  go_enter Try.func51, Try.ntmps51
  obtain ⟨W0, hW0⟩ : ∃ W0 : World, W0 = w.alloc (.cells #[.int .i64 t.1, .slice ao t.2.length cap] 49) := ⟨_, rfl⟩
  have hB0 : Below w.heap.size w W0 := by subst hW0; exact bwT
  go_wp2
  rw [← hW0]
  clear hW0
  go_loopw [3, 5, 25] (fun s3 _ s5 wr => ∃ (k : Nat) (sex : Int), k ≤ t.2.length ∧ s5 = .int .i64 k ∧ s3 = .int .i64 sex ∧ Hid (r = kinGo sex (t.2.drop k)) ∧ Below W0.heap.size W0 wr) (fun _ _ s5 _ => t.2.length - (intOf s5).toNat)
  case atStart => exact ⟨0, t.1, Nat.zero_le _, rfl, rfl, HK, Below.refl _ _⟩
  case round =>
    clear HK
    obtain ⟨wb, hwb⟩ : ∃ wm : World, wm = wr := ⟨_, rfl⟩
    subst hwb
    obtain ⟨k, sex, hk, rfl, rfl, hK, hbb⟩ := hrel
    have hBb : Below w.heap.size w wb := hB0.trans (hbb.mono hB0.size)
    have sR := hbb.size
    by_cases hlt : k < t.2.length
    · have hI : (k : Int) < (t.2.length : Int) := by omega
      obtain ⟨sb, soff, ki, ag, rfl, hx, c0, c1, -, -, -, -, sbl, -⟩ := (hb.below hBb).stp_at hlt
      obtain ⟨r2, hlet_r2⟩ : ∃ r, r = stFits (ki, ag) sex := ⟨_, rfl⟩
      have H2 := Lib.hid hlet_r2
      clear hlet_r2
      have hK2 := Lib.hid (show r = (r2 && kinGo (stSex ki) (t.2.drop (k + 1))) by rw [hK.out, drop_cons hx.out, kinGo, H2.out])
      clear hK hx
      go_wp2_with fail
      refine (stepFitsI_b _ ki ag sex r2 H2.out).mono ?_
      rintro e w1 ⟨rfl, hb1⟩
      have hbb1 : Below W0.heap.size W0 w1 := Below.after bwT hb1 szT
      have qk : w1.cell? ⟨wb.heap.size, 0, none⟩ = some (.int .i64 ki) := oldc hb1 ltT (by simp [go_sem])
      clear hb1 c0 c1
      cases r2
      · have HF := Lib.hid (show r = false by rw [hK2.out]; rfl)
        have hBw : Below w.heap.size w w1 := hB0.trans (hbb1.mono hB0.size)
        clear hK2 H2 hb
        go_wp2
        go_ret
        exact ⟨ret_bool HF.out.symm, hBw⟩
      · have hki := (stFits_facts H2.out.symm).1
        have HN := Lib.hid (show r = kinGo (stSex ki) (t.2.drop (k + 1)) by rw [hK2.out, Bool.true_and])
        clear hK2 H2
        dsimp only at hki
        go_wp2_with fail
        refine (stepSexI_any _ ki hki).mono ?_
        rintro e w2 ⟨rfl, hb2⟩
        have hbb2 : Below W0.heap.size W0 w2 := hbb1.trans (hb2.mono hbb1.size)
        clear hb2 hbb1
        go_wp2
        go_roundw
        case rel => exact ⟨k + 1, _, by omega, by go_num, rfl, HN, hbb2⟩
        case measure => simp [intOf]; omega
    · have HF := Lib.hid (show r = true by rw [hK.out, List.drop_eq_nil_of_le (by omega)]; rfl)
      have nI : ¬ (k : Int) < (t.2.length : Int) := by omega
      clear hK hb
      go_wp2
      go_ret
      exact ⟨ret_bool HF.out.symm, hBb⟩
set_option maxHeartbeats 4000000 in
theorem egoI_any {z : Bool} {lo hi : Nat} (w : World) (a b : Value) (t : Kin) (h : Rd z lo hi w [a, b] t) (R : Int) (hR : R = egoOf t) : Calls Try.prog 52 #[.agg #[a, b]] w (PostI w R) := by
  obtain ⟨rfl, hI, hb⟩ := h.kin
  clear h
  obtain ⟨e, l⟩ := t
  dsimp only at hb hI ⊢
  obtain ⟨ao, n, cap, rfl, hn, hnc, hcm, hnone⟩ := hb.shape
  subst hn
  unfold maxLen at *
  have HR := Lib.hid hR
  clear hR hnone
  by_cases h0 : e = 0
  · subst h0
    cases l with
    | nil =>
      have HF := Lib.hid (show R = 0 by rw [HR.out]; rfl)
      simp only [List.length_nil] at *
      clear HR hb
      go_enter Try.func52, Try.ntmps52
      go_wp2
      go_ret
      exact ⟨ret_int HF.out.symm, bwT⟩
    | cons s l =>
      have hpos : 0 < (s :: l).length := by simp
      obtain ⟨sb, soff, ki, ag, rfl, hx, c0, c1, -, -, -, -, sbl, -⟩ := hb.stp_at (i := 0) hpos
      have hx' := hx.out
      simp only [List.getElem?_cons_zero, Option.some.injEq] at hx'
      subst hx'
      have HF := Lib.hid (show R = if ki = 7 then 2 else if ki = 8 then 1 else 0 by rw [HR.out]; rfl)
      obtain ⟨m, hm⟩ : ∃ m, m = ((ki, ag) :: l : List Stp).length := ⟨_, rfl⟩
      have hmp : 0 < m := by rw [hm]; simp
      rw [← hm]
      rw [← hm] at hnc
      have hmn : ((m : Int) == 0) = false := by simp; omega
      have hmI : (0 : Int) < (m : Int) := by omega
      clear HR hb hx hm hpos
      simp only [Nat.zero_mul, Nat.add_zero] at c0 c1
      by_cases k7 : ki = 7
      · subst k7
        go_enter Try.func52, Try.ntmps52
        go_wp2
        go_ret
        exact ⟨ret_int (by rw [HF.out]; rfl), bwT⟩
      · have n7 : (ki == 7) = false := by simpa using k7
        by_cases k8 : ki = 8
        · subst k8
          go_enter Try.func52, Try.ntmps52
          go_wp2
          go_ret
          exact ⟨ret_int (by rw [HF.out]; rfl), bwT⟩
        · have n8 : (ki == 8) = false := by simpa using k8
          have HF := Lib.hid (show R = 0 by rw [HF.out, if_neg k7, if_neg k8])
          go_enter Try.func52, Try.ntmps52
          go_wp2
          go_ret
          exact ⟨ret_int HF.out.symm, bwT⟩
  · have HF := Lib.hid (show R = e by rw [HR.out]; simp only [egoOf]; rw [if_neg h0])
    have n0 : (e == 0) = false := by simpa using h0
    have m0 : (e != 0) = true := by simpa using h0
    clear HR hb
    go_enter Try.func52, Try.ntmps52
    go_wp2
    go_ret
    exact ⟨ret_int HF.out.symm, bwT⟩

end

/-! ### TPm -/
section

def getP (p : List Int) (x : Int) : Int := p.getD x.toNat 0
def stepPm (c : Cls) (k sex : Int) : List Int :=
  if k = 1 then inv c.2 else if k = 2 then comp (inv c.2) c.1 else if k = 5 ∨ k = 6 then (if sex = 1 then c.2 else comp (inv c.1) c.2) else if k = 7 then inv c.1 else if k = 8 then c.1 else idL c.1.length
def tpGo (c : Cls) : Int → List Int → List Stp → List Int
  | _, o, [] => o
  | sex, o, s :: l => tpGo c (stSex s.1) (comp o (stepPm c s.1 sex)) l
def atGo (c : Cls) : Int → Int → List Stp → Int
  | _, x, [] => x
  | sex, x, s :: l => atGo c (stSex s.1) (getP (stepPm c s.1 sex) x) l
def typePm (c : Cls) (t : Kin) : List Int := tpGo c (egoOf t) (idL c.1.length) t.2
def tpV (c : Cls) (t : Kin) : Bool := isCls c && (isKin t && !decide (0 < t.2.length ∧ egoOf t = 0))
def tpX (c : Cls) (t : Kin) : List Int := if tpV c t = true then typePm c t else []

theorem tpGo_at (c : Cls) : ∀ (l : List Stp) (sex : Int) (o : List Int), tpGo c sex o l = o.map fun x => atGo c sex x l
  | [], _, o => by simp [tpGo, atGo]
  | s :: l, sex, o => by
    rw [tpGo, tpGo_at c l]
    simp only [comp, List.map_map]
    rfl
theorem typePm_at (c : Cls) (t : Kin) : typePm c t = (idL c.1.length).map fun x => atGo c (egoOf t) x t.2 := tpGo_at c _ _ _
theorem idL_range (n : Nat) : InRange n (idL n) := fun x hx => by
  simp only [idL, List.mem_map, List.mem_range] at hx
  obtain ⟨i, hi, rfl⟩ := hx
  omega
theorem getP_some {p : List Int} {x : Int} (h0 : 0 ≤ x) (h1 : x < p.length) : p[x.toNat]? = some (getP p x) := by
  have hl : x.toNat < p.length := by omega
  simp [getP, List.getD_eq_getElem?_getD, List.getElem?_eq_getElem hl]
theorem getP_in {n : Nat} {p : List Int} (h : InRange n p) {x : Int} (h0 : 0 ≤ x) (h1 : x < p.length) : 0 ≤ getP p x ∧ getP p x < n := h _ (List.mem_of_getElem? (getP_some h0 h1))
theorem comp_range {n : Nat} {p q : List Int} (hp : InRange q.length p) (hq : InRange n q) : InRange n (comp p q) := fun x hx => by
  simp only [comp, List.mem_map] at hx
  obtain ⟨y, hy, rfl⟩ := hx
  have := hp y hy
  exact getP_in hq this.1 this.2
/-- A permutation among the classes. -/
structure POk (n : Nat) (p : List Int) : Prop where
  len : p.length = n
  rng : InRange n p
theorem POk.comp {n : Nat} {p q : List Int} (hp : POk n p) (hq : POk n q) : POk n (comp p q) := ⟨by rw [comp_len]; exact hp.len, comp_range (by rw [hq.len]; exact hp.rng) hq.rng⟩
theorem POk.inv {n : Nat} {p : List Int} (h : p.length = n) : POk n (inv p) := ⟨by rw [inv_len]; exact h, by rw [← h]; exact inv_range⟩
theorem cls_ok {c : Cls} (h : isCls c = true) : (1 ≤ c.1.length ∧ c.1.length ≤ 8) ∧ c.2.length = c.1.length ∧ isPerm c.1 = true ∧ isPerm c.2 = true ∧ POk c.1.length c.1 ∧ POk c.1.length c.2 := by
  simp only [isCls, Bool.and_eq_true, decide_eq_true_eq] at h
  obtain ⟨⟨⟨h1, h2, h3⟩, h4⟩, h5⟩ := h
  exact ⟨⟨h1, h2⟩, h3, h4, h5, ⟨rfl, isPerm_range h4⟩, ⟨h3, by rw [← h3]; exact isPerm_range h5⟩⟩
theorem stepPm_ok {c : Cls} (h : isCls c = true) (k sex : Int) : POk c.1.length (stepPm c k sex) := by
  obtain ⟨-, hl, -, -, h1, h2⟩ := cls_ok h
  unfold stepPm
  split
  · exact POk.inv hl
  split
  · exact (POk.inv hl).comp h1
  split
  · split
    · exact h2
    · exact (POk.inv rfl).comp h2
  split
  · exact POk.inv rfl
  split
  · exact h1
  · exact ⟨by simp [idL], idL_range _⟩
theorem sexAt_succ {t : Kin} {i : Nat} {s : Stp} (h : t.2[i]? = some s) : sexAt t (i + 1) = stSex s.1 := by simp [sexAt, h]

end

end Go.Proofs.Ytefbbbhidnnchaa
