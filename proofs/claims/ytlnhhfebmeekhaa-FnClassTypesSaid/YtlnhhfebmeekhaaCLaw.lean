/- Plain: all that the law FnClassTypes asks. -/
import Derived.Test.YtlnhhfebmeekhaaZ10K
import Derived.Test.YtlnhhfebmeekhaaZ10P
import Derived.Test.YtlnhhfebmeekhaaJoinS
namespace Go.Proofs.Ytlnhhfebmeekhaa
set_option linter.unusedVariables false
set_option linter.unusedSimpArgs false

theorem inv_cmp {n : Nat} {p q : List Int} (hp : IsP n p) (hq : IsP n q) : inv (comp p q) = comp (inv q) (inv p) := by
  symm
  refine inv_uniq (isP_comp hp hq) (isP_comp (isP_inv hq) (isP_inv hp)) ?_
  rw [asc3 hp hq, ← asc3 hq (isP_inv hq), comp_inv hq, id_comp (isP_inv hp), comp_inv hp]
theorem stepPm_back {n : Nat} {c : Cls} (hc : COk n c) {s : Stp} {sex : Int} (hs : sex = 1 ∨ sex = 2) (h : stFits s sex = true) : stepPm c (backSt s sex).1 (stSex s.1) = inv (stepPm c s.1 sex) := by
  obtain ⟨⟨h1, h2⟩, -, -, h6⟩ := stFits_facts h
  obtain ⟨k, a⟩ := s
  dsimp only at *
  have i1 := inv_inv hc.w
  have i2 := inv_inv hc.ch
  have i3 := inv_cmp (isP_inv hc.ch) hc.w
  have i4 := inv_cmp (isP_inv hc.w) hc.ch
  have i5 : inv (idL c.1.length) = idL c.1.length := (inv_uniq (isP_id _) (isP_id _) (comp_id (isP_id _))).symm
  rw [i2] at i3
  rw [i1] at i4
  have hk : k = 1 ∨ k = 2 ∨ k = 3 ∨ k = 4 ∨ k = 5 ∨ k = 6 ∨ k = 7 ∨ k = 8 := by omega
  rcases hk with rfl | rfl | rfl | rfl | rfl | rfl | rfl | rfl <;> rcases hs with rfl | rfl <;>
    first
    | (simp [backSt, stepPm, stSex, i1, i2, i3, i4, i5]; done)
    | (exfalso; omega)
theorem sexOf_fin (t : Kin) : sexOf t = sexEnd (egoOf t) t.2 := by
  unfold sexOf sexEnd
  cases hx : t.2.getLast? with
  | some z => rfl
  | none =>
    have h2 : t.2 = [] := by simpa using hx
    show t.1 = egoOf t
    unfold egoOf
    rw [h2]
    by_cases h : t.1 = 0
    · rw [if_pos h]; exact h
    · rw [if_neg h]
theorem tpGo_end {c : Cls} (l m : List Stp) (sex : Int) (o : List Int) : tpGo c sex o (l ++ m) = tpGo c (sexEnd sex l) (tpGo c sex o l) m := by
  rw [tpGo_app]; rfl
theorem tpGo_back {n : Nat} {c : Cls} (hc : COk n c) : ∀ (l : List Stp) (sex : Int), (sex = 1 ∨ sex = 2) → kinGo sex l = true → tpGo c (sexEnd sex l) (idL n) (backs sex l).reverse = inv (tpGo c sex (idL n) l)
  | [], sex, _, _ => by
    show idL n = inv (idL n)
    exact inv_uniq (isP_id n) (isP_id n) (comp_id (isP_id n))
  | s :: l, sex, hs, h => by
    rw [kinGo, Bool.and_eq_true] at h
    have hP := stepPm_isP hc s.1 sex
    have hQ := tpGo_isP hc l (stSex s.1) (idL n) (isP_id n)
    have e1 : tpGo c sex (idL n) (s :: l) = comp (stepPm c s.1 sex) (tpGo c (stSex s.1) (idL n) l) := by
      rw [tpGo, id_comp hP, tpGo_comp hc l _ _ hP]
    have ih := tpGo_back hc l (stSex s.1) (stSex_in _) h.2
    have b := (back_kin l (stSex s.1) (stSex_in _) h.2).2
    rw [e1, backs, List.reverse_cons, sexEnd_cons, tpGo_end, ih, b, tpGo, tpGo, stepPm_back hc hs h.1, inv_cmp hP hQ]
theorem ego_known {t : Kin} (h : t.1 = 1 ∨ t.1 = 2) : egoOf t = t.1 := by unfold egoOf; rw [if_neg (by omega)]
theorem sexOf_known {t : Kin} (h : t.1 = 1 ∨ t.1 = 2) : sexOf t = 1 ∨ sexOf t = 2 := by
  unfold sexOf
  split
  · exact stSex_in _
  · exact h
theorem typePm_rev {n : Nat} {c : Cls} (hc : COk n c) {t : Kin} (ht : isKin t = true) (he : t.1 = 1 ∨ t.1 = 2) : typePm c (revX t) = inv (typePm c t) := by
  have hk := isKin_facts ht
  rw [revX_eq ht (by omega)]
  have hs := sexOf_known he
  unfold typePm
  have e : egoOf (revK t) = sexOf t := ego_known (t := revK t) hs
  rw [e, hc.w.len, sexOf_fin, ego_known he]
  show tpGo c (sexEnd t.1 t.2) (idL n) (backs (egoOf t) t.2).reverse = _
  rw [ego_known he]
  exact tpGo_back hc t.2 t.1 he hk.2.2.1
theorem tpV_known {c : Cls} (hc : isCls c = true) {t : Kin} (ht : isKin t = true) (he : t.1 = 1 ∨ t.1 = 2) : tpV c t = true := by
  unfold tpV
  rw [hc, ht, ego_known he]
  simp; omega
theorem typePm_join {n : Nat} {c : Cls} (hc : COk n c) {t u : Kin} (he : t.1 = 1 ∨ t.1 = 2) (hu : u.1 = sexOf t) : typePm c (joinK t u) = comp (typePm c t) (typePm c u) := by
  have hs := sexOf_known he
  have e0 : joinK t u = (t.1, t.2 ++ u.2) := by unfold joinK; rw [if_neg (by omega)]
  have e1 : egoOf (joinK t u) = egoOf t := by rw [ego_known he, e0]; exact ego_known (t := (t.1, t.2 ++ u.2)) he
  have e2 : egoOf u = sexEnd (egoOf t) t.2 := by rw [← sexOf_fin, ← hu]; exact ego_known (by omega)
  have ht := typePm_isP hc t
  unfold typePm at ht ⊢
  rw [e1, e0, hc.w.len, tpGo_end, e2]
  rw [hc.w.len] at ht
  exact tpGo_comp hc _ _ _ ht
structure CTLaw (c : Cls) (t : Kin) (p : List Int) (l : Pms) : Prop where
  tv : tpV c t = true
  tx : tpX c t = p
  rv : revV t = true
  bv : tpV c (revX t) = true
  bx : tpX c (revX t) = inv p
  iv : invP p = inv p
  pl : p.length = c.1.length
  gv : grpV c = true
  gx : grpX c = l
  mem : p ∈ l
  few : l.length ≤ 200
  isp : ∀ g ∈ l, IsP c.1.length g
  sx : sexOf t = 1 ∨ sexOf t = 2
  join : ∀ u : Kin, u.1 = sexOf t → joinV t u = true → tpV c u = true ∧ tpV c (joinX t u) = true ∧ tpX c (joinX t u) = compP p (tpX c u)
theorem ct_law {c : Cls} (hc : isCls c = true) (h5 : c.1.length ≤ 5) {t : Kin} (ht : isKin t = true) (he : t.1 = 1 ∨ t.1 = 2) : ∃ p l, CTLaw c t p l := by
  have k := cOk_of hc
  obtain ⟨o, ho, hg⟩ := grp_ok hc h5
  have hp := typePm_isP k t
  have tv := tpV_known hc ht he
  have rx := revX_eq ht (by omega)
  have bv : tpV c (revX t) = true := tpV_known hc (revX_kin t) (by rw [rx]; exact sexOf_known he)
  refine ⟨typePm c t, lsrt o, ?_⟩
  exact {
    tv := tv
    tx := if_pos tv
    rv := by unfold revV; rw [ht, ego_known he]; simp; omega
    bv := bv
    bx := (if_pos bv).trans (typePm_rev k ht he)
    iv := if_pos (isPerm_of hp).1
    pl := hp.len
    gv := by unfold grpV; rw [ho]; rfl
    gx := by unfold grpX; rw [ho]; rfl
    mem := lsrt_mem.2 (typePm_gen k hg t)
    few := by rw [lsrt_len]; exact (grpR_ok ho).2.2
    isp := fun g hgm => hg.isP k (lsrt_mem.1 hgm)
    sx := sexOf_known he
    join := fun u hu hj => by
      have hs := sexOf_known he
      have hj' := hj
      unfold joinV at hj
      rw [Bool.and_eq_true] at hj
      have uv := tpV_known hc hj.1 (by omega)
      have e : joinX t u = joinK t u := if_pos hj'
      have wv : tpV c (joinK t u) = true := tpV_known hc hj.2 (by
        have : (joinK t u).1 = t.1 := by unfold joinK; rw [if_neg (by omega)]
        omega)
      have hq := typePm_isP k u
      refine ⟨uv, by rw [e]; exact wv, ?_⟩
      rw [e, show tpX c (joinK t u) = typePm c (joinK t u) from if_pos wv, show tpX c u = typePm c u from if_pos uv, typePm_join k he hu]
      exact (if_pos ⟨(isPerm_of hp).1, (isPerm_of hq).1, by rw [hp.len, hq.len]⟩).symm }
end Go.Proofs.Ytlnhhfebmeekhaa
