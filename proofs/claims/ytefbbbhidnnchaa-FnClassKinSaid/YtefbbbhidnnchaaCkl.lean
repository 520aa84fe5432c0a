/- Plain law of FnClassKin: in a family whose persons have fitting classes, a relative's class is the type's permutation of the person's. -/
import Derived.Test.YtefbbbhidnnchaaCmr
import Derived.Test.YtefbbbhidnnchaaAsg
import Derived.Test.YtefbbbhidnnchaaZ14S
import Derived.Test.YtefbbbhidnnchaaZ14W
namespace Go.Proofs.Ytefbbbhidnnchaa
set_option linter.unusedVariables false
set_option linter.unusedSimpArgs false
open Go.RowKit

theorem up_sex {ps : List Per} {n i : Nat} (hP : PplTo ps n) (hi : i < n) {nm : ByteArray} {sx fa mo bo di : Int} (hx : ps[i]? = some (nm, sx, fa, mo, bo, di)) :
    (0 ≤ fa → ∃ y : Per, ps[fa.toNat]? = some y ∧ y.2.1 = 1) ∧ (0 ≤ mo → ∃ y : Per, ps[mo.toNat]? = some y ∧ y.2.1 = 2) := by
  have h := hP i hi
  rw [perOk_at hx] at h
  simp only [perC, Bool.and_eq_true] at h
  obtain ⟨-, -, -, -, -, h6, h7⟩ := h
  have go : ∀ (q sex late : Int), upOk ps i bo q sex late = true → 0 ≤ q → ∃ y : Per, ps[q.toNat]? = some y ∧ y.2.1 = sex := by
    intro q sex late h h0
    unfold upOk at h
    simp only [Bool.or_eq_true, decide_eq_true_eq, Bool.and_eq_true] at h
    rcases h with h | ⟨-, h⟩
    · omega
    · unfold upC at h
      split at h
      · rename_i hy
        simp only [Bool.and_eq_true, decide_eq_true_eq] at h
        exact ⟨_, hy, h.1⟩
      · cases h
  exact ⟨go fa 1 1 h6, go mo 2 0 h7⟩
theorem uni_sex {f : Fam} {k : Nat} (h : uniOk f k = true) {m wo fr tl : Int} (hu : f.2[k]? = some (m, wo, fr, tl)) : (∃ x : Per, f.1[m.toNat]? = some x ∧ x.2.1 = 1) ∧ (∃ x : Per, f.1[wo.toNat]? = some x ∧ x.2.1 = 2) ∧ 0 ≤ m ∧ 0 ≤ wo := by
  unfold uniOk at h
  rw [hu] at h
  simp only [uniC, Bool.and_eq_true, decide_eq_true_eq] at h
  obtain ⟨h1, h2, -⟩ := h
  split at h2
  · rename_i a b ha hb
    obtain ⟨_, sa, _, _, ba, da⟩ := a
    obtain ⟨_, sb, _, _, bb, db⟩ := b
    simp only [uniP, Bool.and_eq_true, decide_eq_true_eq] at h2
    exact ⟨⟨_, ha, h2.1.1⟩, ⟨_, hb, h2.1.2⟩, h1.1.1, h1.2.1⟩
  · cases h2
/-- One step. -/
theorem led_step {f : Fam} {c : Cls} {g : List Int} {h : Nat → Int} (hf : famB f = true) (hc : isCls c = true) (hv : AVal f c g h) {k ag : Int} (hk : 1 ≤ k ∧ k ≤ 8) {a b : Nat} (hl : ledB f (k, ag) a b = true) {x : Per} (hx : f.1[a]? = some x) :
    ∃ y, f.1[b]? = some y ∧ y.2.1 = stSex k ∧ h b = getP (stepPm c k x.2.1) (h a) := by
  obtain ⟨-, -, hP, hU⟩ := famB_facts hf
  have ha := (List.getElem?_eq_some_iff.1 hx).1
  obtain ⟨y, hy⟩ : ∃ y, f.1[b]? = some y := by
    unfold ledB at hl
    rw [hx] at hl
    cases e : f.1[b]? with
    | none => rw [e] at hl; cases hl
    | some y => exact ⟨y, rfl⟩
  have hb := (List.getElem?_eq_some_iff.1 hy).1
  rw [ledB_at hx hy] at hl
  obtain ⟨-, -, hl2, hw, hch⟩ := isCls_facts hc
  have hra := hv.rng a ha
  have hrb := hv.rng b hb
  obtain ⟨nm, sx, fa, mo, bo, di⟩ := x
  obtain ⟨nm', sx', fa', mo', bo', di'⟩ := y
  refine ⟨_, hy, ?_⟩
  have b1 := isPerm_bij hw
  have b2 := isPerm_bij hch
  rw [hl2] at b2
  have hux := up_sex hP ha hx
  have huy := up_sex hP hb hy
  have h8 : k = 1 ∨ k = 2 ∨ (k = 3 ∨ k = 4) ∨ (k = 5 ∨ k = 6) ∨ k = 7 ∨ k = 8 := by omega
  have hil : (inv c.1).length = c.1.length := inv_len _
  have hil2 : (inv c.2).length = c.1.length := by rw [inv_len, hl2]
  have hedF : ∀ (p q : Nat) {z : Per}, f.1[q]? = some z → z.2.2.1 = p → h q = getI c.2 (h p) := fun p q z hz he => hv.ed p q c.2 (.inl ⟨z, hz, by rw [he]; omega, by rw [he]; exact Int.toNat_natCast p, rfl⟩)
  have hedM : ∀ (p q : Nat) {z : Per}, f.1[q]? = some z → z.2.2.2.1 = p → h q = getI c.2 (getI (inv c.1) (h p)) := fun p q z hz he => by
    have h1 := hv.ed p q (comp (inv c.1) c.2) (.inr (.inl ⟨z, hz, by rw [he]; omega, by rw [he]; exact Int.toNat_natCast p, rfl⟩))
    have hp : p < f.1.length := by
      have hq := (List.getElem?_eq_some_iff.1 hz).1
      obtain ⟨n1, s1, f1, m1, o1, d1⟩ := z
      obtain ⟨y, hy, -⟩ := (up_sex hP hq hz).2 (by simp only at he; omega)
      simp only at he
      rw [he, Int.toNat_natCast] at hy
      exact (List.getElem?_eq_some_iff.1 hy).1
    have hr := hv.rng p hp
    rw [comp_get hr.1 (by rw [hil]; exact hr.2)] at h1
    exact h1
  have hedU : ∀ u ∈ f.2, ∀ (p q : Nat), u.1 = p → u.2.1 = q → h q = getI c.1 (h p) := fun u hu p q e1 e2 => hv.ed p q c.1 (.inr (.inr ⟨u, hu, by rw [e1]; exact Int.toNat_natCast p, by rw [e2]; exact Int.toNat_natCast q, rfl⟩))
  rcases h8 with rfl | rfl | h34 | h56 | rfl | rfl
  · -- father
    have e : fa = (b : Int) := by simpa [ledC] using hl
    obtain ⟨z, hz, hzs⟩ := hux.1 (by omega)
    rw [e, Int.toNat_natCast, hy] at hz
    obtain rfl := Option.some.inj hz
    refine ⟨hzs, ?_⟩
    have h1 := hedF b a hx e
    show h b = getI (inv c.2) (h a)
    rw [h1, b2.one _ hrb.1 hrb.2]
  · -- mother
    have e : mo = (b : Int) := by simpa [ledC] using hl
    obtain ⟨z, hz, hzs⟩ := hux.2 (by omega)
    rw [e, Int.toNat_natCast, hy] at hz
    obtain rfl := Option.some.inj hz
    refine ⟨hzs, ?_⟩
    have h1 := hedM b a hx e
    show h b = getI (comp (inv c.2) c.1) (h a)
    have r1 := b1.rng' _ hrb.1 hrb.2
    rw [comp_get hra.1 (by rw [hil2]; exact hra.2), h1, b2.one _ r1.1 r1.2, b1.two _ hrb.1 hrb.2]
  · -- brother, sister
    have n1 : ¬ k = 1 := by omega
    have n2 : ¬ k = 2 := by omega
    unfold ledC at hl
    rw [if_neg n1, if_neg n2, if_pos h34] at hl
    simp only [Bool.and_eq_true, decide_eq_true_eq] at hl
    obtain ⟨e1, e2, -⟩ := hl
    refine ⟨e1, ?_⟩
    unfold fullB at e2
    simp only [Bool.and_eq_true, decide_eq_true_eq] at e2
    obtain ⟨-, h0, -, h1, -⟩ := e2
    have g1 := hedF fa.toNat a hx (by show fa = _; omega)
    have g2 := hedF fa.toNat b hy (by show fa' = _; omega)
    have es : stepPm c k sx = idL c.1.length := by
      unfold stepPm
      rw [if_neg n1, if_neg n2, if_neg (by omega), if_neg (by omega), if_neg (by omega)]
    show h b = getP (stepPm c k sx) (h a)
    rw [es, g2, ← g1]
    obtain ⟨n, hn⟩ := Int.eq_ofNat_of_zero_le hra.1
    have hnl : n < c.1.length := by have := hra.2; omega
    rw [hn]
    simp [getP, idL, List.getD_eq_getElem?_getD, hnl]
  · -- son, daughter
    have n1 : ¬ k = 1 := by omega
    have n2 : ¬ k = 2 := by omega
    unfold ledC at hl
    rw [if_neg n1, if_neg n2, if_neg (by omega), if_pos h56] at hl
    simp only [Bool.and_eq_true, decide_eq_true_eq] at hl
    obtain ⟨e1, e0⟩ := hl
    refine ⟨e1, ?_⟩
    have e2 : fa' = (a : Int) ∨ mo' = (a : Int) := by simpa [parB] using e0
    have es : stepPm c k sx = if sx = 1 then c.2 else comp (inv c.1) c.2 := by
      unfold stepPm
      rw [if_neg n1, if_neg n2, if_pos h56]
    show h b = getP (stepPm c k sx) (h a)
    rw [es]
    rcases e2 with e2 | e2
    · obtain ⟨z, hz, hzs⟩ := huy.1 (by omega)
      rw [e2, Int.toNat_natCast, hx] at hz
      obtain rfl := Option.some.inj hz
      have hs : sx = 1 := hzs
      rw [if_pos hs]
      exact hedF a b hy e2
    · obtain ⟨z, hz, hzs⟩ := huy.2 (by omega)
      rw [e2, Int.toNat_natCast, hx] at hz
      obtain rfl := Option.some.inj hz
      have hs : sx = 2 := hzs
      rw [if_neg (by omega)]
      show h b = getI (comp (inv c.1) c.2) (h a)
      rw [comp_get hra.1 (by rw [hil]; exact hra.2)]
      exact hedM a b hy e2
  · -- husband
    have e : ((a : Int), (b : Int)) ∈ wedS f.2 7 := by simpa [ledC] using hl
    unfold wedS at e
    rw [if_pos rfl, List.mem_map] at e
    obtain ⟨u, hu, e⟩ := e
    simp only [Prod.mk.injEq] at e
    obtain ⟨i, hi, hi2⟩ := List.getElem_of_mem hu
    obtain ⟨m, wo, fr, tl⟩ := u
    have hs := uni_sex (hU i hi) (m := m) (wo := wo) (fr := fr) (tl := tl) (by rw [List.getElem?_eq_getElem hi, hi2])
    obtain ⟨⟨z, hz, hzs⟩, -⟩ := hs
    have hm : m = (b : Int) := e.2
    rw [hm, Int.toNat_natCast, hy] at hz
    obtain rfl := Option.some.inj hz
    refine ⟨hzs, ?_⟩
    have h1 := hedU _ hu b a e.2 e.1
    show h b = getI (inv c.1) (h a)
    rw [h1, b1.one _ hrb.1 hrb.2]
  · -- wife
    have e : ((a : Int), (b : Int)) ∈ wedS f.2 8 := by simpa [ledC] using hl
    unfold wedS at e
    rw [if_neg (by decide), if_pos rfl, List.mem_map] at e
    obtain ⟨u, hu, e⟩ := e
    simp only [Prod.mk.injEq] at e
    obtain ⟨i, hi, hi2⟩ := List.getElem_of_mem hu
    obtain ⟨m, wo, fr, tl⟩ := u
    have hs := uni_sex (hU i hi) (m := m) (wo := wo) (fr := fr) (tl := tl) (by rw [List.getElem?_eq_getElem hi, hi2])
    obtain ⟨-, ⟨z, hz, hzs⟩, -⟩ := hs
    have hm : wo = (b : Int) := e.2
    rw [hm, Int.toNat_natCast, hy] at hz
    obtain rfl := Option.some.inj hz
    exact ⟨hzs, hedU _ hu a b e.1 e.2⟩
def sexGo : Int → List Stp → Int
  | e, [] => e
  | _, s :: l => sexGo (stSex s.1) l
theorem atGo_snoc (c : Cls) (s : Stp) : ∀ (l : List Stp) (e x : Int), atGo c e x (l ++ [s]) = getP (stepPm c s.1 (sexGo e l)) (atGo c e x l) ∧ sexGo e (l ++ [s]) = stSex s.1
  | [], e, x => ⟨rfl, rfl⟩
  | t :: l, e, x => by
    have := atGo_snoc c s l (stSex t.1) (getP (stepPm c t.1 e) x)
    exact this
theorem relF_cls {f : Fam} {c : Cls} {g : List Int} {h : Nat → Int} (hf : famB f = true) (hc : isCls c = true) (hv : AVal f c g h) {e : Int} (he : e = 1 ∨ e = 2) {l : List Stp} (hk : ∀ s ∈ l, 1 ≤ s.1 ∧ s.1 ≤ 8) {a : Nat} :
    ∀ (i : Nat), i ≤ l.length → ∀ (b : Nat), relF f e (l.take i) a b = true → ∃ y, f.1[b]? = some y ∧ y.2.1 = sexGo e (l.take i) ∧ h b = atGo c e (h a) (l.take i)
  | 0, _, b, hr => by
    rw [List.take_zero] at hr ⊢
    have hr2 : egoR f e a b = true := hr
    unfold egoR at hr2
    have hab : a = b := by
      by_cases h : a = b
      · exact h
      · rw [decide_eq_false h] at hr2; cases hr2
    have he0 : ¬ e = 0 := by omega
    rw [decide_eq_true hab, decide_eq_false he0] at hr2
    subst hab
    cases hy : f.1[a]? with
    | none => rw [hy] at hr2; cases hr2
    | some y =>
      rw [hy] at hr2
      exact ⟨y, rfl, of_decide_eq_true hr2, rfl⟩
  | i + 1, hi, b, hr => by
    obtain ⟨s, hs⟩ : ∃ s, l[i]? = some s := ⟨_, List.getElem?_eq_getElem (by omega)⟩
    rw [relF_snoc hs] at hr
    unfold cmpB at hr
    obtain ⟨x, hx, h2⟩ := List.any_eq_true.1 hr
    obtain ⟨m, hm, h1, rfl⟩ := mem_rowTo.1 hx
    rw [Int.toNat_natCast] at h2
    obtain ⟨z, hz, hzs, hzh⟩ := relF_cls hf hc hv he hk i (by omega) m h1
    obtain ⟨k, ag⟩ := s
    obtain ⟨y, hy, hys, hyh⟩ := led_step hf hc hv (hk _ (List.mem_of_getElem? hs)) h2 hz
    have ha := atGo_snoc c (k, ag) (l.take i) e (h a)
    rw [take_snoc hs]
    exact ⟨y, hy, by rw [ha.2]; exact hys, by rw [ha.1, ← hzh, ← hzs]; exact hyh⟩
theorem class_kin {f : Fam} {c : Cls} {g X : List Int} (hf : famB f = true) (hc : isCls c = true) (hv : AVal f c g (mrk X)) (hX : X.length = f.1.length) {e : Int} {l : List Stp} (he : e = 1 ∨ e = 2) (hk : isKin (e, l) = true) {a b : Nat} (ha : a < f.1.length) (hr : relF f e l a b = true) :
    b < f.1.length ∧ ∃ x y : Int, X[a]? = some x ∧ X[b]? = some y ∧ 0 ≤ x ∧ x < c.1.length ∧ (tpX c (e, l))[x.toNat]? = some y := by
  obtain ⟨y, hy, -, hb⟩ := relF_cls (a := a) hf hc hv he (fun s hs => ((isKin_facts hk).2.2.2 s hs).1) l.length (Nat.le_refl _) b (by rw [List.take_length]; exact hr)
  rw [List.take_length] at hb
  have hbl := (List.getElem?_eq_some_iff.1 hy).1
  have hxa : X[a]? = some (mrk X a) := by
    obtain ⟨z, hz⟩ : ∃ z, X[a]? = some z := ⟨_, List.getElem?_eq_getElem (by omega)⟩
    rw [hz]; congr 1; exact (getI_at hz).symm
  have hxb : X[b]? = some (mrk X b) := by
    obtain ⟨z, hz⟩ : ∃ z, X[b]? = some z := ⟨_, List.getElem?_eq_getElem (by omega)⟩
    rw [hz]; congr 1; exact (getI_at hz).symm
  have hra := hv.rng a ha
  refine ⟨hbl, _, _, hxa, hxb, hra.1, hra.2, ?_⟩
  have hego : egoOf (e, l) = e := by unfold egoOf; rw [if_neg (by simp only; omega)]
  have htv : tpV c (e, l) = true := by
    unfold tpV; rw [hc, hk, hego]
    simp only [Bool.true_and, Bool.not_eq_true', decide_eq_false_iff_not]
    omega
  unfold tpX
  rw [if_pos htv, typePm_at, hego, List.getElem?_map]
  obtain ⟨n, hn⟩ := Int.eq_ofNat_of_zero_le hra.1
  have hnl : n < c.1.length := by have := hra.2; omega
  rw [hb, hn, Int.toNat_natCast]
  simp [idL, hnl]
/-- Fitting classes have no errors. -/
theorem errs_none {f : Fam} {c : Cls} {g X : List Int} (hf : famB f = true) (hc : isCls c = true) (hv : AVal f c g (mrk X)) (hX : X.length = f.1.length) : givenB f c X 0 = true ∧ errsV f c X = [] := by
  obtain ⟨-, -, hP, hU⟩ := famB_facts hf
  obtain ⟨-, -, hl2, hw, hch⟩ := isCls_facts hc
  have hil : (inv c.1).length = c.1.length := inv_len _
  have hgv : givenB f c X 0 = true := by
    unfold givenB
    rw [hf, hc, decide_eq_true hX]
    simp only [Bool.true_and]
    refine List.all_eq_true.2 fun x hx => ?_
    obtain ⟨i, hi, rfl⟩ := List.getElem_of_mem hx
    have hr := hv.rng i (by omega)
    have e : mrk X i = X[i] := getI_at (List.getElem?_eq_getElem hi)
    rw [e] at hr
    exact decide_eq_true hr
  refine ⟨hgv, ?_⟩
  unfold errsV
  rw [if_pos hgv]
  have hbad : ∀ p, p < f.1.length → badAt f.1 c X p = false := by
    intro p hp
    obtain ⟨x, hx⟩ : ∃ x, f.1[p]? = some x := ⟨_, List.getElem?_eq_getElem hp⟩
    rw [badAt_at hx]
    obtain ⟨nm, sx, fa, mo, bo, di⟩ := x
    have hux := up_sex hP hp hx
    unfold badP
    have h1 : (decide (0 ≤ fa) && !decide (getI X p = getI c.2 (getI X fa))) = false := by
      by_cases h0 : 0 ≤ fa
      · obtain ⟨n, rfl⟩ := Int.eq_ofNat_of_zero_le h0
        have h2 := hv.ed n p c.2 (.inl ⟨_, hx, h0, Int.toNat_natCast n, rfl⟩)
        rw [decide_eq_true (show getI X (p : Int) = getI c.2 (getI X (n : Int)) from h2)]; simp
      · rw [decide_eq_false h0]; rfl
    have h2 : (decide (0 ≤ mo) && !decide (getI X p = getI c.2 (getI (inv c.1) (getI X mo)))) = false := by
      by_cases h0 : 0 ≤ mo
      · obtain ⟨z, hz, -⟩ := hux.2 h0
        obtain ⟨n, rfl⟩ := Int.eq_ofNat_of_zero_le h0
        have h2 := hv.ed n p (comp (inv c.1) c.2) (.inr (.inl ⟨_, hx, h0, Int.toNat_natCast n, rfl⟩))
        rw [Int.toNat_natCast] at hz
        have hr := hv.rng n (List.getElem?_eq_some_iff.1 hz).1
        rw [comp_get hr.1 (by rw [hil]; exact hr.2)] at h2
        rw [decide_eq_true (show getI X (p : Int) = getI c.2 (getI (inv c.1) (getI X (n : Int))) from h2)]; simp
      · rw [decide_eq_false h0]; rfl
    show ((decide (0 ≤ fa) && !decide (getI X p = getI c.2 (getI X fa))) || (decide (0 ≤ mo) && !decide (getI X p = getI c.2 (getI (inv c.1) (getI X mo))))) = false
    rw [h1, h2]; rfl
  have h0 : badsTo f.1 c X f.1.length f.1.length = List.replicate f.1.length false := by
    apply List.ext_getElem
    · rw [badsTo_len _ _ _ _ _ (Nat.le_refl _)]; simp
    · intro i h1 h2
      simp only [badsTo, Nat.sub_self, List.replicate_zero, List.append_nil, List.getElem_map, List.getElem_range, List.getElem_replicate]
      exact hbad i (by simpa using h2)
  have hus : ∀ (us : List Uni), (∀ u ∈ us, u ∈ f.2) → ∀ a : List Bool, us.foldl (badU c X) a = a := by
    intro us
    induction us with
    | nil => intro _ a; rfl
    | cons u us ih =>
      intro hm a
      have hu := hm u List.mem_cons_self
      obtain ⟨i, hi, hi2⟩ := List.getElem_of_mem hu
      obtain ⟨m, wo, fr, tl⟩ := u
      have hs := uni_sex (hU i hi) (m := m) (wo := wo) (fr := fr) (tl := tl) (by rw [List.getElem?_eq_getElem hi, hi2])
      obtain ⟨-, -, g0, g1⟩ := hs
      obtain ⟨p, rfl⟩ := Int.eq_ofNat_of_zero_le g0
      obtain ⟨q, rfl⟩ := Int.eq_ofNat_of_zero_le g1
      have h2 := hv.ed p q c.1 (.inr (.inr ⟨_, hu, Int.toNat_natCast p, Int.toNat_natCast q, rfl⟩))
      rw [List.foldl_cons]
      have : badU c X a (((p : Nat) : Int), ((q : Nat) : Int), fr, tl) = a := by
        unfold badU
        exact if_pos h2
      rw [this]
      exact ih (fun u hu => hm u (List.mem_cons_of_mem _ hu)) a
  unfold errsL errM
  rw [hus f.2 (fun u hu => hu), h0]
  unfold listedTo
  rw [List.map_eq_nil_iff, List.filter_eq_nil_iff]
  intro i hi
  have hi := List.mem_range.1 hi
  simp [List.getD_eq_getElem?_getD, hi]
end Go.Proofs.Ytefbbbhidnnchaa
