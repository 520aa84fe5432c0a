/- Plain: what the loop over the group finds is closed, has the identity and all inverses; under other names it is the same group. -/
import Derived.Test.YtlnhhfebmeekhaaPAlg
import Derived.Test.YtlnhhfebmeekhaaZ10E
import Derived.Test.YtlnhhfebmeekhaaGrpS
namespace Go.Proofs.Ytlnhhfebmeekhaa
set_option linter.unusedVariables false
set_option linter.unusedSimpArgs false

/-- A product of the two. -/
inductive Gen (c : Cls) (n : Nat) : List Int → Prop
  | one : Gen c n (idL n)
  | w {q : List Int} : Gen c n q → Gen c n (comp q c.1)
  | ch {q : List Int} : Gen c n q → Gen c n (comp q c.2)
structure COk (n : Nat) (c : Cls) : Prop where
  w : IsP n c.1
  ch : IsP n c.2
theorem cOk_of {c : Cls} (h : isCls c = true) : COk c.1.length c := by
  unfold isCls at h
  simp only [Bool.and_eq_true, decide_eq_true_eq] at h
  exact ⟨isP_of h.1.2, by have := isP_of h.2; rwa [h.1.1.2.2] at this⟩
theorem Gen.isP {c : Cls} {n : Nat} (hc : COk n c) {q : List Int} (h : Gen c n q) : IsP n q := by
  induction h with
  | one => exact isP_id n
  | w _ ih => exact isP_comp ih hc.w
  | ch _ ih => exact isP_comp ih hc.ch
structure IsGrp (c : Cls) (n : Nat) (o : Pms) : Prop where
  nodup : o.Nodup
  one : idL n ∈ o
  gen : ∀ q ∈ o, Gen c n q
  cw : ∀ q ∈ o, comp q c.1 ∈ o
  cc : ∀ q ∈ o, comp q c.2 ∈ o
/-- .. as far as the loop has come. -/
structure GInv (c : Cls) (n i : Nat) (o : Pms) : Prop where
  nodup : o.Nodup
  one : idL n ∈ o
  gen : ∀ q ∈ o, Gen c n q
  cl : ∀ (k : Nat) (q : List Int), k < i → o[k]? = some q → comp q c.1 ∈ o ∧ comp q c.2 ∈ o
theorem mem_gAdd {o : Pms} {p x : List Int} : x ∈ gAdd o p ↔ x ∈ o ∨ x = p := by
  unfold gAdd
  by_cases h : p ∈ o
  · rw [if_pos h]
    exact ⟨.inl, fun h2 => h2.elim id (fun e => e ▸ h)⟩
  · rw [if_neg h]; simp
theorem gAdd_nodup {o : Pms} {p : List Int} (h : o.Nodup) : (gAdd o p).Nodup := by
  unfold gAdd
  by_cases hm : p ∈ o
  · rw [if_pos hm]; exact h
  · rw [if_neg hm, List.nodup_append]
    refine ⟨h, by simp, fun a ha b hb e => ?_⟩
    simp at hb; subst hb; subst e; exact hm ha
theorem GInv.start (c : Cls) (n : Nat) : GInv c n 0 [idL n] := ⟨by simp, by simp, fun q hq => by simp at hq; subst hq; exact Gen.one, fun k q h => by omega⟩
theorem GInv.step {c : Cls} {n i : Nat} {o : Pms} {q : List Int} (h : GInv c n i o) (hq : o[i]? = some q) : GInv c n (i + 1) (gRound c o q) := by
  have hqm := List.mem_of_getElem? hq
  have hsub : ∀ x ∈ o, x ∈ gRound c o q := fun x hx => mem_gAdd.2 (.inl (mem_gAdd.2 (.inl hx)))
  have h1 : comp q c.1 ∈ gRound c o q := mem_gAdd.2 (.inl (mem_gAdd.2 (.inr rfl)))
  have h2 : comp q c.2 ∈ gRound c o q := mem_gAdd.2 (.inr rfl)
  refine ⟨gAdd_nodup (gAdd_nodup h.nodup), hsub _ h.one, fun x hx => ?_, fun k x hk hx => ?_⟩
  · rcases mem_gAdd.1 hx with hx | rfl
    · rcases mem_gAdd.1 hx with hx | rfl
      · exact h.gen x hx
      · exact (h.gen q hqm).w
    · exact (h.gen q hqm).ch
  · have hl := (List.getElem?_eq_some_iff.1 hq).1
    have hkl : k < o.length := by omega
    have hx2 : (gRound c o q)[k]? = some o[k] := gAdd_at (gAdd_at (List.getElem?_eq_getElem hkl))
    rw [hx] at hx2
    obtain rfl := Option.some.inj hx2
    by_cases hki : k < i
    · have := h.cl k _ hki (List.getElem?_eq_getElem hkl)
      exact ⟨hsub _ this.1, hsub _ this.2⟩
    · obtain rfl : k = i := by omega
      rw [List.getElem?_eq_getElem hkl] at hq
      obtain rfl := Option.some.inj hq
      exact ⟨h1, h2⟩
theorem gLoop_grp {c : Cls} {n most : Nat} : ∀ {f i : Nat} {o o' : Pms}, GInv c n i o → gLoop c most f i o = some o' → IsGrp c n o'
  | 0, _, _, _, _, h => by cases h
  | f + 1, i, o, o', hi, h => by
    cases hq : o[i]? with
    | none =>
      rw [gLoop_none hq] at h
      obtain rfl := Option.some.inj h
      have hl : o.length ≤ i := List.getElem?_eq_none_iff.1 hq
      have key : ∀ q ∈ o, comp q c.1 ∈ o ∧ comp q c.2 ∈ o := fun q hq => by
        obtain ⟨k, hk, rfl⟩ := List.getElem_of_mem hq
        exact hi.cl k _ (by omega) (List.getElem?_eq_getElem hk)
      exact ⟨hi.nodup, hi.one, hi.gen, fun q hq => (key q hq).1, fun q hq => (key q hq).2⟩
    | some q =>
      by_cases hb : most < (gRound c o q).length
      · rw [gLoop_big hq hb] at h; cases h
      · rw [gLoop_go hq hb] at h
        exact gLoop_grp (hi.step hq) h
theorem gLoop_some {c : Cls} {n most : Nat} (hN : ∀ o : Pms, o.Nodup → (∀ q ∈ o, Gen c n q) → o.length ≤ most) : ∀ {f i : Nat} {o : Pms}, GInv c n i o → i ≤ o.length → most + 2 ≤ f + i → ∃ o', gLoop c most f i o = some o'
  | 0, i, o, hi, h1, h2 => by have := hN o hi.nodup hi.gen; omega
  | f + 1, i, o, hi, h1, h2 => by
    cases hq : o[i]? with
    | none => exact ⟨o, gLoop_none hq⟩
    | some q =>
      have hs := hi.step hq
      have hl := (List.getElem?_eq_some_iff.1 hq).1
      have := (gRound_len c o q).1
      rw [gLoop_go hq (by have := hN _ hs.nodup hs.gen; omega)]
      exact gLoop_some hN hs (by omega) (by omega)
section
variable {c : Cls} {n : Nat} {o : Pms} (hc : COk n c) (h : IsGrp c n o)
include hc h
theorem IsGrp.isP {q : List Int} (hq : q ∈ o) : IsP n q := (h.gen q hq).isP hc
theorem IsGrp.mul {p q : List Int} (hp : p ∈ o) (hq : Gen c n q) : comp p q ∈ o := by
  induction hq with
  | one => rw [comp_id (h.isP hc hp)]; exact hp
  | w hg ih => rw [← asc3 (h.isP hc hp) (hg.isP hc)]; exact h.cw _ ih
  | ch hg ih => rw [← asc3 (h.isP hc hp) (hg.isP hc)]; exact h.cc _ ih
theorem IsGrp.inv {p : List Int} (hp : p ∈ o) : inv p ∈ o := by
  have hpp := h.isP hc hp
  have hm : (o.map fun r => comp p r).Perm o := perm_of_sub (nodup_map h.nodup fun x hx y hy e => cancel_left hpp (h.isP hc hx) (h.isP hc hy) e)
    (fun x hx => by obtain ⟨r, hr, rfl⟩ := List.mem_map.1 hx; exact h.mul hc hp (h.gen r hr)) (by simp)
  obtain ⟨r, hr, e⟩ := List.mem_map.1 (hm.mem_iff.2 h.one)
  rw [← inv_uniq hpp (h.isP hc hr) e]
  exact hr
end
/-! ### other names -/
def cjC (s : List Int) (c : Cls) : Cls := (cj s c.1, cj s c.2)
theorem cjC_ok {n : Nat} {s : List Int} (hs : IsP n s) {c : Cls} (hc : COk n c) : COk n (cjC s c) := ⟨cj_isP hs hc.w, cj_isP hs hc.ch⟩
theorem map_gAdd {n : Nat} {s : List Int} (hs : IsP n s) {o : Pms} (ho : ∀ q ∈ o, IsP n q) {p : List Int} (hp : IsP n p) : gAdd (o.map (cj s)) (cj s p) = (gAdd o p).map (cj s) := by
  unfold gAdd
  by_cases h : p ∈ o
  · rw [if_pos h, if_pos (List.mem_map_of_mem h)]
  · rw [if_neg h, if_neg fun hm => ?_]
    · simp
    · obtain ⟨q, hq, e⟩ := List.mem_map.1 hm
      exact h (cj_inj hs (ho q hq) hp e ▸ hq)
theorem gAdd_all {n : Nat} {o : Pms} {p : List Int} (ho : ∀ q ∈ o, IsP n q) (hp : IsP n p) : ∀ q ∈ gAdd o p, IsP n q := fun q hq => (mem_gAdd.1 hq).elim (ho q) fun e => e ▸ hp
theorem map_gRound {n : Nat} {s : List Int} (hs : IsP n s) {c : Cls} (hc : COk n c) {o : Pms} (ho : ∀ q ∈ o, IsP n q) {q : List Int} (hq : IsP n q) : gRound (cjC s c) (o.map (cj s)) (cj s q) = (gRound c o q).map (cj s) := by
  unfold gRound cjC
  rw [← cj_comp hs hq hc.w, ← cj_comp hs hq hc.ch, map_gAdd hs ho (isP_comp hq hc.w), map_gAdd hs (gAdd_all ho (isP_comp hq hc.w)) (isP_comp hq hc.ch)]
theorem gLoop_cj {n most : Nat} {s : List Int} (hs : IsP n s) {c : Cls} (hc : COk n c) : ∀ {f i : Nat} {o : Pms}, (∀ q ∈ o, IsP n q) → gLoop (cjC s c) most f i (o.map (cj s)) = (gLoop c most f i o).map (List.map (cj s))
  | 0, _, _, _ => rfl
  | f + 1, i, o, ho => by
    cases hq : o[i]? with
    | none => rw [gLoop_none hq, gLoop_none (by rw [List.getElem?_map, hq]; rfl)]; rfl
    | some q =>
      have hqp := ho q (List.mem_of_getElem? hq)
      have hq2 : (o.map (cj s))[i]? = some (cj s q) := by rw [List.getElem?_map, hq]; rfl
      have hr := map_gRound hs hc ho hqp
      by_cases hb : most < (gRound c o q).length
      · rw [gLoop_big hq hb, gLoop_big hq2 (by rw [hr, List.length_map]; exact hb)]; rfl
      · rw [gLoop_go hq hb, gLoop_go hq2 (by rw [hr, List.length_map]; exact hb), hr]
        exact gLoop_cj hs hc (gAdd_all (gAdd_all ho (isP_comp hqp hc.w)) (isP_comp hqp hc.ch))
theorem gLoop_cj1 {n most f : Nat} {s : List Int} (hs : IsP n s) {c : Cls} (hc : COk n c) : gLoop (cjC s c) most f 0 [idL n] = (gLoop c most f 0 [idL n]).map (List.map (cj s)) := by
  have := gLoop_cj (most := most) hs hc (f := f) (i := 0) (o := [idL n]) (fun q hq => by simp at hq; subst hq; exact isP_id n)
  simpa [cj_id hs] using this
theorem isPerm_perm {a b : List Int} (h : a.Perm b) : isPerm a = isPerm b := by
  have hl := h.length_eq
  cases hb : isPerm b with
  | true => exact (isP_iff rfl).2 (by rw [hl]; exact h.trans (isP_of hb))
  | false =>
    cases ha : isPerm a with
    | false => rfl
    | true =>
      have := (isP_iff (p := b) rfl).2 (by rw [← hl]; exact h.symm.trans (isP_of ha))
      rw [hb] at this; cases this
theorem regTo_iff {l : Pms} {n : Nat} (hl : l.length = n) : regTo l n = true ↔ ∀ k, k < n → IsP n (colI l k) := by
  unfold regTo
  rw [List.all_eq_true]
  exact ⟨fun h k hk => (isP_iff (by rw [colI_len, hl])).1 (h k (List.mem_range.2 hk)), fun h k hk => (isP_iff (by rw [colI_len, hl])).2 (h k (List.mem_range.1 hk))⟩
theorem colI_perm {a b : Pms} (h : a.Perm b) (k : Nat) : (colI a k).Perm (colI b k) := h.map _
/-- A column under other names: column s[i] is s of column i. -/
theorem colI_cj {n : Nat} {s : List Int} (hs : IsP n s) {l : Pms} (hl : ∀ q ∈ l, IsP n q) {i x : Nat} (hi : i < n) (hx : s[i]? = some (x : Int)) : colI (l.map (cj s)) x = comp (colI l i) s := by
  unfold colI comp
  rw [List.map_map, List.map_map]
  apply List.map_congr_left
  intro q hq
  have hqp := hl q hq
  obtain ⟨y, hy⟩ : ∃ y, q[i]? = some y := ⟨_, List.getElem?_eq_getElem (by rw [hqp.len]; omega)⟩
  have hyr := hqp.range y (List.mem_of_getElem? hy)
  obtain ⟨z, hz⟩ : ∃ z, s[y.toNat]? = some z := ⟨_, List.getElem?_eq_getElem (by rw [hs.len]; omega)⟩
  simp only [Function.comp, List.getD_eq_getElem?_getD, cj_at hs hx hy hz, hy, Option.getD_some, hz]
theorem regTo_cj {n : Nat} {s : List Int} (hs : IsP n s) {l l' : Pms} (hl : ∀ q ∈ l, IsP n q) (hn : l.length = n) (hp : l'.Perm (l.map (cj s))) : regTo l' n = regTo l n := by
  have hn' : l'.length = n := by rw [hp.length_eq, List.length_map, hn]
  apply Bool.eq_iff_iff.2
  rw [regTo_iff hn, regTo_iff hn']
  obtain ⟨hsp, hsl⟩ := isPerm_of hs
  constructor
  · intro h k hk
    obtain ⟨a, ha⟩ : ∃ a, s[k]? = some a := ⟨_, List.getElem?_eq_getElem (by omega)⟩
    have har := hs.range a (List.mem_of_getElem? ha)
    obtain ⟨x, rfl⟩ := Int.eq_ofNat_of_zero_le har.1
    have h1 := h x (by omega)
    have h2 := (colI_perm hp x).symm.trans h1
    rw [colI_cj hs hl hk ha] at h2
    -- comp col s is a permutation; so is col
    have hr : InRange s.length (colI l k) := fun y hy => by
      unfold colI at hy
      obtain ⟨q, hq, rfl⟩ := List.mem_map.1 hy
      have hqp := hl q hq
      have : k < q.length := by rw [hqp.len]; exact hk
      rw [List.getD_eq_getElem?_getD, List.getElem?_eq_getElem this, hsl]
      exact hqp.range _ (List.getElem_mem _)
    have h3 := isP_comp h2 (isP_inv hs)
    rw [comp_assoc hr, comp_inv hs] at h3
    have e : comp (colI l k) (idL n) = colI l k := by
      unfold comp
      refine (List.map_congr_left (g := id) fun y hy => ?_).trans (List.map_id _)
      have := hr y hy
      rw [hsl] at this
      rw [List.getD_eq_getElem?_getD, idL_at (by omega : y.toNat < n)]
      simp; omega
    rwa [e] at h3
  · intro h k hk
    obtain ⟨i, a, ha, e, hi⟩ := isPerm_onto hsp (i := k) (by omega)
    have har := hs.range a (List.mem_of_getElem? ha)
    obtain rfl : a = (k : Int) := by omega
    refine (colI_perm hp k).trans ?_
    rw [colI_cj hs hl (by omega) ha]
    exact isP_comp (h i (by omega)) hs
end Go.Proofs.Ytlnhhfebmeekhaa
