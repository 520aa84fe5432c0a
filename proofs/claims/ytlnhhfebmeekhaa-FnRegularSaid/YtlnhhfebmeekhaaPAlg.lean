/- Plain: the algebra of permutations as lists of numbers. -/
import Derived.Test.YtlnhhfebmeekhaaPermLaw
import Derived.Test.YtlnhhfebmeekhaaRel
namespace Go.Proofs.Ytlnhhfebmeekhaa
set_option linter.unusedVariables false
set_option linter.unusedSimpArgs false

abbrev IsP (n : Nat) (p : List Int) : Prop := p.Perm (idL n)
theorem perm_of_sub {α : Type} [DecidableEq α] : ∀ {a b : List α}, a.Nodup → (∀ x ∈ a, x ∈ b) → b.length ≤ a.length → a.Perm b
  | [], b, _, _, h => by
    have : b = [] := List.eq_nil_of_length_eq_zero (by simpa using h)
    subst this; exact List.Perm.nil
  | x :: a, b, hn, hs, h => by
    have hx : x ∈ b := hs x (by simp)
    rw [List.nodup_cons] at hn
    have hl := List.length_erase_of_mem hx
    have hp : 0 < b.length := List.length_pos_of_mem hx
    refine (List.Perm.cons x (perm_of_sub hn.2 (fun y hy => ?_) (by simp at h; omega))).trans (List.perm_cons_erase hx).symm
    exact (List.mem_erase_of_ne (fun e : y = x => hn.1 (by rw [← e]; exact hy))).2 (hs y (by simp [hy]))
theorem len_of_sub {α : Type} [DecidableEq α] : ∀ {a b : List α}, a.Nodup → (∀ x ∈ a, x ∈ b) → a.length ≤ b.length
  | [], b, _, _ => Nat.zero_le _
  | x :: a, b, hn, hs => by
    have hx : x ∈ b := hs x (by simp)
    rw [List.nodup_cons] at hn
    have hl := List.length_erase_of_mem hx
    have hp : 0 < b.length := List.length_pos_of_mem hx
    have := len_of_sub (b := b.erase x) hn.2 fun y hy => (List.mem_erase_of_ne (fun e : y = x => hn.1 (by rw [← e]; exact hy))).2 (hs y (by simp [hy]))
    simp; omega
theorem nodup_of_map {α β : Type} {f : α → β} : ∀ {l : List α}, (l.map f).Nodup → l.Nodup
  | [], _ => List.nodup_nil
  | x :: l, h => by
    rw [List.map_cons, List.nodup_cons] at h
    rw [List.nodup_cons]
    exact ⟨fun hm => h.1 (List.mem_map_of_mem hm), nodup_of_map h.2⟩
theorem nodup_map {α β : Type} {f : α → β} : ∀ {l : List α}, l.Nodup → (∀ x ∈ l, ∀ y ∈ l, f x = f y → x = y) → (l.map f).Nodup
  | [], _, _ => List.nodup_nil
  | x :: l, h, hi => by
    rw [List.nodup_cons] at h
    rw [List.map_cons, List.nodup_cons]
    refine ⟨fun hm => ?_, nodup_map h.2 fun a ha b hb => hi a (by simp [ha]) b (by simp [hb])⟩
    obtain ⟨y, hy, e⟩ := List.mem_map.1 hm
    have := hi y (by simp [hy]) x (by simp) e
    exact h.1 (this ▸ hy)

theorem IsP.len {n : Nat} {p : List Int} (h : IsP n p) : p.length = n := by have := List.Perm.length_eq h; rwa [idL_len] at this
theorem IsP.range {n : Nat} {p : List Int} (h : IsP n p) : InRange n p := fun x hx => idL_mem (List.Perm.mem_iff h |>.1 hx)
theorem IsP.nodup {n : Nat} {p : List Int} (h : IsP n p) : p.Nodup := (List.Perm.nodup_iff h).2 (nodup_of_map (idL_nodup n))
theorem isP_of {p : List Int} (h : isPerm p = true) : IsP p.length p := by
  refine perm_of_sub (nodup_of_map (isPerm_nodup h)) (fun x hx => ?_) (by rw [idL_len]; exact Nat.le_refl _)
  have := isPerm_range h x hx
  unfold idL
  exact List.mem_map.2 ⟨x.toNat, List.mem_range.2 (by omega), by omega⟩
theorem isP_iff {p : List Int} {n : Nat} (hl : p.length = n) : isPerm p = true ↔ IsP n p := by
  constructor
  · intro h; rw [← hl]; exact isP_of h
  · intro h; exact (isPerm_of h).1
theorem isP_id (n : Nat) : IsP n (idL n) := List.Perm.refl _
theorem isP_comp {n : Nat} {p q : List Int} (hp : IsP n p) (hq : IsP n q) : IsP n (comp p q) := (comp_perm hp hq.len).trans hq
theorem isP_inv {n : Nat} {p : List Int} (hp : IsP n p) : IsP n (inv p) := inv_perm hp
theorem comp_assoc {p q r : List Int} (h : InRange q.length p) : comp (comp p q) r = comp p (comp q r) := by
  unfold comp
  rw [List.map_map]
  apply List.map_congr_left
  intro x hx
  have hr := h x hx
  have hl : x.toNat < q.length := by omega
  simp [List.getD_eq_getElem?_getD, List.getElem?_map, List.getElem?_eq_getElem hl]
theorem asc3 {n : Nat} {p q r : List Int} (hp : IsP n p) (hq : IsP n q) : comp (comp p q) r = comp p (comp q r) := comp_assoc (by rw [hq.len]; exact hp.range)
theorem comp_id {n : Nat} {p : List Int} (hp : IsP n p) : comp p (idL n) = p := by
  unfold comp
  refine (List.map_congr_left (g := id) fun x hx => ?_).trans (List.map_id _)
  have := hp.range x hx
  rw [List.getD_eq_getElem?_getD, idL_at (by omega : x.toNat < n)]
  simp; omega
theorem id_comp {n : Nat} {p : List Int} (hp : IsP n p) : comp (idL n) p = p := by
  have := comp_idL p
  rwa [hp.len] at this
theorem cancel_left {n : Nat} {p q r : List Int} (hp : IsP n p) (hq : IsP n q) (hr : IsP n r) (h : comp p q = comp p r) : q = r := by
  have h2 := congrArg (comp (inv p)) h
  rwa [← asc3 (isP_inv hp) hp, ← asc3 (isP_inv hp) hp, inv_comp hp, id_comp hq, id_comp hr] at h2
theorem cancel_right {n : Nat} {p q r : List Int} (hp : IsP n p) (hq : IsP n q) (hr : IsP n r) (h : comp q p = comp r p) : q = r := by
  have h2 := congrArg (fun x => comp x (inv p)) h
  rwa [asc3 hq hp, asc3 hr hp, comp_inv hp, comp_id hq, comp_id hr] at h2
theorem inv_uniq {n : Nat} {p r : List Int} (hp : IsP n p) (hr : IsP n r) (h : comp p r = idL n) : r = inv p :=
  cancel_left hp hr (isP_inv hp) (h.trans (comp_inv hp).symm)
theorem inv_inv {n : Nat} {p : List Int} (hp : IsP n p) : inv (inv p) = p := (inv_uniq (isP_inv hp) hp (inv_comp hp)).symm

/-! ### other names: q becomes s⁻¹ q s -/
def cj (s q : List Int) : List Int := comp (comp (inv s) q) s
section
variable {n : Nat} {s : List Int} (hs : IsP n s)
include hs
theorem cj_isP {q : List Int} (hq : IsP n q) : IsP n (cj s q) := isP_comp (isP_comp (isP_inv hs) hq) hs
theorem cj_id : cj s (idL n) = idL n := by unfold cj; rw [comp_id (isP_inv hs), inv_comp hs]
theorem cj_comp {p q : List Int} (hp : IsP n p) (hq : IsP n q) : cj s (comp p q) = comp (cj s p) (cj s q) := by
  unfold cj
  have hi := isP_inv hs
  rw [asc3 (isP_comp hi hp) hs, asc3 (r := s) hi hq, ← asc3 (r := comp q s) hs hi, comp_inv hs, id_comp (isP_comp hq hs)]
  rw [asc3 (r := comp q s) hi hp, ← asc3 (r := s) hp hq, asc3 (r := s) hi (isP_comp hp hq)]
theorem cj_inj {p q : List Int} (hp : IsP n p) (hq : IsP n q) (h : cj s p = cj s q) : p = q :=
  cancel_left (isP_inv hs) hp hq (cancel_right hs (isP_comp (isP_inv hs) hp) (isP_comp (isP_inv hs) hq) h)
theorem cj_inv {p : List Int} (hp : IsP n p) : cj s (inv p) = inv (cj s p) := by
  refine inv_uniq (cj_isP hs hp) (cj_isP hs (isP_inv hp)) ?_
  rw [← cj_comp hs hp (isP_inv hp), comp_inv hp, cj_id hs]
theorem cj_cj {t q : List Int} (ht : IsP n t) (hq : IsP n q) : cj t (cj s q) = cj (comp s t) q := by
  unfold cj
  have hi := isP_inv hs
  have hj := isP_inv ht
  rw [inv_of_comp hs ht, asc3 (r := q) hj hi, ← asc3 (r := s) hj (isP_comp hi hq), asc3 (r := t) (isP_comp hj (isP_comp hi hq)) hs]
/-- At s[i] stands s[q[i]]. -/
theorem cj_at {q : List Int} {i x : Nat} {y : Int} {z : Int} (hx : s[i]? = some (x : Int)) (hy : q[i]? = some y) (hz : s[y.toNat]? = some z) : (cj s q)[x]? = some z := by
  obtain ⟨h, hl⟩ := isPerm_of hs
  have h1 := inv_at h hx
  rw [Int.toNat_natCast] at h1
  exact comp_at (comp_at h1 (by rw [Int.toNat_natCast]; exact hy)) hz
end

/-! ### relabeling is the same -/
theorem relGo_out (p : List Int) : ∀ (ps fs out : List Int) (i : Nat), (∀ x ∈ ps, x.toNat ≠ i) → (relGo p out ps fs)[i]? = out[i]?
  | [], _, _, _, _ => by rw [relGo]; simp
  | _ :: _, [], _, _, _ => by rw [relGo]; simp
  | x :: ps, y :: fs, out, i, h => by
    rw [relGo, relGo_out p ps fs _ i (fun z hz => h z (by simp [hz])), List.getElem?_set_ne (h x (by simp))]
theorem relGo_in (p : List Int) : ∀ (ps fs out : List Int) (j : Nat) (x y : Int), (ps.map Int.toNat).Nodup → ps[j]? = some x → fs[j]? = some y → x.toNat < out.length → (relGo p out ps fs)[x.toNat]? = some (p.getD y.toNat 0)
  | [], _, _, _, _, _, _, h, _, _ => by simp at h
  | _ :: _, [], _, _, _, _, _, _, h, _ => by simp at h
  | a :: ps, b :: fs, out, 0, x, y, hn, h1, h2, hl => by
    simp at h1 h2; subst h1; subst h2
    rw [List.map_cons, List.nodup_cons] at hn
    rw [relGo, relGo_out p ps fs _ a.toNat (fun z hz e => hn.1 (by rw [← e]; exact List.mem_map_of_mem hz))]
    simp [hl]
  | a :: ps, b :: fs, out, j + 1, x, y, hn, h1, h2, hl => by
    rw [List.map_cons, List.nodup_cons] at hn
    rw [relGo]
    exact relGo_in p ps fs _ j x y hn.2 (by simpa using h1) (by simpa using h2) (by simpa using hl)
theorem relab_cj {n : Nat} {s f : List Int} (hs : IsP n s) (hf : IsP n f) : relab s f = cj s f := by
  obtain ⟨h, hl⟩ := isPerm_of hs
  apply List.ext_getElem?
  intro x
  by_cases hx : x < n
  · obtain ⟨i, a, ha, e, hi⟩ := isPerm_onto h (i := x) (by omega)
    have hr := isPerm_range h a (List.mem_of_getElem? ha)
    obtain rfl : a = (x : Int) := by omega
    obtain ⟨y, hy⟩ : ∃ y, f[i]? = some y := ⟨_, List.getElem?_eq_getElem (by rw [hf.len]; omega)⟩
    have hyr := hf.range y (List.mem_of_getElem? hy)
    obtain ⟨z, hz⟩ : ∃ z, s[y.toNat]? = some z := ⟨_, List.getElem?_eq_getElem (by omega)⟩
    rw [cj_at hs ha hy hz]
    have := relGo_in s s f (List.replicate s.length 0) i x y (isPerm_nodup h) ha hy (by simp; omega)
    unfold relab
    rw [Int.toNat_natCast] at this
    rw [this, List.getD_eq_getElem?_getD, hz]
    rfl
  · rw [List.getElem?_eq_none (by rw [relab_len]; omega), List.getElem?_eq_none (by rw [(cj_isP hs hf).len]; omega)]
end Go.Proofs.Ytlnhhfebmeekhaa
