/- The plain law of FnPermutations. -/
import Derived.Test.YtlnhhfebmeekhaaZ10C
namespace Go.Proofs.Ytlnhhfebmeekhaa
set_option linter.unusedVariables false
set_option linter.unusedSimpArgs false

theorem permGo_of {n : Nat} : ∀ (xs : List Int) (seen : List Bool), (∀ x ∈ xs, 0 ≤ x ∧ x < n ∧ seen.getD x.toNat true = false) → (xs.map Int.toNat).Nodup → permGo n seen xs = true
  | [], _, _, _ => rfl
  | x :: xs, seen, h, hn => by
    rw [permGo, if_pos (h x (by simp))]
    simp only [List.map_cons, List.nodup_cons] at hn
    refine permGo_of xs _ (fun y hy => ?_) hn.2
    obtain ⟨h1, h2, h3⟩ := h y (by simp [hy])
    refine ⟨h1, h2, ?_⟩
    rw [List.getD_eq_getElem?_getD, List.getElem?_set_ne (fun e => hn.1 (List.mem_map.2 ⟨y, hy, e.symm⟩)), ← List.getD_eq_getElem?_getD]
    exact h3
theorem idL_at {n j : Nat} (h : j < n) : (idL n)[j]? = some (j : Int) := by simp [idL, h]
theorem idL_mem {n : Nat} {x : Int} (h : x ∈ idL n) : 0 ≤ x ∧ x < n := by
  unfold idL at h
  obtain ⟨i, hi, rfl⟩ := List.mem_map.1 h
  have := List.mem_range.1 hi
  omega
theorem idL_nodup (n : Nat) : ((idL n).map Int.toNat).Nodup := by
  have : (idL n).map Int.toNat = List.range n := by
    unfold idL; rw [List.map_map]
    exact (List.map_congr_left (fun i _ => by simp)).trans (List.map_id _)
  rw [this]; exact List.nodup_range
theorem isPerm_of {n : Nat} {p : List Int} (h : p.Perm (idL n)) : isPerm p = true ∧ p.length = n := by
  have hl : p.length = n := by rw [h.length_eq, idL_len]
  refine ⟨?_, hl⟩
  unfold isPerm
  refine permGo_of p _ (fun x hx => ?_) ((h.map Int.toNat).nodup_iff.2 (idL_nodup n))
  have := idL_mem (h.mem_iff.1 hx)
  refine ⟨this.1, by omega, ?_⟩
  rw [List.getD_eq_getElem?_getD, List.getElem?_replicate, if_pos (by omega)]; rfl

theorem inv_at {p : List Int} (h : isPerm p = true) {j : Nat} {x : Int} (hx : p[j]? = some x) : (inv p)[x.toNat]? = some (j : Int) := by
  have hr := isPerm_range h x (List.mem_of_getElem? hx)
  have := invSet_in p (List.replicate p.length 0) 0 j x (isPerm_nodup h) hx (by simp; omega)
  simpa [inv] using this
theorem comp_at {p q : List Int} {j : Nat} {x y : Int} (hx : p[j]? = some x) (hy : q[x.toNat]? = some y) : (comp p q)[j]? = some y := by
  unfold comp
  rw [List.getElem?_map, hx]
  simp [List.getD_eq_getElem?_getD, hy]
theorem comp_idL (q : List Int) : comp (idL q.length) q = q := by
  apply List.ext_getElem?
  intro i
  by_cases hi : i < q.length
  · rw [comp_at (idL_at hi) (by rw [Int.toNat_natCast]; exact List.getElem?_eq_getElem hi), List.getElem?_eq_getElem hi]
  · rw [List.getElem?_eq_none (by rw [comp_len, idL_len]; omega), List.getElem?_eq_none (by omega)]
theorem comp_perm {n : Nat} {p q : List Int} (hp : p.Perm (idL n)) (hq : q.length = n) : (comp p q).Perm q := by
  subst hq
  have : (comp p q).Perm (comp (idL q.length) q) := hp.map _
  rwa [comp_idL] at this
theorem comp_inv {n : Nat} {p : List Int} (hp : p.Perm (idL n)) : comp p (inv p) = idL n := by
  obtain ⟨h, hl⟩ := isPerm_of hp
  apply List.ext_getElem?
  intro i
  by_cases hi : i < n
  · have hx : p[i]? = some p[i] := List.getElem?_eq_getElem (by omega)
    rw [comp_at hx (inv_at h hx), idL_at hi]
  · rw [List.getElem?_eq_none (by rw [comp_len]; omega), List.getElem?_eq_none (by rw [idL_len]; omega)]
theorem inv_perm {n : Nat} {p : List Int} (hp : p.Perm (idL n)) : (inv p).Perm (idL n) := by
  obtain ⟨h, hl⟩ := isPerm_of hp
  have h1 := comp_perm hp (q := inv p) (by rw [inv_len, hl])
  rw [comp_inv hp] at h1
  exact h1.symm
theorem inv_comp {n : Nat} {p : List Int} (hp : p.Perm (idL n)) : comp (inv p) p = idL n := by
  obtain ⟨h, hl⟩ := isPerm_of hp
  apply List.ext_getElem?
  intro i
  by_cases hi : i < n
  · obtain ⟨j, x, hx, e, hj⟩ := isPerm_onto h (i := i) (by omega)
    have hr := isPerm_range h x (List.mem_of_getElem? hx)
    have h1 := inv_at h hx
    rw [e] at h1
    rw [comp_at h1 (by rw [Int.toNat_natCast]; exact hx), idL_at hi]
    congr 1; omega
  · rw [List.getElem?_eq_none (by rw [comp_len, inv_len]; omega), List.getElem?_eq_none (by rw [idL_len]; omega)]
theorem inv_of_comp {n : Nat} {p q : List Int} (hp : p.Perm (idL n)) (hq : q.Perm (idL n)) : inv (comp p q) = comp (inv q) (inv p) := by
  obtain ⟨h, hl⟩ := isPerm_of hp
  obtain ⟨k, kl⟩ := isPerm_of hq
  obtain ⟨c, cl⟩ := isPerm_of ((comp_perm hp kl).trans hq)
  apply List.ext_getElem?
  intro i
  by_cases hi : i < n
  · obtain ⟨j, y, hy, e, hj⟩ := isPerm_onto c (i := i) (by omega)
    have h1 := inv_at c hy
    rw [e] at h1
    have hx : p[j]? = some p[j] := List.getElem?_eq_getElem (by omega)
    have hr := isPerm_range h p[j] (List.mem_of_getElem? hx)
    have hqx : q[(p[j]).toNat]? = some q[(p[j]).toNat] := List.getElem?_eq_getElem (by omega)
    have hyy := comp_at hx hqx
    rw [hy] at hyy
    have e2 : y = q[(p[j]).toNat] := by simpa using hyy
    rw [← e2] at hqx
    have h2 := inv_at k hqx
    rw [e] at h2
    have h3 := inv_at h hx
    rw [h1, comp_at h2 (by rw [Int.toNat_natCast]; exact h3)]
  · rw [List.getElem?_eq_none (by rw [inv_len]; omega), List.getElem?_eq_none (by rw [comp_len, inv_len]; omega)]

/-- All that the law asks. -/
theorem perms_law {n : Nat} {p q : List Int} (hp : p.Perm (idL n)) (hq : q.Perm (idL n)) :
    isPerm (compP p q) = true ∧ compP p (invP p) = idL n ∧ compP (invP p) p = idL n ∧ invP (compP p q) = compP (invP q) (invP p) ∧ p.length = n ∧ q.length = n := by
  obtain ⟨h, hl⟩ := isPerm_of hp
  obtain ⟨k, kl⟩ := isPerm_of hq
  obtain ⟨c, cl⟩ := isPerm_of ((comp_perm hp kl).trans hq)
  obtain ⟨ip, il⟩ := isPerm_of (inv_perm hp)
  obtain ⟨iq, jl⟩ := isPerm_of (inv_perm hq)
  have e1 : compP p q = comp p q := if_pos ⟨h, k, by omega⟩
  have e2 : invP p = inv p := if_pos h
  have e3 : invP q = inv q := if_pos k
  refine ⟨by rw [e1]; exact c, ?_, ?_, ?_, hl, kl⟩
  · rw [e2, compP, if_pos ⟨h, ip, by omega⟩, comp_inv hp]
  · rw [e2, compP, if_pos ⟨ip, h, by omega⟩, inv_comp hp]
  · rw [e1, e2, e3, invP, if_pos c, compP, if_pos ⟨iq, ip, by omega⟩, inv_of_comp hp hq]
end Go.Proofs.Ytlnhhfebmeekhaa
