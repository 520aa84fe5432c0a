/- Plain: the law FnMoieties. -/
import Derived.Test.YtefbbbhidnnchaaMoiI
namespace Go.Proofs.Ytefbbbhidnnchaa
set_option linter.unusedVariables false
set_option linter.unusedSimpArgs false
open Go.RowKit

theorem val_flip {f : Fam} {sex : Int} {h : Nat → Int} (hv : Val f sex h) : Val f sex (fun q => 1 - h q) :=
  ⟨fun p hp => by have := hv.1 p hp; dsimp only; omega, fun p hp => by have := hv.2.1 p hp; dsimp only; omega, fun u hu => by have := hv.2.2 u hu; dsimp only; omega⟩
/-- The first person is marked 0. -/
theorem least_zero {f : Fam} {sex : Int} {X : List Int} (h : Least f sex X) (h0 : 0 < f.1.length) : mrk X 0 = 0 := by
  have h1 := h.2.2 0 h0 _ (val_flip h.2.1) (fun r hr => by omega)
  have h2 := h.2.1.1 0 h0
  omega
theorem mrk_at {X : List Int} {q : Nat} {x : Int} (h : X[q]? = some x) : mrk X q = x := by
  simp [mrk, getI, List.getD_eq_getElem?_getD, h]
theorem least_at {f : Fam} {sex : Int} {X : List Int} (h : Least f sex X) {p : Nat} {x : Int} (hx : X[p]? = some x) : (x = 0 ∨ x = 1) ∧ mrk X (fo f.1 sex p) = x := by
  have hp : p < f.1.length := by rw [← h.1]; exact (List.getElem?_eq_some_iff.1 hx).1
  have e := mrk_at hx
  have h1 := h.2.1.1 p hp
  have h2 := h.2.1.2.1 p hp
  exact ⟨by omega, by omega⟩
theorem least_exo {f : Fam} {sex : Int} {X : List Int} (hf : famB f = true) (h : Least f sex X) : exoB f X = true := by
  rw [exoB_iff hf h.1]
  intro u hu
  have := h.2.1.2.2 u hu
  omega
theorem mrk_other {X : List Int} {q : Nat} (hq : q < X.length) : mrk (X.map fun x => 1 - x) q = 1 - mrk X q := by
  have e : X[q]? = some X[q] := List.getElem?_eq_getElem hq
  rw [mrk_at e, mrk_at (x := 1 - X[q]) (by rw [List.getElem?_map, e]; rfl)]
theorem other_exo {f : Fam} {sex : Int} {X : List Int} (hf : famB f = true) (h : Least f sex X) : exoB f (X.map fun x => 1 - x) = true := by
  rw [exoB_iff hf (by rw [List.length_map]; exact h.1)]
  intro u hu
  have h1 := h.2.1.2.2 u hu
  obtain ⟨k, hk, e⟩ := List.getElem_of_mem hu
  obtain ⟨m, wo, fr, tl⟩ := u
  have h2 := uniOk_facts ((famB_facts hf).2.2.2 k hk) (m := m) (wo := wo) (fr := fr) (tl := tl) (by rw [List.getElem?_eq_getElem hk, e])
  have hl := h.1
  dsimp only at h1 ⊢
  rw [mrk_other (by omega), mrk_other (by omega)]
  omega
end Go.Proofs.Ytefbbbhidnnchaa
