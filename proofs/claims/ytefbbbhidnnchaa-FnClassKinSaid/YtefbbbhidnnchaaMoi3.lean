/- Plain: the rounds that spread halves (spec.MoietiesOf). -/
import Derived.Test.YtefbbbhidnnchaaZ14P
namespace Go.Proofs.Ytefbbbhidnnchaa
set_option linter.unusedVariables false
set_option linter.unusedSimpArgs false
open Go.RowKit

/-- Closed, and nothing meets what it must not meet: the persons before a, the unions before k. -/
def FxP (f : Fam) (sex : Int) (a : Nat) (o : List Int) : Prop := ∀ p, p < a → (0 ≤ mrk o p ↔ 0 ≤ mrk o (fo f.1 sex p)) ∧ mrk o p = mrk o (fo f.1 sex p)
def FxU (f : Fam) (k : Nat) (o : List Int) : Prop := ∀ u ∈ f.2.take k, (0 ≤ mrk o u.1.toNat ↔ 0 ≤ mrk o u.2.1.toNat) ∧ (0 ≤ mrk o u.1.toNat → ¬ mrk o u.1.toNat = mrk o u.2.1.toNat)
def Fix (f : Fam) (sex : Int) (o : List Int) : Prop := FxP f sex f.1.length o ∧ FxU f f.2.length o
/-- In the midst of a round that began with o'. -/
structure Sr (f : Fam) (sex : Int) (o1 o' : List Int) (a k : Nat) (o : List Int) : Prop where
  inn : Inn f sex o1 o
  cnt : unm f.1.length o ≤ unm f.1.length o'
  same : unm f.1.length o = unm f.1.length o' → FxP f sex a o ∧ FxU f k o
  fix : Fix f sex o' → o = o'
/-- At the head of round r. -/
structure Hr (f : Fam) (sex : Int) (o1 : List Int) (r : Nat) (o : List Int) : Prop where
  inn : Inn f sex o1 o
  far : Fix f sex o ∨ unm f.1.length o + r + 1 ≤ f.1.length

section
variable {f : Fam} {sex : Int} {o1 o' o : List Int} {a k r : Nat}
theorem Sr.start (h : Inn f sex o1 o) : Sr f sex o1 o 0 0 o := ⟨h, Nat.le_refl _, fun _ => ⟨fun p hp => by omega, fun u hu => by simp at hu⟩, fun _ => rfl⟩
theorem Sr.keep (h : Sr f sex o1 o' a k o) (he : mrk o a = mrk o (fo f.1 sex a)) : Sr f sex o1 o' (a + 1) k o := by
  refine ⟨h.inn, h.cnt, fun e => ⟨fun p hp => ?_, (h.same e).2⟩, h.fix⟩
  by_cases e2 : p = a
  · rw [e2]; exact ⟨by rw [he], he⟩
  · exact (h.same e).1 p (by omega)
theorem Sr.put2 (h : Sr f sex o1 o' a k o) (ha : a < f.1.length) (hq : fo f.1 sex a < f.1.length) (h1 : 0 ≤ mrk o a) (h2 : mrk o (fo f.1 sex a) < 0) : Sr f sex o1 o' (a + 1) k (o.set (fo f.1 sex a) (mrk o a)) := by
  have hr := h.inn.rng.2 _ ha
  have hc := unm_set hq h.inn.rng.1 h2 h1
  have := h.cnt
  refine ⟨h.inn.put hq (by omega) (by omega) (fun g hg hA => ?_), by omega, fun e => by omega, fun hf => ?_⟩
  · rw [← hg.2.1 a ha]; exact hA _ ha h1
  · have e := h.fix hf
    have := (hf.1 a ha).1
    rw [← e] at this
    omega
theorem Sr.bad (h : Sr f sex o1 o' a k o) (ha : a < f.1.length) (hq : fo f.1 sex a < f.1.length) (h1 : 0 ≤ mrk o a) (h2 : 0 ≤ mrk o (fo f.1 sex a)) (hne : ¬ mrk o a = mrk o (fo f.1 sex a)) : ¬ ∃ g, Val f sex g ∧ Agr f.1.length g o1 := fun ⟨g, hg, hA⟩ => by
  have hB := h.inn.forced g hg hA
  have e1 := hB a ha h1
  have e2 := hB _ hq h2
  have e3 := hg.2.1 a ha
  omega
theorem Sr.round (h : Sr f sex o1 o' f.1.length f.2.length o) (hr : Hr f sex o1 r o') : Hr f sex o1 (r + 1) o := by
  refine ⟨h.inn, ?_⟩
  rcases hr.far with hf | hf
  · left; rw [h.fix hf]; exact hf
  · by_cases e : unm f.1.length o = unm f.1.length o'
    · left; exact h.same e
    · right; have := h.cnt; omega
theorem Hr.start {p : Nat} (h : Inn f sex o1 o1) (hp : p < f.1.length) (hm : 0 ≤ mrk o1 p) : Hr f sex o1 0 o1 := by
  refine ⟨h, .inr ?_⟩
  have : unm f.1.length o1 < f.1.length := by
    unfold unm
    have := filter_lt (n := f.1.length) (b := p) (p := fun _ => true) (q := fun q => decide (mrk o1 q < 0) || false) hp rfl (by simp; omega)
    have h2 := List.length_filter_le (fun q => decide (mrk o1 q < 0)) (List.range f.1.length)
    rw [List.length_range] at h2
    rcases Nat.lt_or_ge ((List.range f.1.length).filter fun q => decide (mrk o1 q < 0)).length f.1.length with h3 | h3
    · exact h3
    · have h4 : (List.range f.1.length).filter (fun q => decide (mrk o1 q < 0)) = List.range f.1.length := by
        refine (List.filter_sublist (l := List.range f.1.length) (p := fun q => decide (mrk o1 q < 0))).eq_of_length ?_
        rw [List.length_range]; omega
      have h5 : p ∈ (List.range f.1.length).filter (fun q => decide (mrk o1 q < 0)) := by rw [h4]; exact List.mem_range.2 hp
      have h6 := (List.mem_filter.1 h5).2
      simp at h6; omega
  omega
theorem Hr.fixed (h : Hr f sex o1 r o) (hr : f.1.length ≤ r) : Fix f sex o := by
  rcases h.far with h | h
  · exact h
  · omega
theorem Fix.clo (h : Fix f sex o) : Clo f sex o := ⟨fun p hp => (h.1 p hp).1, fun u hu => (h.2 u (by rw [List.take_length]; exact hu)).1⟩
theorem Fix.start (hin : ∀ p, p < f.1.length → fo f.1 sex p < f.1.length) (hun : ∀ u ∈ f.2, u.1.toNat < f.1.length ∧ u.2.1.toNat < f.1.length) : Fix f sex (List.replicate f.1.length (-1)) := by
  have e : ∀ q, q < f.1.length → mrk (List.replicate f.1.length (-1)) q = -1 := fun q hq => by
    simp [mrk, getI, List.getD_eq_getElem?_getD, hq]
  refine ⟨fun p hp => by rw [e p hp, e _ (hin p hp)]; simp, fun u hu => ?_⟩
  have hu' : u ∈ f.2 := by rw [List.take_length] at hu; exact hu
  rw [e _ (hun u hu').1, e _ (hun u hu').2]
  exact ⟨Iff.rfl, fun h => by omega⟩
end
end Go.Proofs.Ytefbbbhidnnchaa
