/- Plain: the sweeps that spread a mark (impl.MoietiesOf). -/
import Derived.Test.YtomigopkejlmcaaMoi
namespace Go.Proofs.Ytomigopkejlmcaa
set_option linter.unusedVariables false
set_option linter.unusedSimpArgs false
open Go.RowKit

/-- How many are not marked yet. -/
def unm (n : Nat) (o : List Int) : Nat := ((List.range n).filter fun q => decide (mrk o q < 0)).length
theorem unm_le (n : Nat) (o : List Int) : unm n o ≤ n := by
  unfold unm
  have := List.length_filter_le (fun q => decide (mrk o q < 0)) (List.range n)
  simpa using this
theorem filter_lt {n b : Nat} {p q : Nat → Bool} (hb : b < n) (hp : p b = true) (hq : q b = false) (h : ∀ i, i ≠ b → q i = p i) : ((List.range n).filter q).length < ((List.range n).filter p).length := by
  induction n with
  | zero => omega
  | succ n ih =>
    rw [List.range_succ, List.filter_append, List.filter_append, List.length_append, List.length_append]
    by_cases e : b = n
    · subst e
      have e2 : (List.range b).filter q = (List.range b).filter p := List.filter_congr fun i hi => h i (by have := List.mem_range.1 hi; omega)
      rw [e2]; simp [hp, hq]
    · have := ih (by omega)
      have e2 : q n = p n := h n (fun e' => e e'.symm)
      simp only [List.filter_cons, List.filter_nil, e2]
      omega
theorem unm_set {n : Nat} {o : List Int} {b : Nat} (hb : b < n) (hl : o.length = n) (hm : mrk o b < 0) {y : Int} (hy : 0 ≤ y) : unm n (o.set b y) < unm n o := by
  unfold unm
  refine filter_lt hb (by simpa using hm) ?_ fun i hi => ?_
  · rw [mrk_set (by omega), if_pos rfl]; simp; omega
  · rw [mrk_set (by omega), if_neg (fun e => hi e.symm)]

/-- The pairs before (a, b) are closed. -/
def PPr (f : Fam) (sex : Int) (a b : Nat) (o : List Int) : Prop :=
  ∀ a' b', a' < f.1.length → b' < f.1.length → (a' < a ∨ (a' = a ∧ b' < b)) → fo f.1 sex a' = fo f.1 sex b' → 0 ≤ mrk o a' → 0 ≤ mrk o b'
/-- The unions before k are closed. -/
def PUn (f : Fam) (k : Nat) (o : List Int) : Prop := ∀ u ∈ f.2.take k, (0 ≤ mrk o u.1.toNat ↔ 0 ≤ mrk o u.2.1.toNat)
/-- In the midst of a sweep that began with o'. t: has a mark been laid? -/
structure Sw (f : Fam) (sex : Int) (o1 o' : List Int) (a b k : Nat) (t : Bool) (o : List Int) : Prop where
  inn : Inn f sex o1 o
  same : t = false → PPr f sex a b o ∧ PUn f k o
  cnt : unm f.1.length o ≤ unm f.1.length o' ∧ (t = true → unm f.1.length o < unm f.1.length o')

section
variable {f : Fam} {sex : Int} {o1 o' o : List Int} {a b k : Nat} {t : Bool}
theorem Sw.start (h : Inn f sex o1 o) : Sw f sex o1 o 0 0 0 false o :=
  ⟨h, fun _ => ⟨fun a' b' _ _ h1 => by omega, fun u hu => by simp at hu⟩, Nat.le_refl _, fun h => by cases h⟩
theorem Sw.keep (h : Sw f sex o1 o' a b k t o) (hn : ¬ (0 ≤ mrk o a ∧ mrk o b < 0 ∧ fo f.1 sex a = fo f.1 sex b)) : Sw f sex o1 o' a (b + 1) k t o := by
  refine ⟨h.inn, fun ht => ⟨fun a' b' h1 h2 h3 h4 h5 => ?_, (h.same ht).2⟩, h.cnt⟩
  by_cases e : a' = a ∧ b' = b
  · obtain ⟨rfl, rfl⟩ := e
    by_cases e2 : 0 ≤ mrk o b'
    · exact e2
    · exact (hn ⟨h5, by omega, h4⟩).elim
  · exact (h.same ht).1 a' b' h1 h2 (by omega) h4 h5
theorem Sw.put (h : Sw f sex o1 o' a b k t o) (ha : a < f.1.length) (hb : b < f.1.length) (h1 : 0 ≤ mrk o a) (h2 : mrk o b < 0) (h3 : fo f.1 sex a = fo f.1 sex b) : Sw f sex o1 o' a (b + 1) k true (o.set b (mrk o a)) := by
  have hr := h.inn.rng.2 a ha
  have hc := unm_set hb h.inn.rng.1 h2 h1
  refine ⟨h.inn.put hb (by omega) (by omega) (fun g hg hA => ?_), fun h => (by cases h), by have := h.cnt.1; omega, fun _ => by have := h.cnt.1; omega⟩
  rw [hg.2.1 b hb, ← h3, ← hg.2.1 a ha]
  exact hA a ha h1
theorem Sw.row (h : Sw f sex o1 o' a f.1.length k t o) : Sw f sex o1 o' (a + 1) 0 k t o :=
  ⟨h.inn, fun ht => ⟨fun a' b' h1 h2 h3 h4 h5 => (h.same ht).1 a' b' h1 h2 (by omega) h4 h5, (h.same ht).2⟩, h.cnt⟩
theorem Sw.ukeep {u : Uni} (h : Sw f sex o1 o' a b k t o) (hu : f.2[k]? = some u) (hn : 0 ≤ mrk o u.1.toNat ↔ 0 ≤ mrk o u.2.1.toNat) : Sw f sex o1 o' a b (k + 1) t o := by
  refine ⟨h.inn, fun ht => ⟨(h.same ht).1, fun v hv => ?_⟩, h.cnt⟩
  rw [take_snoc hu, List.mem_append] at hv
  rcases hv with hv | hv
  · exact (h.same ht).2 v hv
  · simp only [List.mem_singleton] at hv; subst hv; exact hn
theorem Sw.uput1 {u : Uni} (h : Sw f sex o1 o' a b k t o) (hu : f.2[k]? = some u) (hm : u.1.toNat < f.1.length) (hw : u.2.1.toNat < f.1.length) (h1 : 0 ≤ mrk o u.1.toNat) (h2 : mrk o u.2.1.toNat < 0) : Sw f sex o1 o' a b (k + 1) true (o.set u.2.1.toNat (1 - mrk o u.1.toNat)) := by
  have hr := h.inn.rng.2 _ hm
  have hc := unm_set (y := 1 - mrk o u.1.toNat) hw h.inn.rng.1 h2 (by omega)
  refine ⟨h.inn.put hw (by omega) (by omega) (fun g hg hA => ?_), fun h => (by cases h), by have := h.cnt.1; omega, fun _ => by have := h.cnt.1; omega⟩
  rw [hg.2.2 u (List.mem_of_getElem? hu), hA _ hm h1]
theorem Sw.uput2 {u : Uni} (h : Sw f sex o1 o' a b k t o) (hu : f.2[k]? = some u) (hm : u.1.toNat < f.1.length) (hw : u.2.1.toNat < f.1.length) (h1 : 0 ≤ mrk o u.2.1.toNat) (h2 : mrk o u.1.toNat < 0) : Sw f sex o1 o' a b (k + 1) true (o.set u.1.toNat (1 - mrk o u.2.1.toNat)) := by
  have hr := h.inn.rng.2 _ hw
  have hc := unm_set (y := 1 - mrk o u.2.1.toNat) hm h.inn.rng.1 h2 (by omega)
  refine ⟨h.inn.put hm (by omega) (by omega) (fun g hg hA => ?_), fun h => (by cases h), by have := h.cnt.1; omega, fun _ => by have := h.cnt.1; omega⟩
  have e1 := hg.2.2 u (List.mem_of_getElem? hu)
  have e2 := hA _ hw h1
  omega
theorem Sw.clo (h : Sw f sex o1 o' f.1.length 0 f.2.length false o) (hin : ∀ p, p < f.1.length → fo f.1 sex p < f.1.length) (hff : ∀ p, p < f.1.length → fo f.1 sex (fo f.1 sex p) = fo f.1 sex p) : Clo f sex o := by
  obtain ⟨h1, h2⟩ := h.same rfl
  refine ⟨fun p hp => ⟨fun e => h1 p _ hp (hin p hp) (.inl hp) (hff p hp).symm e, fun e => h1 _ p (hin p hp) hp (.inl (hin p hp)) (hff p hp) e⟩, fun u hu => h2 u (by rw [List.take_length]; exact hu)⟩
/-- The last look: lines stay together before a. -/
def Tog (f : Fam) (sex : Int) (a b : Nat) (o : List Int) : Prop := ∀ a' b', a' < f.1.length → b' < f.1.length → (a' < a ∨ (a' = a ∧ b' < b)) → fo f.1 sex a' = fo f.1 sex b' → mrk o a' = mrk o b'
theorem Tog.start : Tog f sex 0 0 o := fun a' b' _ _ h1 => by omega
theorem Tog.keep (h : Tog f sex a b o) (hn : ¬ (fo f.1 sex a = fo f.1 sex b ∧ ¬ mrk o a = mrk o b)) : Tog f sex a (b + 1) o := fun a' b' h1 h2 h3 h4 => by
  by_cases e : a' = a ∧ b' = b
  · obtain ⟨rfl, rfl⟩ := e
    by_cases e2 : mrk o a' = mrk o b'
    · exact e2
    · exact (hn ⟨h4, e2⟩).elim
  · exact h a' b' h1 h2 (by omega) h4
theorem Tog.row (h : Tog f sex a f.1.length o) : Tog f sex (a + 1) 0 o := fun a' b' h1 h2 h3 h4 => h a' b' h1 h2 (by omega) h4
theorem val_of (hr : Rng f.1.length o) (hd : ∀ q, q < f.1.length → 0 ≤ mrk o q) (hT : Tog f sex f.1.length 0 o) (hin : ∀ p, p < f.1.length → fo f.1 sex p < f.1.length) (hff : ∀ p, p < f.1.length → fo f.1 sex (fo f.1 sex p) = fo f.1 sex p) (hun : ∀ u ∈ f.2, u.1.toNat < f.1.length ∧ u.2.1.toNat < f.1.length)
    (hu : ∀ u ∈ f.2, ¬ mrk o u.1.toNat = mrk o u.2.1.toNat) : Val f sex (mrk o) := by
  refine ⟨fun p hp => ?_, fun p hp => hT p _ hp (hin p hp) (.inl hp) (hff p hp).symm, fun u hm => ?_⟩
  · have := hr.2 p hp; have := hd p hp; omega
  · have h1 := hr.2 _ (hun u hm).1; have h2 := hr.2 _ (hun u hm).2; have h3 := hd _ (hun u hm).1; have h4 := hd _ (hun u hm).2; have := hu u hm; omega
theorem val_tog (hv : Val f sex (mrk o)) (ha : a < f.1.length) (hb : b < f.1.length) (h : fo f.1 sex a = fo f.1 sex b) : mrk o a = mrk o b := by rw [hv.2.1 a ha, h, ← hv.2.1 b hb]
theorem val_un (hv : Val f sex (mrk o)) {u : Uni} (hu : u ∈ f.2) : ¬ mrk o u.1.toNat = mrk o u.2.1.toNat := by have := hv.2.2 u hu; omega
end
end Go.Proofs.Ytomigopkejlmcaa
