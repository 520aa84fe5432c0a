/- Texts laid one behind the other (merge.py): Far, Tbt, Sht, Rch. -/
import Derived.Test.YtcbhdmmohdnjbaaGreatLedM
import Derived.Test.YtcbhdmmohdnjbaaGreatBase
import Derived.Test.YtcbhdmmohdnjbaaGreatFmiM
namespace Go.Proofs.YtcbhdmmohdnjbaaGreat
set_option linter.unusedVariables false
set_option linter.unusedSimpArgs false
open Go.RowKit

/-! ### Far -/
section

/-- The list o, where those below 0 of whom T holds get d. -/
def upd (o : List Int) (d : Int) (T : Nat → Bool) : List Int := (List.range o.length).map fun x => if o.getD x 0 < 0 ∧ T x = true then d else o.getD x 0
theorem upd_len (o : List Int) (d : Int) (T : Nat → Bool) : (upd o d T).length = o.length := by unfold upd; simp
theorem upd_at {o : List Int} {d : Int} {T : Nat → Bool} {x : Nat} (hx : x < o.length) : (upd o d T)[x]? = some (if o.getD x 0 < 0 ∧ T x = true then d else o.getD x 0) := by
  unfold upd; rw [List.getElem?_map, List.getElem?_range hx]; rfl
theorem upd_get {o : List Int} {d : Int} {T : Nat → Bool} {x : Nat} (hx : x < o.length) : (upd o d T).getD x 0 = if o.getD x 0 < 0 ∧ T x = true then d else o.getD x 0 := by
  rw [List.getD_eq_getElem?_getD, upd_at hx]; rfl
theorem upd_congr {o : List Int} {d : Int} {T U : Nat → Bool} (h : ∀ x, x < o.length → T x = U x) : upd o d T = upd o d U := by
  unfold upd
  refine List.map_congr_left fun x hx => ?_
  rw [h x (List.mem_range.1 hx)]
theorem upd_none {o : List Int} {d : Int} {T : Nat → Bool} (h : ∀ x, x < o.length → T x = false) : upd o d T = o := by
  apply List.ext_getElem?
  intro x
  by_cases hx : x < o.length
  · rw [upd_at hx, h x hx, List.getElem?_eq_getElem hx]
    simp [List.getD_eq_getElem?_getD, hx]
  · rw [List.getElem?_eq_none (by rw [upd_len]; omega), List.getElem?_eq_none (by omega)]
/-- One test and store of the loops. -/
theorem upd_step {o : List Int} {d : Int} {T : Nat → Bool} (hd : 1 ≤ d) {p q : Nat} (hp : p < o.length) (hq : q < o.length) (c : Bool) (hc : c = true → (upd o d T).getD p 0 < 0 ∧ (upd o d T).getD q 0 = d - 1) (hn : c = false → ¬ ((upd o d T).getD p 0 < 0 ∧ (upd o d T).getD q 0 = d - 1)) :
    (if c = true then (upd o d T).set p d else upd o d T) = upd o d fun x => T x || (decide (x = p) && decide (o.getD q 0 = d - 1)) := by
  have hqe : (upd o d T).getD q 0 = d - 1 ↔ o.getD q 0 = d - 1 := by
    rw [upd_get hq]
    split
    · rename_i h; constructor
      · intro h2; omega
      · intro h2; omega
    · exact Iff.rfl
  apply List.ext_getElem?
  intro x
  by_cases hx : x < o.length
  · rw [upd_at hx]
    by_cases hxp : x = p
    · subst hxp
      cases c with
      | true =>
        obtain ⟨h1, h2⟩ := hc rfl
        have h3 := hqe.1 h2
        have h4 : o.getD x 0 < 0 := by
          rw [upd_get hx] at h1
          split at h1
          · rename_i h; exact h.1
          · exact h1
        rw [if_pos rfl, List.getElem?_set, if_pos rfl, if_pos (by rw [upd_len]; exact hx)]
        rw [if_pos ⟨h4, by rw [decide_eq_true h3]; simp⟩]
      | false =>
        rw [if_neg (by decide), upd_at hx]
        have h1 := hn rfl
        rw [hqe] at h1
        by_cases h2 : o.getD q 0 = d - 1
        · have h3 : ¬ (upd o d T).getD x 0 < 0 := fun h => h1 ⟨h, h2⟩
          rw [upd_get hx] at h3
          by_cases h4 : o.getD x 0 < 0 ∧ T x = true
          · rw [if_pos h4, if_pos ⟨h4.1, by rw [h4.2]; rfl⟩]
          · rw [if_neg h4] at h3
            rw [if_neg h4, if_neg (fun h => h3 h.1)]
        · rw [decide_eq_false h2]; simp
    · have e : (if c = true then (upd o d T).set p d else upd o d T)[x]? = (upd o d T)[x]? := by
        cases c with
        | true => rw [if_pos rfl, List.getElem?_set, if_neg (fun h => hxp h.symm)]
        | false => rw [if_neg (by decide)]
      rw [e, upd_at hx, decide_eq_false hxp]; simp
  · rw [List.getElem?_eq_none (by cases c <;> simp [upd_len] <;> omega), List.getElem?_eq_none (by rw [upd_len]; omega)]
/-- A step without an age leads from p to one who is d away. -/
def ledK (f : Fam) (k : Nat) (p q : Nat) : Bool := ledB f (((k + 1 : Nat) : Int), 0) p q
def hit (f : Fam) (o : List Int) (d : Int) (p : Nat) : Bool := (List.range 8).any fun k => (List.range f.1.length).any fun q => ledK f k p q && decide (o.getD q 0 = d)
def farOne (f : Fam) (b : Nat) : List Int := (List.replicate f.1.length (-1)).set b 0
def fars (f : Fam) (b : Nat) : Nat → List Int
  | 0 => farOne f b
  | d + 1 => upd (fars f b d) ((d + 1 : Nat) : Int) (hit f (fars f b d) (d : Int))
theorem fars_len (f : Fam) (b : Nat) : ∀ d, (fars f b d).length = f.1.length
  | 0 => by unfold fars farOne; simp
  | d + 1 => by unfold fars; rw [upd_len]; exact fars_len f b d
theorem hit_iff {f : Fam} {o : List Int} {d : Int} {p : Nat} : hit f o d p = true ↔ ∃ k q, k < 8 ∧ q < f.1.length ∧ ledK f k p q = true ∧ o.getD q 0 = d := by
  unfold hit
  rw [List.any_eq_true]
  constructor
  · rintro ⟨k, hk, h⟩
    obtain ⟨q, hq, h⟩ := List.any_eq_true.1 h
    rw [Bool.and_eq_true, decide_eq_true_eq] at h
    exact ⟨k, q, List.mem_range.1 hk, List.mem_range.1 hq, h.1, h.2⟩
  · rintro ⟨k, q, hk, hq, h1, h2⟩
    exact ⟨k, List.mem_range.2 hk, List.any_eq_true.2 ⟨q, List.mem_range.2 hq, by rw [h1, decide_eq_true h2]; rfl⟩⟩
theorem fars_bd (f : Fam) (b : Nat) : ∀ (d : Nat) (p : Nat), p < f.1.length → -1 ≤ (fars f b d).getD p 0 ∧ (fars f b d).getD p 0 ≤ d
  | 0, p, hp => by
    unfold fars farOne
    rw [List.getD_eq_getElem?_getD, List.getElem?_set]
    by_cases e : b = p
    · rw [if_pos e]; simp [e, hp]
    · rw [if_neg e]; simp [hp]
  | d + 1, p, hp => by
    have ih := fars_bd f b d p hp
    unfold fars
    rw [upd_get (by rw [fars_len]; exact hp)]
    split
    · omega
    · omega
/-- What has been reached stays as it is. -/
theorem fars_stay {f : Fam} {b d p : Nat} (hp : p < f.1.length) (h : 0 ≤ (fars f b d).getD p 0) : ∀ e, (fars f b (d + e)).getD p 0 = (fars f b d).getD p 0
  | 0 => rfl
  | e + 1 => by
    have ih := fars_stay hp h e
    show (upd (fars f b (d + e)) _ _).getD p 0 = _
    rw [upd_get (by rw [fars_len]; exact hp), if_neg (by rw [ih]; omega), ih]
/-- Whoever is m away is so in round m. -/
theorem fars_at {f : Fam} {b : Nat} : ∀ (d p : Nat), p < f.1.length → ∀ m : Nat, (fars f b d).getD p 0 = m → (fars f b m).getD p 0 = m
  | 0, p, hp, m, h => by
    have := (fars_bd f b 0 p hp).2
    have e : m = 0 := by omega
    rw [e] at h ⊢; exact h
  | d + 1, p, hp, m, h => by
    have h0 := h
    unfold fars at h
    rw [upd_get (by rw [fars_len]; exact hp)] at h
    split at h
    · have e : m = d + 1 := by omega
      rw [e] at h0 ⊢; exact h0
    · exact fars_at d p hp m h
/-- A step back from one who is m away: m + 1 away at most. -/
theorem fars_le {f : Fam} {b : Nat} {p q k m : Nat} (hp : p < f.1.length) (hq : q < f.1.length) (hk : k < 8) (hl : ledK f k p q = true) (h : (fars f b 8).getD q 0 = m) (hm : m < 8) : 0 ≤ (fars f b 8).getD p 0 ∧ (fars f b 8).getD p 0 ≤ m + 1 := by
  have h1 := fars_at 8 q hq m h
  have h2 : 0 ≤ (fars f b (m + 1)).getD p 0 := by
    show 0 ≤ (upd (fars f b m) _ _).getD p 0
    rw [upd_get (by rw [fars_len]; exact hp)]
    by_cases hn : (fars f b m).getD p 0 < 0
    · rw [if_pos ⟨hn, hit_iff.2 ⟨k, q, hk, hq, hl, h1⟩⟩]; omega
    · rw [if_neg (fun h => hn h.1)]; omega
  have h3 := fars_stay hp h2 (8 - (m + 1))
  rw [show m + 1 + (8 - (m + 1)) = 8 by omega] at h3
  rw [h3]
  exact ⟨h2, by have := (fars_bd f b (m + 1) p hp).2; omega⟩
/-- Whoever is m + 1 away has a step to one who is m away. -/
theorem fars_next {f : Fam} {b p m : Nat} (hp : p < f.1.length) (h : (fars f b 8).getD p 0 = ((m + 1 : Nat) : Int)) : ∃ k q, k < 8 ∧ q < f.1.length ∧ ledK f k p q = true ∧ (fars f b 8).getD q 0 = (m : Int) := by
  have h8 := (fars_bd f b 8 p hp).2
  have h1 := fars_at 8 p hp (m + 1) h
  have h1' : (upd (fars f b m) ((m + 1 : Nat) : Int) (hit f (fars f b m) (m : Int))).getD p 0 = ((m + 1 : Nat) : Int) := h1
  rw [upd_get (by rw [fars_len]; exact hp)] at h1'
  split at h1'
  · rename_i hh
    obtain ⟨k, q, hk, hq, hl, hqm⟩ := hit_iff.1 hh.2
    refine ⟨k, q, hk, hq, hl, ?_⟩
    have h3 := fars_stay (f := f) (b := b) (d := m) hq (by rw [hqm]; omega) (8 - m)
    rw [show m + (8 - m) = 8 by omega] at h3
    rw [h3, hqm]
  · have := (fars_bd f b m p hp).2
    omega
theorem find_congr {α : Type} {p q : α → Bool} : ∀ {l : List α}, (∀ x ∈ l, p x = q x) → l.find? p = l.find? q
  | [], _ => rfl
  | a :: l, h => by
    rw [List.find?_cons, List.find?_cons, h a List.mem_cons_self, find_congr fun x hx => h x (List.mem_cons_of_mem _ hx)]
/-! The way. -/
/-- Of some persons those who are so far. -/
def filt (o : List Bool) (F : List Int) (m : Int) : List Bool := (List.range o.length).map fun p => o.getD p false && decide (F.getD p 0 = m)
def anyFar (o : List Bool) (F : List Int) (m : Int) : Bool := (List.range o.length).any fun p => o.getD p false && decide (F.getD p 0 = m)
theorem anyFar_iff {o : List Bool} {F : List Int} {m : Int} : anyFar o F m = true ↔ ∃ p, p < o.length ∧ o.getD p false = true ∧ F.getD p 0 = m := by
  unfold anyFar
  rw [List.any_eq_true]
  constructor
  · rintro ⟨p, hp, h⟩
    rw [Bool.and_eq_true, decide_eq_true_eq] at h
    exact ⟨p, List.mem_range.1 hp, h.1, h.2⟩
  · rintro ⟨p, hp, h1, h2⟩
    exact ⟨p, List.mem_range.2 hp, by rw [h1, decide_eq_true h2]; rfl⟩
theorem filt_len (o : List Bool) (F : List Int) (m : Int) : (filt o F m).length = o.length := by unfold filt; simp
theorem filt_get {o : List Bool} {F : List Int} {m : Int} {p : Nat} : (filt o F m).getD p false = true ↔ (p < o.length ∧ o.getD p false = true ∧ F.getD p 0 = m) := by
  by_cases hp : p < o.length
  · unfold filt
    rw [List.getD_eq_getElem?_getD, List.getElem?_map, List.getElem?_range hp]
    simp [hp]
  · rw [List.getD_eq_getElem?_getD, List.getElem?_eq_none (by rw [filt_len]; omega)]
    simp [hp]
theorem stepSet_get {R : Nat → Nat → Bool} {n : Nat} {o : List Bool} {q : Nat} : (stepSet R n o).getD q false = true ↔ q < n ∧ ∃ p, p < n ∧ o.getD p false = true ∧ R p q = true := by
  by_cases hq : q < n
  · unfold stepSet
    rw [List.getD_eq_getElem?_getD, stepTo_at hq, Option.getD_some, List.any_eq_true]
    constructor
    · rintro ⟨p, hp, h⟩
      rw [Bool.and_eq_true] at h
      exact ⟨hq, p, List.mem_range.1 hp, h.1, h.2⟩
    · rintro ⟨_, p, hp, h1, h2⟩
      exact ⟨p, List.mem_range.2 hp, by rw [h1, h2]; rfl⟩
  · rw [List.getD_eq_getElem?_getD, List.getElem?_eq_none (by rw [stepSet_len]; omega)]
    simp [hq]
/-- The first kind of which some next ones are so far. -/
def pickK (f : Fam) (F : List Int) (o : List Bool) (m : Int) : Option Nat := (List.range 8).find? fun k => anyFar (stepSet (ledK f k) f.1.length o) F m
/-- The program's way: all next ones are kept. -/
def wayI (f : Fam) (F : List Int) : Nat → List Bool → List Stp
  | 0, _ => []
  | m + 1, o => match pickK f F o m with
    | some k => (((k + 1 : Nat) : Int), 0) :: wayI f F m (stepSet (ledK f k) f.1.length o)
    | none => wayI f F m o
/-- The reference's: those who are as far as they should be. -/
def wayS (f : Fam) (F : List Int) : Nat → List Bool → List Stp
  | 0, _ => []
  | m + 1, o => match pickK f F o m with
    | some k => (((k + 1 : Nat) : Int), 0) :: wayS f F m (filt (stepSet (ledK f k) f.1.length o) F m)
    | none => wayS f F m o
structure Ways (f : Fam) (F : List Int) (m : Nat) (oi os : List Bool) : Prop where
  li : oi.length = f.1.length
  ls : os.length = f.1.length
  same : ∀ p, os.getD p false = true ↔ (p < f.1.length ∧ oi.getD p false = true ∧ F.getD p 0 = (m : Int))
  low : ∀ p, p < f.1.length → oi.getD p false = true → F.getD p 0 < 0 ∨ (m : Int) ≤ F.getD p 0
  some : ∃ p, os.getD p false = true
theorem ways_eq {f : Fam} {b : Nat} : ∀ (m : Nat) (oi os : List Bool), m ≤ 8 → Ways f (fars f b 8) m oi os → wayI f (fars f b 8) m oi = wayS f (fars f b 8) m os
  | 0, _, _, _, _ => rfl
  | m + 1, oi, os, hm, h => by
    obtain ⟨F, hF⟩ : ∃ F, F = fars f b 8 := ⟨_, rfl⟩
    have hle : ∀ {p q k j : Nat}, p < f.1.length → q < f.1.length → k < 8 → ledK f k p q = true → F.getD q 0 = (j : Int) → j < 8 → 0 ≤ F.getD p 0 ∧ F.getD p 0 ≤ j + 1 := fun hp hq hk hl h hj => by rw [hF] at h ⊢; exact fars_le hp hq hk hl h hj
    have hnx : ∀ {p j : Nat}, p < f.1.length → F.getD p 0 = ((j + 1 : Nat) : Int) → ∃ k q, k < 8 ∧ q < f.1.length ∧ ledK f k p q = true ∧ F.getD q 0 = (j : Int) := fun hp h => by rw [hF] at h ⊢; exact fars_next hp h
    rw [← hF] at h ⊢
    have hst : ∀ (k : Nat), k < 8 → ∀ q, F.getD q 0 = (m : Int) → ((stepSet (ledK f k) f.1.length oi).getD q false = true ↔ (stepSet (ledK f k) f.1.length os).getD q false = true) := by
      intro k hk q hq
      rw [stepSet_get, stepSet_get]
      constructor
      · rintro ⟨hqn, p, hp, hpo, hl⟩
        refine ⟨hqn, p, hp, (h.same p).2 ⟨hp, hpo, ?_⟩, hl⟩
        have h1 := hle hp hqn hk hl hq (by omega)
        rcases h.low p hp hpo with h2 | h2
        · omega
        · omega
      · rintro ⟨hqn, p, hp, hpo, hl⟩
        exact ⟨hqn, p, hp, ((h.same p).1 hpo).2.1, hl⟩
    have hany : ∀ k, k < 8 → anyFar (stepSet (ledK f k) f.1.length oi) F m = anyFar (stepSet (ledK f k) f.1.length os) F m := by
      intro k hk
      rw [Bool.eq_iff_iff, anyFar_iff, anyFar_iff, stepSet_len, stepSet_len]
      constructor
      · rintro ⟨p, hp, h1, h2⟩; exact ⟨p, hp, (hst k hk p h2).1 h1, h2⟩
      · rintro ⟨p, hp, h1, h2⟩; exact ⟨p, hp, (hst k hk p h2).2 h1, h2⟩
    have hpk : pickK f F oi m = pickK f F os m := by
      unfold pickK
      exact find_congr fun k hk => hany k (List.mem_range.1 hk)
    have hsm : ∃ k, pickK f F os m = some k ∧ k < 8 ∧ anyFar (stepSet (ledK f k) f.1.length os) F m = true := by
      obtain ⟨p, hp⟩ := h.some
      obtain ⟨hpn, -, hpm⟩ := (h.same p).1 hp
      obtain ⟨k, q, hk, hq, hl, hqm⟩ := hnx hpn hpm
      have ha : anyFar (stepSet (ledK f k) f.1.length os) F m = true := anyFar_iff.2 ⟨q, by rw [stepSet_len]; exact hq, stepSet_get.2 ⟨hq, p, hpn, hp, hl⟩, hqm⟩
      cases e : pickK f F os m with
      | none =>
        unfold pickK at e
        rw [List.find?_eq_none] at e
        exact absurd ha (e k (List.mem_range.2 hk))
      | some k' =>
        unfold pickK at e
        exact ⟨k', rfl, List.mem_range.1 (List.mem_of_find?_eq_some e), List.find?_some (p := fun k => anyFar (stepSet (ledK f k) f.1.length os) F m) e⟩
    obtain ⟨k, e, hk, ha⟩ := hsm
    rw [wayI, wayS, hpk, e]
    dsimp only
    congr 1
    have := ways_eq (f := f) (b := b) m (stepSet (ledK f k) f.1.length oi) (filt (stepSet (ledK f k) f.1.length os) F m) (by omega)
    rw [← hF] at this
    refine this ⟨stepSet_len _ _ _, by rw [filt_len]; exact stepSet_len _ _ _, fun p => ?_, fun p hp hpo => ?_, ?_⟩
    · rw [filt_get, stepSet_len]
      constructor
      · rintro ⟨h1, h2, h3⟩; exact ⟨h1, (hst k hk p h3).2 h2, h3⟩
      · rintro ⟨h1, h2, h3⟩; exact ⟨h1, (hst k hk p h3).1 h2, h3⟩
    · obtain ⟨_, z, hz, hzo, hl⟩ := stepSet_get.1 hpo
      by_cases h0 : F.getD p 0 < 0
      · exact .inl h0
      · right
        obtain ⟨j, hj⟩ := Int.eq_ofNat_of_zero_le (show 0 ≤ F.getD p 0 by omega)
        by_cases hjm : m ≤ j
        · omega
        · have h1 := hle hz hp hk hl hj (by omega)
          rcases h.low z hz hzo with h2 | h2
          · omega
          · omega
    · obtain ⟨p, hp, h1, h2⟩ := anyFar_iff.1 ha
      exact ⟨p, filt_get.2 ⟨hp, h1, h2⟩⟩

end

/-! ### Tbt -/
section

theorem more_age {t u : Kin} (h : ∀ s ∈ t.2, s.2 = 0) (hu : u ∈ more t) : ∀ s ∈ u.2, s.2 = 0 := by
  unfold more moreTo at hu
  obtain ⟨i, -, hi⟩ := List.mem_flatMap.1 hu
  unfold kinMore at hi
  split at hi
  · rw [List.mem_singleton] at hi
    subst hi
    intro s hs
    rcases List.mem_append.1 hs with hs | hs
    · exact h s hs
    · rw [List.mem_singleton] at hs; rw [hs]
  · cases hi
theorem lastT_age (ego : Int) : ∀ n, ∀ t ∈ lastT ego n, ∀ s ∈ t.2, s.2 = 0
  | 0, t, ht => by
    unfold lastT at ht
    rw [List.mem_singleton] at ht
    subst ht
    intro s hs; cases hs
  | n + 1, t, ht => by
    unfold lastT at ht
    obtain ⟨u, hu, hu2⟩ := List.mem_flatMap.1 ht
    exact more_age (lastT_age ego n u hu) hu2
theorem outT_age (ego : Int) : ∀ n, ∀ t ∈ outT ego n, ∀ s ∈ t.2, s.2 = 0
  | 0, t, ht => by unfold outT at ht; cases ht
  | n + 1, t, ht => by
    unfold outT at ht
    rcases List.mem_append.1 ht with ht | ht
    · exact outT_age ego n t ht
    · exact lastT_age ego (n + 1) t ht
/-- Each of the types: valid, of the given sex, of three steps at most, all without an age. -/
theorem typesX_ok {ego n : Int} {t : Kin} (h : t ∈ typesX ego n) : isKin t = true ∧ t.1 = ego ∧ (ego = 1 ∨ ego = 2) ∧ ∀ s ∈ t.2, (1 ≤ s.1 ∧ s.1 ≤ 8) ∧ s.2 = 0 := by
  unfold typesX at h
  split at h
  · rename_i hv
    simp only [typesV, Bool.and_eq_true, decide_eq_true_eq] at hv
    have h1 := outT_ok hv.1 n.toNat (by omega) t h
    exact ⟨h1.1, h1.2.2, hv.1, fun s hs => ⟨((isKin_facts h1.1).2.2.2 s hs).1, outT_age ego n.toNat t h s hs⟩⟩
  · cases h
def sexP (f : Fam) (a : Nat) : Int := match f.1[a]? with | some x => x.2.1 | none => 0
def typesB (f : Fam) (a b : Nat) (n : Int) : List Kin := (typesX (sexP f a) n).filter fun t => leadsB f t.2 a b

end

/-! ### Sht -/
section

def hit1 (f : Fam) (o : List Int) (m : Int) (p k : Nat) : Bool := (List.range f.1.length).any fun q => ledK f k p q && decide (o.getD q 0 = m)
def hitK (f : Fam) (o : List Int) (m : Int) (p K : Nat) : Bool := (List.range K).any fun k => hit1 f o m p k
theorem hitK_eq (f : Fam) (o : List Int) (m : Int) (p : Nat) : hitK f o m p 8 = hit f o m p := rfl
theorem hitK_succ (f : Fam) (o : List Int) (m : Int) (p K : Nat) : hitK f o m p (K + 1) = (hitK f o m p K || hit1 f o m p K) := by
  unfold hitK; rw [List.range_succ, List.any_append]; simp
/-! The program's loops: persons, kinds, a row. -/
def tI (f : Fam) (o : List Int) (d : Int) (p k : Nat) (l : List Int) (x : Nat) : Bool := (decide (x < p) && hit f o (d - 1) x) || (decide (x = p) && (hitK f o (d - 1) p k || l.any fun q => decide (o.getD q.toNat 0 = d - 1)))
def farI (f : Fam) (o : List Int) (d : Int) (p k : Nat) (l : List Int) : List Int := upd o d (tI f o d p k l)
theorem farI_len (f : Fam) (o : List Int) (d : Int) (p k : Nat) (l : List Int) : (farI f o d p k l).length = o.length := upd_len _ _ _
theorem farI_start (f : Fam) (o : List Int) (d : Int) : farI f o d 0 0 [] = o := upd_none fun x _ => by simp [tI, hitK]
theorem farI_step {f : Fam} {o : List Int} {d : Int} {p k q : Nat} {l : List Int} (hd : 1 ≤ d) (hp : p < o.length) (hq : q < o.length) (c : Bool) (hc : c = (decide ((farI f o d p k l).getD p 0 < 0) && decide ((farI f o d p k l).getD q 0 = d - 1))) :
    farI f o d p k (l ++ [(q : Int)]) = if c = true then (farI f o d p k l).set p d else farI f o d p k l := by
  have h := upd_step (o := o) (d := d) (T := tI f o d p k l) hd hp hq c (fun h => by rw [h] at hc; unfold farI at hc; simpa using hc.symm) (fun h hh => by rw [h] at hc; unfold farI at hc; rw [decide_eq_true hh.1, decide_eq_true hh.2] at hc; cases hc)
  unfold farI
  rw [h]
  refine upd_congr fun x _ => ?_
  unfold tI
  rw [List.any_append]
  simp only [List.any_cons, List.any_nil, Int.toNat_natCast, Bool.or_false]
  cases decide (x = p) <;> simp [Bool.or_assoc]
theorem row_any {f : Fam} {o : List Int} {m : Int} {p k : Nat} : ((rowTo (ledB f (((k + 1 : Nat) : Int), 0)) p f.1.length).any fun q => decide (o.getD q.toNat 0 = m)) = hit1 f o m p k := by
  rw [Bool.eq_iff_iff]
  unfold hit1
  rw [List.any_eq_true, List.any_eq_true]
  constructor
  · rintro ⟨y, hy, h⟩
    obtain ⟨b, h1, h2, rfl⟩ := mem_rowTo.1 hy
    rw [Int.toNat_natCast] at h
    exact ⟨b, List.mem_range.2 h1, by rw [h, Bool.and_true]; exact h2⟩
  · rintro ⟨q, hq, h⟩
    rw [Bool.and_eq_true] at h
    exact ⟨(q : Int), mem_rowTo.2 ⟨q, List.mem_range.1 hq, h.1, rfl⟩, by rw [Int.toNat_natCast]; exact h.2⟩
theorem farI_kind (f : Fam) (o : List Int) (d : Int) (p k : Nat) : farI f o d p k (rowTo (ledB f (((k + 1 : Nat) : Int), 0)) p f.1.length) = farI f o d p (k + 1) [] := by
  unfold farI
  refine upd_congr fun x _ => ?_
  unfold tI
  rw [row_any, hitK_succ]
  simp
theorem farI_next (f : Fam) (o : List Int) (d : Int) (p : Nat) : farI f o d p 8 [] = farI f o d (p + 1) 0 [] := by
  unfold farI
  refine upd_congr fun x _ => ?_
  unfold tI
  rw [hitK_eq]
  have e0 : hitK f o (d - 1) (p + 1) 0 = false := rfl
  rw [e0]
  simp only [List.any_nil, Bool.or_false, Bool.and_false]
  by_cases e : x = p
  · subst e; simp
  · rw [decide_eq_false e]
    by_cases h : x < p
    · rw [decide_eq_true h, decide_eq_true (show x < p + 1 by omega)]; simp
    · rw [decide_eq_false h, decide_eq_false (show ¬ x < p + 1 by omega)]; simp
theorem farI_end {f : Fam} {o : List Int} {d : Int} (hl : o.length = f.1.length) : farI f o d f.1.length 0 [] = upd o d (hit f o (d - 1)) := by
  unfold farI
  refine upd_congr fun x hx => ?_
  unfold tI
  rw [decide_eq_true (show x < f.1.length by omega), decide_eq_false (show ¬ x = f.1.length by omega)]
  simp
/-! The reference's loops: kinds, persons, persons. -/
def tS (f : Fam) (o : List Int) (d : Int) (k x y : Nat) (z : Nat) : Bool := hitK f o (d - 1) z k || ((decide (z < x) && hit1 f o (d - 1) z k) || (decide (z = x) && (List.range y).any fun q => ledK f k z q && decide (o.getD q 0 = d - 1)))
def farS (f : Fam) (o : List Int) (d : Int) (k x y : Nat) : List Int := upd o d (tS f o d k x y)
theorem farS_len (f : Fam) (o : List Int) (d : Int) (k x y : Nat) : (farS f o d k x y).length = o.length := upd_len _ _ _
theorem farS_start (f : Fam) (o : List Int) (d : Int) : farS f o d 0 0 0 = o := upd_none fun x _ => by simp [tS, hitK]
theorem farS_step {f : Fam} {o : List Int} {d : Int} {k x y : Nat} (hd : 1 ≤ d) (hx : x < o.length) (hy : y < o.length) (c : Bool) (hc : c = (decide ((farS f o d k x y).getD x 0 < 0) && decide ((farS f o d k x y).getD y 0 = d - 1))) (r : Bool) (hr : r = ledK f k x y) :
    farS f o d k x (y + 1) = if (c && r) = true then (farS f o d k x y).set x d else farS f o d k x y := by
  have hs : ∀ z, tS f o d k x (y + 1) z = (tS f o d k x y z || (decide (z = x) && (r && decide (o.getD y 0 = d - 1)))) := fun z => by
    unfold tS
    rw [List.range_succ, List.any_append]
    by_cases e : z = x
    · subst e
      rw [decide_eq_true rfl]; simp only [List.any_cons, List.any_nil, Bool.or_false, Bool.true_and, ← hr, Bool.or_assoc]
    · rw [decide_eq_false e]; simp
  cases r with
  | false =>
    rw [Bool.and_false, if_neg (by decide)]
    unfold farS
    refine upd_congr fun z _ => ?_
    rw [hs]; simp
  | true =>
    have h := upd_step (o := o) (d := d) (T := tS f o d k x y) hd hx hy c (fun h => by rw [h] at hc; unfold farS at hc; simpa using hc.symm) (fun h hh => by rw [h] at hc; unfold farS at hc; rw [decide_eq_true hh.1, decide_eq_true hh.2] at hc; cases hc)
    rw [Bool.and_true]
    unfold farS
    rw [h]
    refine upd_congr fun z _ => ?_
    rw [hs]; simp
theorem farS_x (f : Fam) (o : List Int) (d : Int) (k x : Nat) : farS f o d k x f.1.length = farS f o d k (x + 1) 0 := by
  unfold farS
  refine upd_congr fun z _ => ?_
  unfold tS
  simp only [List.range_zero, List.any_nil, Bool.and_false, Bool.or_false]
  congr 1
  by_cases e : z = x
  · subst e
    rw [decide_eq_true rfl, decide_eq_false (Nat.lt_irrefl z), decide_eq_true (Nat.lt_succ_self z)]; simp [hit1]
  · rw [decide_eq_false e]
    by_cases h : z < x
    · rw [decide_eq_true h, decide_eq_true (show z < x + 1 by omega)]; simp
    · rw [decide_eq_false h, decide_eq_false (show ¬ z < x + 1 by omega)]; simp
theorem farS_k {f : Fam} {o : List Int} {d : Int} {k : Nat} (hl : o.length = f.1.length) : farS f o d k f.1.length 0 = farS f o d (k + 1) 0 0 := by
  unfold farS
  refine upd_congr fun z hz => ?_
  unfold tS
  rw [decide_eq_true (show z < f.1.length by omega), hitK_succ]
  simp
theorem farS_end (f : Fam) (o : List Int) (d : Int) : farS f o d 8 0 0 = upd o d (hit f o (d - 1)) := by
  unfold farS
  refine upd_congr fun z _ => ?_
  unfold tS
  rw [hitK_eq]; simp
theorem fars_succ (f : Fam) (b m : Nat) : upd (fars f b m) ((m + 1 : Nat) : Int) (hit f (fars f b m) (((m + 1 : Nat) : Int) - 1)) = fars f b (m + 1) := by
  rw [show (((m + 1 : Nat) : Int) - 1) = (m : Int) by omega]; rfl
/-! The way. -/
theorem pick_some {f : Fam} {F : List Int} {o : List Bool} {m : Int} {k : Nat} (hk : k < 8) (h0 : ∀ j, j < k → anyFar (stepSet (ledK f j) f.1.length o) F m = false) (h1 : anyFar (stepSet (ledK f k) f.1.length o) F m = true) : pickK f F o m = some k := by
  unfold pickK
  rw [List.find?_eq_some_iff_append]
  refine ⟨h1, List.range k, (List.range' (k + 1) (8 - k - 1)), ?_, fun j hj => by rw [h0 j (List.mem_range.1 hj)]; rfl⟩
  match k, hk with
  | 0, _ => rfl
  | 1, _ => rfl
  | 2, _ => rfl
  | 3, _ => rfl
  | 4, _ => rfl
  | 5, _ => rfl
  | 6, _ => rfl
  | 7, _ => rfl
theorem pick_none {f : Fam} {F : List Int} {o : List Bool} {m : Int} (h0 : ∀ j, j < 8 → anyFar (stepSet (ledK f j) f.1.length o) F m = false) : pickK f F o m = none := by
  unfold pickK
  rw [List.find?_eq_none]
  intro j hj
  rw [h0 j (List.mem_range.1 hj)]; decide
theorem wayI_some {f : Fam} {F : List Int} {o : List Bool} {m k : Nat} (h : pickK f F o m = some k) : wayI f F (m + 1) o = (((k + 1 : Nat) : Int), 0) :: wayI f F m (stepSet (ledK f k) f.1.length o) := by
  rw [wayI, h]
theorem wayI_none {f : Fam} {F : List Int} {o : List Bool} {m : Nat} (h : pickK f F o m = none) : wayI f F (m + 1) o = wayI f F m o := by
  rw [wayI, h]
theorem wayS_some {f : Fam} {F : List Int} {o : List Bool} {m k : Nat} (h : pickK f F o m = some k) : wayS f F (m + 1) o = (((k + 1 : Nat) : Int), 0) :: wayS f F m (filt (stepSet (ledK f k) f.1.length o) F m) := by
  rw [wayS, h]
theorem wayS_none {f : Fam} {F : List Int} {o : List Bool} {m : Nat} (h : pickK f F o m = none) : wayS f F (m + 1) o = wayS f F m o := by
  rw [wayS, h]
/-- Of the first x persons those who are so far, and the others as they were. -/
def filtTo (o : List Bool) (F : List Int) (m : Int) (x : Nat) : List Bool := (List.range o.length).map fun p => o.getD p false && (decide (F.getD p 0 = m) || decide (x ≤ p))
theorem filtTo_zero (o : List Bool) (F : List Int) (m : Int) : filtTo o F m 0 = o := by
  apply List.ext_getElem?
  intro i
  unfold filtTo
  by_cases h : i < o.length
  · rw [List.getElem?_map, List.getElem?_range h, List.getElem?_eq_getElem h]
    simp [List.getD_eq_getElem?_getD, h]
  · rw [List.getElem?_eq_none (by simp; omega), List.getElem?_eq_none (by omega)]
theorem filtTo_len (o : List Bool) (F : List Int) (m : Int) (x : Nat) : (filtTo o F m x).length = o.length := by unfold filtTo; simp
theorem filtTo_at {o : List Bool} {F : List Int} {m : Int} {x p : Nat} (h : p < o.length) : (filtTo o F m x)[p]? = some (o.getD p false && (decide (F.getD p 0 = m) || decide (x ≤ p))) := by
  unfold filtTo; rw [List.getElem?_map, List.getElem?_range h]; rfl
theorem filtTo_succ {o : List Bool} {F : List Int} {m : Int} {x : Nat} (hx : x < o.length) : filtTo o F m (x + 1) = (filtTo o F m x).set x (o.getD x false && decide (F.getD x 0 = m)) := by
  apply List.ext_getElem?
  intro i
  by_cases h : i < o.length
  · rw [filtTo_at h, List.getElem?_set, filtTo_at h]
    by_cases e : x = i
    · subst e
      rw [if_pos rfl, if_pos (by rw [filtTo_len]; exact h), decide_eq_false (show ¬ x + 1 ≤ x by omega), Bool.or_false]
    · rw [if_neg e]
      by_cases h2 : x ≤ i
      · rw [decide_eq_true h2, decide_eq_true (show x + 1 ≤ i by omega)]
      · rw [decide_eq_false h2, decide_eq_false (show ¬ x + 1 ≤ i by omega)]
  · rw [List.getElem?_eq_none (by rw [filtTo_len]; omega), List.getElem?_eq_none (by rw [List.length_set, filtTo_len]; omega)]
theorem filtTo_end {o : List Bool} {F : List Int} {m : Int} : filtTo o F m o.length = filt o F m := by
  unfold filtTo filt
  refine List.map_congr_left fun p hp => ?_
  rw [decide_eq_false (show ¬ o.length ≤ p by have := List.mem_range.1 hp; omega), Bool.or_false]
/-- Whether somebody is left. -/
theorem filt_any (o : List Bool) (F : List Int) (m : Int) : (List.range o.length).any (fun p => (filt o F m).getD p false) = anyFar o F m := by
  rw [Bool.eq_iff_iff, anyFar_iff, List.any_eq_true]
  constructor
  · rintro ⟨p, hp, h⟩; exact ⟨p, filt_get.1 h⟩
  · rintro ⟨p, h1, h2, h3⟩; exact ⟨p, List.mem_range.2 h1, filt_get.2 ⟨h1, h2, h3⟩⟩
/-! What both answer. -/
def farOf (f : Fam) (a b : Nat) : Int := (fars f b 8).getD a 0
def shL (f : Fam) (a b : Nat) : List Stp := wayI f (fars f b 8) (farOf f a b).toNat (single f.1.length a)
def shV (f : Fam) (a b : Int) : Bool := hasB f [a, b] && decide (0 ≤ farOf f a.toNat b.toNat)
def shX (f : Fam) (a b : Int) : Kin := if shV f a b = true then (sexP f a.toNat, shL f a.toNat b.toNat) else (0, [])
theorem single_get {n a p : Nat} : (single n a).getD p false = true ↔ (p = a ∧ a < n) := by
  unfold single
  rw [List.getD_eq_getElem?_getD, List.getElem?_set]
  by_cases e : a = p
  · subst e
    by_cases h : a < n
    · simp [h]
    · simp [h]
  · rw [if_neg e]
    have h : (List.replicate n false)[p]?.getD false = false := by
      rw [List.getElem?_replicate]; split <;> rfl
    rw [h]
    simp; intro h; exact absurd h.symm e
theorem single_len (n a : Nat) : (single n a).length = n := by unfold single; simp
theorem farOf_le {f : Fam} {a b : Nat} (ha : a < f.1.length) : farOf f a b ≤ 8 ∧ -1 ≤ farOf f a b := by
  have := fars_bd f b 8 a ha
  unfold farOf; omega
theorem way_eq {f : Fam} {a b : Nat} (ha : a < f.1.length) (h : 0 ≤ farOf f a b) : wayS f (fars f b 8) (farOf f a b).toNat (single f.1.length a) = shL f a b := by
  obtain ⟨m, hm⟩ := Int.eq_ofNat_of_zero_le h
  have h8 := (farOf_le (b := b) ha).1
  unfold shL
  rw [hm, Int.toNat_natCast]
  refine (ways_eq m _ _ (by omega) ⟨single_len _ _, single_len _ _, fun p => ?_, fun p hp hpo => ?_, ⟨a, single_get.2 ⟨rfl, ha⟩⟩⟩).symm
  · rw [single_get]
    constructor
    · rintro ⟨rfl, h⟩; exact ⟨h, ⟨rfl, h⟩, hm⟩
    · rintro ⟨h1, h2, h3⟩; exact h2
  · rw [single_get] at hpo
    obtain ⟨rfl, -⟩ := hpo
    right
    have : (fars f b 8).getD p 0 = (m : Int) := hm
    omega
theorem wayI_len {f : Fam} {F : List Int} : ∀ (m : Nat) (o : List Bool), (wayI f F m o).length ≤ m
  | 0, o => by simp [wayI]
  | m + 1, o => by
    rw [wayI]
    split
    · rename_i k _
      have := wayI_len (f := f) (F := F) m (stepSet (ledK f k) f.1.length o)
      rw [List.length_cons]; omega
    · have := wayI_len (f := f) (F := F) m o
      omega
theorem wayI_ok {f : Fam} {F : List Int} : ∀ (m : Nat) (o : List Bool), ∀ s ∈ wayI f F m o, (1 ≤ s.1 ∧ s.1 ≤ 8) ∧ s.2 = 0
  | 0, o => by simp [wayI]
  | m + 1, o => by
    rw [wayI]
    split
    · rename_i k hk
      have hk8 : k < 8 := by
        unfold pickK at hk
        exact List.mem_range.1 (List.mem_of_find?_eq_some hk)
      intro s hs
      rcases List.mem_cons.1 hs with rfl | hs
      · exact ⟨⟨by show (1 : Int) ≤ ((k + 1 : Nat) : Int); omega, by show ((k + 1 : Nat) : Int) ≤ 8; omega⟩, rfl⟩
      · exact wayI_ok m _ s hs
    · exact wayI_ok m o

end

/-! ### Rch -/
section

set_option maxHeartbeats 4000000 in
theorem reaches_b {z z2 : Bool} {lo hi lo2 hi2 : Nat} (w : World) (u v : Value) (o : List Bool) (F : List Int) (m : Int) (h : Rd z lo hi w [u] o) (hF : Rd z2 lo2 hi2 w [v] F) (hl : F.length = o.length) (h40 : o.length ≤ 40) (r : Bool) (hr : r = anyFar o F m) :
    Calls Tryz.prog 84 #[u, v, .int .i64 m] w (PostB w r) := by
  obtain ⟨oa, on, oc, rfl, hon, -⟩ := h.shape
  subst hon
  obtain ⟨fa, fn, fc, rfl, hfn, -⟩ := hF.shape
  rw [hl] at hfn
  subst hfn
  have HO := Lib.hid h
  have HF := Lib.hid hF
  have HR := Lib.hid hr
  clear h hF hr hl
  go_enter Tryz.func84, Tryz.ntmps84
  go_wp2
  go_loopw [6, 7, 8, 11] (fun _ _ _ s11 wl => ∃ p : Nat, p ≤ o.length ∧ s11 = .int .i64 p ∧ Hid (((List.range p).any fun q => o.getD q false && decide (F.getD q 0 = m)) = false) ∧ Below w.heap.size w wl) (fun _ _ _ s11 _ => o.length - (intOf s11).toNat)
  case atStart => exact ⟨0, Nat.zero_le _, rfl, Lib.hid rfl, Below.refl _ _⟩
  case round =>
    obtain ⟨wo, hwo⟩ : ∃ y : World, y = wr := ⟨_, rfl⟩
    subst hwo
    obtain ⟨p, hp, rfl, HN, hbo⟩ := hrel
    by_cases hpn : p < o.length
    · have hpI : (p : Int) < (o.length : Int) := by omega
      obtain ⟨bx, ofx, x, hoa, hx, x0, -⟩ := (HO.out.below hbo).bool_at (i := p) hpn
      subst hoa
      obtain ⟨by', ofy, y, hfa, hy, y0, -⟩ := (HF.out.below hbo).int_at (i := p) hpn
      subst hfa
      have hxg : o.getD p false = x := by rw [List.getD_eq_getElem?_getD, hx.out]; rfl
      have hyg : F.getD p 0 = y := by rw [List.getD_eq_getElem?_getD, hy.out]; rfl
      have HX := Lib.hid (show ((List.range (p + 1)).any fun q => o.getD q false && decide (F.getD q 0 = m)) = (x && decide (y = m)) by
        rw [List.range_succ, List.any_append, HN.out]; simp only [List.any_cons, List.any_nil, hxg, hyg, Bool.false_or, Bool.or_false])
      have HP := Lib.hid (show x = true → y = m → anyFar o F m = true from fun h1 h2 => anyFar_iff.2 ⟨p, hpn, by rw [hxg, h1], by rw [hyg, h2]⟩)
      clear hxg hyg hx hy HN
      cases x
      · have HX2 := Lib.hid (show ((List.range (p + 1)).any fun q => o.getD q false && decide (F.getD q 0 = m)) = false from HX.out)
        clear HX HP
        go_wp2
        go_roundw
        case rel => exact ⟨p + 1, by omega, by go_num, HX2, hbo⟩
        case measure => simp [intOf]; omega
      · by_cases e : y = m
        · have HT := Lib.hid (show r = true by rw [HR.out]; exact HP.out rfl e)
          have ey : (y == m) = true := by simpa using e
          clear HX HP e
          go_wp2
          go_ret
          exact ⟨ret_bool HT.out.symm, hbo⟩
        · have HX2 := Lib.hid (show ((List.range (p + 1)).any fun q => o.getD q false && decide (F.getD q 0 = m)) = false by rw [HX.out, decide_eq_false e]; rfl)
          have ey : (y == m) = false := by simpa using e
          clear HX HP e
          go_wp2
          go_roundw
          case rel => exact ⟨p + 1, by omega, by go_num, HX2, hbo⟩
          case measure => simp [intOf]; omega
    · obtain rfl : p = o.length := by omega
      have hpI : ¬ (o.length : Int) < (o.length : Int) := by omega
      have HT := Lib.hid (show r = false by rw [HR.out]; exact HN.out)
      go_wp2
      go_ret
      exact ⟨ret_bool HT.out.symm, hbo⟩

end

end Go.Proofs.YtcbhdmmohdnjbaaGreat
