/- Texts laid one behind the other (merge.py): Giv, Err, Moi. -/
import Derived.Test.YtefbbbhidnnchaaZ14N
import Derived.Test.YtefbbbhidnnchaaZ14C
import Derived.Test.YtefbbbhidnnchaaZ14F
namespace Go.Proofs.Ytefbbbhidnnchaa
set_option linter.unusedVariables false
set_option linter.unusedSimpArgs false
open Go.RowKit

/-! ### Giv -/
section

def givU (n : Nat) (least x : Int) : Bool := decide (least ≤ x ∧ x < (n : Int))
def givenB (f : Fam) (c : Cls) (g : List Int) (least : Int) : Bool := famB f && (isCls c && (decide (g.length = f.1.length) && g.all (givU c.1.length least)))
theorem isCls_facts {c : Cls} (h : isCls c = true) : 1 ≤ c.1.length ∧ c.1.length ≤ 8 ∧ c.2.length = c.1.length ∧ isPerm c.1 = true ∧ isPerm c.2 = true := by
  simp only [isCls, Bool.and_eq_true, decide_eq_true_eq] at h
  exact ⟨h.1.1.1, h.1.1.2.1, h.1.1.2.2, h.1.2, h.2⟩
theorem givenB_facts {f : Fam} {c : Cls} {g : List Int} {least : Int} (h : givenB f c g least = true) : famB f = true ∧ isCls c = true ∧ g.length = f.1.length ∧ ∀ x ∈ g, least ≤ x ∧ x < (c.1.length : Int) := by
  simp only [givenB, givU, Bool.and_eq_true, decide_eq_true_eq, List.all_eq_true] at h
  exact ⟨h.1, h.2.1, h.2.2.1, h.2.2.2⟩

end

/-! ### Err -/
section

def getI (xs : List Int) (i : Int) : Int := xs.getD i.toNat 0
theorem getI_at {xs : List Int} {i : Nat} {x : Int} (h : xs[i]? = some x) : getI xs (i : Int) = x := by simp [getI, List.getD_eq_getElem?_getD, h]
theorem getI_in {n : Nat} {xs : List Int} (h : InRange n xs) {i : Nat} (hi : i < xs.length) : 0 ≤ getI xs (i : Int) ∧ getI xs (i : Int) < n := by
  have hx : xs[i]? = some xs[i] := List.getElem?_eq_getElem hi
  rw [getI_at hx]; exact h _ (List.mem_of_getElem? hx)
def badP (c : Cls) (g : List Int) (p : Nat) : Per → Bool
  | (_, _, fa, mo, _, _) => (decide (0 ≤ fa) && !decide (getI g p = getI c.2 (getI g fa))) || (decide (0 ≤ mo) && !decide (getI g p = getI c.2 (getI (inv c.1) (getI g mo))))
def badAt (ps : List Per) (c : Cls) (g : List Int) (p : Nat) : Bool := match ps[p]? with | some x => badP c g p x | none => false
def badsTo (ps : List Per) (c : Cls) (g : List Int) (n k : Nat) : List Bool := (List.range k).map (badAt ps c g) ++ List.replicate (n - k) false
def badU (c : Cls) (g : List Int) (a : List Bool) : Uni → List Bool
  | (m, wo, _, _) => if getI g wo = getI c.1 (getI g m) then a else a.set wo.toNat true
def errM (f : Fam) (c : Cls) (g : List Int) : List Bool := f.2.foldl (badU c g) (badsTo f.1 c g f.1.length f.1.length)
def listedTo (m : List Bool) (k : Nat) : List Int := ((List.range k).filter fun i => m.getD i false).map fun (i : Nat) => (i : Int)
def errsL (f : Fam) (c : Cls) (g : List Int) : List Int := listedTo (errM f c g) f.1.length
def errsV (f : Fam) (c : Cls) (g : List Int) : List Int := if givenB f c g 0 = true then errsL f c g else []

theorem badAt_at {ps : List Per} {c : Cls} {g : List Int} {p : Nat} {x : Per} (h : ps[p]? = some x) : badAt ps c g p = badP c g p x := by unfold badAt; rw [h]
theorem badsTo_len (ps : List Per) (c : Cls) (g : List Int) (n k : Nat) (h : k ≤ n) : (badsTo ps c g n k).length = n := by simp [badsTo]; omega
theorem badsTo_set {ps : List Per} {c : Cls} {g : List Int} {n k : Nat} (h : k < n) : (badsTo ps c g n k).set k (badAt ps c g k) = badsTo ps c g n (k + 1) := by
  unfold badsTo
  rw [List.set_append_right _ _ (by simp)]
  have e : n - k = (n - (k + 1)) + 1 := by omega
  rw [e, List.replicate_succ, List.range_succ]
  simp
theorem badsTo_zero (ps : List Per) (c : Cls) (g : List Int) (n : Nat) : badsTo ps c g n 0 = List.replicate n false := by simp [badsTo]
theorem listedTo_in {m : List Bool} {k : Nat} (h : m[k]? = some true) : listedTo m (k + 1) = listedTo m k ++ [(k : Int)] := by
  unfold listedTo; rw [List.range_succ, List.filter_append, List.map_append]; simp [List.getD_eq_getElem?_getD, h]
theorem listedTo_out {m : List Bool} {k : Nat} (h : m[k]? = some false) : listedTo m (k + 1) = listedTo m k := by
  unfold listedTo; rw [List.range_succ, List.filter_append, List.map_append]; simp [List.getD_eq_getElem?_getD, h]
theorem listedTo_len (m : List Bool) (k : Nat) : (listedTo m k).length ≤ k := by
  unfold listedTo; rw [List.length_map]
  have := List.length_filter_le (fun i => m.getD i false) (List.range k)
  simpa using this
/-- The cells of a slice of numbers. -/
theorem Rd.pos {α : Type} [Rep α] {z : Bool} {lo hi : Nat} {w : World} {xs : List α} {ao : Option Addr} {n cap : Nat} (h : Rd z lo hi w [.slice ao n cap] xs) (hn : 0 < n) : ∃ b off, ao = some ⟨b, off, none⟩ ∧ lo ≤ b ∧ b < hi ∧ b < w.heap.size := by
  obtain ⟨b, off, x, cs, e, _, _, _, h1, h2, h3, _⟩ := h.at (i := 0) hn
  exact ⟨b, off, e, h1, h2, h3⟩
theorem Rd.num {z : Bool} {lo hi : Nat} {w : World} {xs : List Int} {b off n cap : Nat} (h : Rd z lo hi w [.slice (some ⟨b, off, none⟩) n cap] xs) {i : Nat} (hi' : i < n) :
    w.cell? ⟨b, off + i, none⟩ = some (.int .i64 (getI xs (i : Int))) := by
  obtain ⟨b', off', x, e, hx, hc, _⟩ := h.int_at hi'
  simp only [Option.some.injEq, Addr.mk.injEq, and_true] at e
  obtain ⟨rfl, rfl⟩ := e
  rw [getI_at hx.out]; exact hc
theorem inz1 (b : Nat) : InZ b (b + 1) [b] := fun i hi => by simp at hi; omega

end

/-! ### Moi -/
section

/-- A division: lines stay together, unions part. -/
def Val (f : Fam) (sex : Int) (h : Nat → Int) : Prop :=
  (∀ p, p < f.1.length → h p = 0 ∨ h p = 1) ∧ (∀ p, p < f.1.length → h p = h (fo f.1 sex p)) ∧ (∀ u ∈ f.2, h u.2.1.toNat = 1 - h u.1.toNat)
/-- The mark of a person. -/
def mrk (o : List Int) (q : Nat) : Int := getI o (q : Int)
/-- h says what o says, where o says something. -/
def Agr (n : Nat) (h : Nat → Int) (o : List Int) : Prop := ∀ q, q < n → 0 ≤ mrk o q → h q = mrk o q
/-- Marks in a range. -/
def Rng (n : Nat) (o : List Int) : Prop := o.length = n ∧ ∀ q, q < n → mrk o q = -1 ∨ mrk o q = 0 ∨ mrk o q = 1
/-- What is marked is closed. -/
def Clo (f : Fam) (sex : Int) (o : List Int) : Prop :=
  (∀ p, p < f.1.length → (0 ≤ mrk o p ↔ 0 ≤ mrk o (fo f.1 sex p))) ∧ (∀ u ∈ f.2, (0 ≤ mrk o u.1.toNat ↔ 0 ≤ mrk o u.2.1.toNat))
/-- What holds between the starts. -/
structure Out (f : Fam) (sex : Int) (p : Nat) (o : List Int) : Prop where
  rng : Rng f.1.length o
  done : ∀ q, q < p → 0 ≤ mrk o q
  least : ∀ q, q < p → ∀ h, Val f sex h → (∀ r, r < q → h r = mrk o r) → mrk o q ≤ h q
  forced : ∀ h, Val f sex h → (∀ r, r < p → h r = mrk o r) → Agr f.1.length h o
  ex : (∃ h, Val f sex h) → ∃ h, Val f sex h ∧ Agr f.1.length h o
  clo : Clo f sex o
/-- What holds while the mark of a start spreads: o1 is what it began with. -/
structure Inn (f : Fam) (sex : Int) (o1 o : List Int) : Prop where
  rng : Rng f.1.length o
  stay : ∀ q, q < f.1.length → 0 ≤ mrk o1 q → mrk o q = mrk o1 q
  forced : ∀ h, Val f sex h → Agr f.1.length h o1 → Agr f.1.length h o

/-- The least division. -/
def Least (f : Fam) (sex : Int) (o : List Int) : Prop :=
  o.length = f.1.length ∧ Val f sex (mrk o) ∧ ∀ q, q < f.1.length → ∀ h, Val f sex h → (∀ r, r < q → h r = mrk o r) → mrk o q ≤ h q

theorem Least.eq {f : Fam} {sex : Int} {a b : List Int} (ha : Least f sex a) (hb : Least f sex b) : a = b := by
  have key : ∀ q, q < f.1.length → mrk a q = mrk b q := by
    intro q
    induction q using Nat.strongRecOn with
    | _ q ih =>
      intro hq
      have h1 := ha.2.2 q hq (mrk b) hb.2.1 (fun r hr => (ih r hr (by omega)).symm)
      have h2 := hb.2.2 q hq (mrk a) ha.2.1 (fun r hr => ih r hr (by omega))
      omega
  apply List.ext_getElem
  · rw [ha.1, hb.1]
  · intro i h1 h2
    have := key i (by rw [← ha.1]; exact h1)
    simp only [mrk, getI, Int.toNat_natCast, List.getD_eq_getElem?_getD, List.getElem?_eq_getElem h1, List.getElem?_eq_getElem h2, Option.getD_some] at this
    exact this

/-- What the programs answer. -/
def MoiRes (f : Fam) (sex : Int) (X : List Int) (V : Bool) : Prop := (V = true ∧ Least f sex X) ∨ (V = false ∧ X = [] ∧ ¬ ∃ o, Least f sex o)
theorem MoiRes.ex (f : Fam) (sex : Int) : ∃ X V, MoiRes f sex X V := by
  by_cases h : ∃ o, Least f sex o
  · obtain ⟨o, ho⟩ := h
    exact ⟨o, true, .inl ⟨rfl, ho⟩⟩
  · exact ⟨[], false, .inr ⟨rfl, rfl, h⟩⟩
theorem MoiRes.yes {f : Fam} {sex : Int} {X : List Int} {V : Bool} (h : MoiRes f sex X V) {o : List Int} (ho : Least f sex o) : V = true ∧ X = o := by
  rcases h with ⟨h1, h2⟩ | ⟨_, _, h3⟩
  · exact ⟨h1, h2.eq ho⟩
  · exact (h3 ⟨o, ho⟩).elim
theorem MoiRes.no {f : Fam} {sex : Int} {X : List Int} {V : Bool} (h : MoiRes f sex X V) (ho : ¬ ∃ h, Val f sex h) : V = false ∧ X = [] := by
  rcases h with ⟨_, h2⟩ | ⟨h1, h2, _⟩
  · exact (ho ⟨_, h2.2.1⟩).elim
  · exact ⟨h1, h2⟩
theorem MoiRes.len {f : Fam} {sex : Int} {X : List Int} {V : Bool} (h : MoiRes f sex X V) : X.length ≤ f.1.length := by
  rcases h with ⟨_, h2⟩ | ⟨_, rfl, _⟩
  · have := h2.1; omega
  · simp

theorem mrk_set {o : List Int} {b : Nat} (hb : b < o.length) (y : Int) (q : Nat) : mrk (o.set b y) q = if b = q then y else mrk o q := by
  unfold mrk getI
  simp only [Int.toNat_natCast, List.getD_eq_getElem?_getD, List.getElem?_set]
  by_cases e : b = q
  · subst e; simp [hb]
  · simp [e]
section
variable {f : Fam} {sex : Int}
theorem Out.start (hin : ∀ p, p < f.1.length → fo f.1 sex p < f.1.length) (hun : ∀ u ∈ f.2, u.1.toNat < f.1.length ∧ u.2.1.toNat < f.1.length) : Out f sex 0 (List.replicate f.1.length (-1)) := by
  have e : ∀ q, q < f.1.length → mrk (List.replicate f.1.length (-1)) q = -1 := fun q hq => by
    simp [mrk, getI, List.getD_eq_getElem?_getD, hq]
  refine ⟨⟨by simp, fun q hq => .inl (e q hq)⟩, fun q hq => by omega, fun q hq => by omega, fun h _ _ q hq hm => ?_, fun ⟨h, hv⟩ => ⟨h, hv, fun q hq hm => ?_⟩, ?_⟩
  · rw [e q hq] at hm; omega
  · rw [e q hq] at hm; omega
  · exact ⟨fun p hp => by rw [e p hp, e _ (hin p hp)], fun u hu => by rw [e _ (hun u hu).1, e _ (hun u hu).2]⟩
theorem Out.skip {p : Nat} {o : List Int} (h : Out f sex p o) (hp : p < f.1.length) (hm : 0 ≤ mrk o p) : Out f sex (p + 1) o := by
  refine ⟨h.rng, fun q hq => ?_, fun q hq g hg hr => ?_, fun g hg hr => h.forced g hg (fun r hr' => hr r (by omega)), h.ex, h.clo⟩
  · by_cases e : q = p
    · rw [e]; exact hm
    · exact h.done q (by omega)
  · by_cases e : q = p
    · subst e
      have := h.forced g hg (fun r hr' => hr r hr') q hp hm
      omega
    · exact h.least q (by omega) g hg hr
/-- The other half, off what is marked. -/
def flip (o : List Int) (h : Nat → Int) (q : Nat) : Int := if 0 ≤ mrk o q then h q else 1 - h q
theorem flip_val {o : List Int} (hin : ∀ p, p < f.1.length → fo f.1 sex p < f.1.length) (hun : ∀ u ∈ f.2, u.1.toNat < f.1.length ∧ u.2.1.toNat < f.1.length) (hc : Clo f sex o) {h : Nat → Int} (hv : Val f sex h) : Val f sex (flip o h) := by
  refine ⟨fun p hp => ?_, fun p hp => ?_, fun u hu => ?_⟩
  · unfold flip
    have := hv.1 p hp
    split <;> omega
  · have h1 := hc.1 p hp
    have h2 := hv.2.1 p hp
    unfold flip
    by_cases e : 0 ≤ mrk o p
    · rw [if_pos e, if_pos (h1.1 e)]; exact h2
    · rw [if_neg e, if_neg (fun h' => e (h1.2 h')), h2]
  · have h1 := hc.2 u hu
    have h2 := hv.2.2 u hu
    unfold flip
    by_cases e : 0 ≤ mrk o u.1.toNat
    · rw [if_pos e, if_pos (h1.1 e)]; exact h2
    · rw [if_neg e, if_neg (fun h' => e (h1.2 h')), h2]
theorem flip_agr {o : List Int} {h : Nat → Int} (ha : Agr f.1.length h o) : Agr f.1.length (flip o h) o := fun q hq hm => by
  unfold flip; rw [if_pos hm]; exact ha q hq hm
/-- A start: there is a division that begins as we do, if there is one at all. -/
theorem Out.begin {p : Nat} {o : List Int} (h : Out f sex p o) (hp : p < f.1.length) (hm : ¬ 0 ≤ mrk o p) (hin : ∀ p, p < f.1.length → fo f.1 sex p < f.1.length) (hun : ∀ u ∈ f.2, u.1.toNat < f.1.length ∧ u.2.1.toNat < f.1.length)
    (hx : ∃ h, Val f sex h) : ∃ h, Val f sex h ∧ Agr f.1.length h (o.set p 0) := by
  obtain ⟨g, hg, ha⟩ := h.ex hx
  have hl : p < o.length := by rw [h.rng.1]; exact hp
  have key : ∀ g, g p = 0 → Agr f.1.length g o → Agr f.1.length g (o.set p 0) := fun g h0 ha q hq hm' => by
    rw [mrk_set hl] at hm' ⊢
    by_cases e : p = q
    · subst e; rw [if_pos rfl]; exact h0
    · rw [if_neg e] at hm' ⊢; exact ha q hq hm'
  rcases hg.1 p hp with h0 | h1
  · exact ⟨g, hg, key g h0 ha⟩
  · refine ⟨flip o g, flip_val hin hun h.clo hg, key _ ?_ (flip_agr ha)⟩
    unfold flip; rw [if_neg hm, h1]; rfl
theorem Inn.start {p : Nat} {o : List Int} (h : Rng f.1.length o) (hp : p < f.1.length) : Inn f sex (o.set p 0) (o.set p 0) := by
  refine ⟨⟨by rw [List.length_set]; exact h.1, fun q hq => ?_⟩, fun _ _ _ => rfl, fun _ _ ha => ha⟩
  rw [mrk_set (by rw [h.1]; exact hp)]
  split
  · exact .inr (.inl rfl)
  · exact h.2 q hq
/-- A mark that follows. -/
theorem Inn.put {o1 o : List Int} (h : Inn f sex o1 o) {b : Nat} (hb : b < f.1.length) (hm : ¬ 0 ≤ mrk o b) {y : Int} (hy : y = 0 ∨ y = 1) (hfo : ∀ g, Val f sex g → Agr f.1.length g o → g b = y) : Inn f sex o1 (o.set b y) := by
  have hl : b < o.length := by rw [h.rng.1]; exact hb
  refine ⟨⟨by rw [List.length_set]; exact h.rng.1, fun q hq => ?_⟩, fun q hq h1 => ?_, fun g hg ha q hq hmq => ?_⟩
  · rw [mrk_set hl]; split
    · rcases hy with rfl | rfl
      · exact .inr (.inl rfl)
      · exact .inr (.inr rfl)
    · exact h.rng.2 q hq
  · rw [mrk_set hl]; split
    · rename_i e; subst e
      have := h.stay b hq h1
      rw [this] at hm; exact (hm h1).elim
    · exact h.stay q hq h1
  · have h2 := h.forced g hg ha
    rw [mrk_set hl] at hmq ⊢
    by_cases e : b = q
    · subst e; rw [if_pos rfl]; exact hfo g hg h2
    · rw [if_neg e] at hmq ⊢; exact h2 q hq hmq
/-- The spreading of a start has ended. -/
theorem Out.next {p : Nat} {o o' : List Int} (h : Out f sex p o) (hp : p < f.1.length) (hm : ¬ 0 ≤ mrk o p) (hin : ∀ p, p < f.1.length → fo f.1 sex p < f.1.length) (hun : ∀ u ∈ f.2, u.1.toNat < f.1.length ∧ u.2.1.toNat < f.1.length)
    (hI : Inn f sex (o.set p 0) o') (hc : Clo f sex o') : Out f sex (p + 1) o' := by
  have hl : p < o.length := by rw [h.rng.1]; exact hp
  have keep : ∀ q, q < f.1.length → 0 ≤ mrk o q → mrk o' q = mrk o q := fun q hq h0 => by
    have e : ¬ p = q := fun e => hm (e ▸ h0)
    have := hI.stay q hq (by rw [mrk_set hl, if_neg e]; exact h0)
    rw [this, mrk_set hl, if_neg e]
  have ep : mrk o' p = 0 := by
    have := hI.stay p hp (by rw [mrk_set hl, if_pos rfl]; exact Int.le_refl _)
    rw [this, mrk_set hl, if_pos rfl]
  have agr1 : ∀ g, Val f sex g → (∀ r, r < p + 1 → g r = mrk o' r) → Agr f.1.length g (o.set p 0) := fun g hg hr q hq hmq => by
    have h2 := h.forced g hg (fun r hr' => by rw [hr r (by omega)]; exact keep r (by omega) (h.done r hr'))
    rw [mrk_set hl] at hmq ⊢
    by_cases e : p = q
    · subst e; rw [if_pos rfl, hr p (by omega), ep]
    · rw [if_neg e] at hmq ⊢; exact h2 q hq hmq
  refine ⟨hI.rng, fun q hq => ?_, fun q hq g hg hr => ?_, fun g hg hr => hI.forced g hg (agr1 g hg hr), fun hx => ?_, hc⟩
  · by_cases e : q = p
    · rw [e, ep]; exact Int.le_refl _
    · rw [keep q (by omega) (h.done q (by omega))]; exact h.done q (by omega)
  · by_cases e : q = p
    · subst e; rw [ep]; rcases hg.1 q hp with e | e <;> omega
    · rw [keep q (by omega) (h.done q (by omega))]
      exact h.least q (by omega) g hg (fun r hr' => by rw [hr r hr']; exact keep r (by omega) (h.done r (by omega)))
  · obtain ⟨g, hg, ha⟩ := h.begin hp hm hin hun hx
    exact ⟨g, hg, hI.forced g hg ha⟩
theorem Out.least_of {o : List Int} (h : Out f sex f.1.length o) (hv : Val f sex (mrk o)) : Least f sex o := ⟨h.rng.1, hv, h.least⟩
end

end

end Go.Proofs.Ytefbbbhidnnchaa
