/- Plain: classes that are assigned: what both programs compute is the least assignment, if there is one; permutations as bijections; edges, ties, and how classes spread. -/
import Derived.Test.YtomigopkejlmcaaMoi3
import Derived.Test.YtomigopkejlmcaaGiv
namespace Go.Proofs.Ytomigopkejlmcaa
set_option linter.unusedVariables false
set_option linter.unusedSimpArgs false
open Go.RowKit

/-- The class of b follows from that of a by π. -/
def IsEd (f : Fam) (c : Cls) (a b : Nat) (π : List Int) : Prop :=
  (∃ x, f.1[b]? = some x ∧ 0 ≤ x.2.2.1 ∧ x.2.2.1.toNat = a ∧ π = c.2) ∨ (∃ x, f.1[b]? = some x ∧ 0 ≤ x.2.2.2.1 ∧ x.2.2.2.1.toNat = a ∧ π = comp (inv c.1) c.2) ∨
    (∃ u ∈ f.2, u.1.toNat = a ∧ u.2.1.toNat = b ∧ π = c.1)
/-- An assignment. -/
structure AVal (f : Fam) (c : Cls) (g : List Int) (h : Nat → Int) : Prop where
  rng : ∀ p, p < f.1.length → 0 ≤ h p ∧ h p < c.1.length
  giv : ∀ p, p < f.1.length → 0 ≤ mrk g p → h p = mrk g p
  ed : ∀ a b π, IsEd f c a b π → h b = getI π (h a)
def ARng (f : Fam) (c : Cls) (o : List Int) : Prop := o.length = f.1.length ∧ ∀ q, q < f.1.length → mrk o q = -1 ∨ (0 ≤ mrk o q ∧ mrk o q < c.1.length)
/-- What is marked is closed, and fits. -/
structure ACon (f : Fam) (c : Cls) (g o : List Int) : Prop where
  clo : ∀ a b π, IsEd f c a b π → (0 ≤ mrk o a ↔ 0 ≤ mrk o b)
  fit : ∀ a b π, IsEd f c a b π → 0 ≤ mrk o a → mrk o b = getI π (mrk o a)
  giv : ∀ p, p < f.1.length → 0 ≤ mrk g p → 0 ≤ mrk o p → mrk o p = mrk g p
structure AOut (f : Fam) (c : Cls) (g : List Int) (p : Nat) (o : List Int) : Prop where
  rng : ARng f c o
  done : ∀ q, q < p → 0 ≤ mrk o q
  least : ∀ q, q < p → ∀ h, AVal f c g h → (∀ r, r < q → h r = mrk o r) → mrk o q ≤ h q
  forced : ∀ h, AVal f c g h → (∀ r, r < p → h r = mrk o r) → Agr f.1.length h o
  con : ACon f c g o
structure AInn (f : Fam) (c : Cls) (g o1 o : List Int) : Prop where
  rng : ARng f c o
  stay : ∀ q, q < f.1.length → 0 ≤ mrk o1 q → mrk o q = mrk o1 q
  forced : ∀ h, AVal f c g h → Agr f.1.length h o1 → Agr f.1.length h o
def ALeast (f : Fam) (c : Cls) (g o : List Int) : Prop :=
  o.length = f.1.length ∧ AVal f c g (mrk o) ∧ ∀ q, q < f.1.length → ∀ h, AVal f c g h → (∀ r, r < q → h r = mrk o r) → mrk o q ≤ h q

theorem ALeast.eq {f : Fam} {c : Cls} {g a b : List Int} (ha : ALeast f c g a) (hb : ALeast f c g b) : a = b := by
  have key : ∀ q, q < f.1.length → mrk a q = mrk b q := by
    intro q
    induction q using Nat.strongRecOn with
    | _ q ih =>
      intro hq
      have h1 := ha.2.2 q hq (mrk b) hb.2.1 (fun r hr => (ih r hr (by omega)).symm)
      have h2 := hb.2.2 q hq (mrk a) ha.2.1 (fun r hr => ih r hr (by omega))
      omega
  apply List.ext_getElem
  · rw [ha.1, hb.1]
  · intro i h1 h2
    have := key i (by rw [← ha.1]; exact h1)
    simp only [mrk, getI, Int.toNat_natCast, List.getD_eq_getElem?_getD, List.getElem?_eq_getElem h1, List.getElem?_eq_getElem h2, Option.getD_some] at this
    exact this
def AsgRes (f : Fam) (c : Cls) (g X : List Int) (V : Bool) : Prop := (V = true ∧ ALeast f c g X) ∨ (V = false ∧ X = [] ∧ ¬ ∃ o, ALeast f c g o)
theorem AsgRes.ex (f : Fam) (c : Cls) (g : List Int) : ∃ X V, AsgRes f c g X V := by
  by_cases h : ∃ o, ALeast f c g o
  · obtain ⟨o, ho⟩ := h
    exact ⟨o, true, .inl ⟨rfl, ho⟩⟩
  · exact ⟨[], false, .inr ⟨rfl, rfl, h⟩⟩
theorem AsgRes.yes {f : Fam} {c : Cls} {g X : List Int} {V : Bool} (h : AsgRes f c g X V) {o : List Int} (ho : ALeast f c g o) : V = true ∧ X = o := by
  rcases h with ⟨h1, h2⟩ | ⟨_, _, h3⟩
  · exact ⟨h1, h2.eq ho⟩
  · exact (h3 ⟨o, ho⟩).elim
theorem AsgRes.no {f : Fam} {c : Cls} {g X : List Int} {V : Bool} (h : AsgRes f c g X V) (ho : ¬ ∃ h, AVal f c g h) : V = false ∧ X = [] := by
  rcases h with ⟨_, h2⟩ | ⟨h1, h2, _⟩
  · exact (ho ⟨_, h2.2.1⟩).elim
  · exact ⟨h1, h2⟩
theorem AsgRes.len {f : Fam} {c : Cls} {g X : List Int} {V : Bool} (h : AsgRes f c g X V) : X.length ≤ f.1.length := by
  rcases h with ⟨_, h2⟩ | ⟨_, rfl, _⟩
  · have := h2.1; omega
  · simp

section
variable {f : Fam} {c : Cls} {g : List Int}
/-- What is marked, and else what h says. -/
def glue (o : List Int) (h : Nat → Int) (q : Nat) : Int := if 0 ≤ mrk o q then mrk o q else h q
theorem glue_val {o : List Int} (hr : ARng f c o) (hc : ACon f c g o) {h : Nat → Int} (hv : AVal f c g h) : AVal f c g (glue o h) := by
  refine ⟨fun p hp => ?_, fun p hp hg => ?_, fun a b π he => ?_⟩
  · unfold glue
    have := hr.2 p hp
    have := hv.rng p hp
    split <;> omega
  · unfold glue
    split
    · exact hc.giv p hp hg ‹_›
    · exact hv.giv p hp hg
  · unfold glue
    have h1 := hc.clo a b π he
    by_cases e : 0 ≤ mrk o a
    · rw [if_pos e, if_pos (h1.1 e)]; exact hc.fit a b π he e
    · rw [if_neg e, if_neg (fun h' => e (h1.2 h'))]; exact hv.ed a b π he
theorem glue_agr (o : List Int) (h : Nat → Int) : Agr f.1.length (glue o h) o := fun q _ hm => by unfold glue; rw [if_pos hm]
theorem agr_set {o : List Int} {p : Nat} (hl : p < o.length) {h : Nat → Int} (ha : Agr f.1.length h o) {y : Int} (hy : h p = y) : Agr f.1.length h (o.set p y) := fun q hq hm => by
  rw [mrk_set hl] at hm ⊢
  by_cases e : p = q
  · subst e; rw [if_pos rfl]; exact hy
  · rw [if_neg e] at hm ⊢; exact ha q hq hm
theorem AOut.skip {p : Nat} {o : List Int} (h : AOut f c g p o) (hp : p < f.1.length) (hm : 0 ≤ mrk o p) : AOut f c g (p + 1) o := by
  refine ⟨h.rng, fun q hq => ?_, fun q hq k hk hr => ?_, fun k hk hr => h.forced k hk (fun r hr' => hr r (by omega)), h.con⟩
  · by_cases e : q = p
    · rw [e]; exact hm
    · exact h.done q (by omega)
  · by_cases e : q = p
    · subst e
      have := h.forced k hk (fun r hr' => hr r hr') q hp hm
      omega
    · exact h.least q (by omega) k hk hr
/-- No class will do. -/
theorem AOut.fail {p : Nat} {o : List Int} (h : AOut f c g p o) (hp : p < f.1.length) (hm : ¬ 0 ≤ mrk o p) (hf : ∀ y : Int, 0 ≤ y → y < c.1.length → ¬ ∃ k, AVal f c g k ∧ Agr f.1.length k (o.set p y)) : ¬ ∃ k, AVal f c g k := fun ⟨k, hk⟩ => by
  have hl : p < o.length := by rw [h.rng.1]; exact hp
  have h1 := hk.rng p hp
  exact hf (k p) h1.1 h1.2 ⟨glue o k, glue_val h.rng h.con hk, agr_set hl (glue_agr o k) (by unfold glue; rw [if_neg hm])⟩
theorem AInn.start {o : List Int} (h : ARng f c o) : AInn f c g o o := ⟨h, fun _ _ _ => rfl, fun _ _ ha => ha⟩
theorem ARng.set {o : List Int} (h : ARng f c o) {p : Nat} (hp : p < f.1.length) {y : Int} (h0 : 0 ≤ y) (h1 : y < c.1.length) : ARng f c (o.set p y) := by
  refine ⟨by rw [List.length_set]; exact h.1, fun q hq => ?_⟩
  rw [mrk_set (by rw [h.1]; exact hp)]
  split
  · exact .inr ⟨h0, h1⟩
  · exact h.2 q hq
/-- A mark that follows. -/
theorem AInn.put {o1 o : List Int} (h : AInn f c g o1 o) {b : Nat} (hb : b < f.1.length) (hm : ¬ 0 ≤ mrk o b) {y : Int} (h0 : 0 ≤ y) (h1 : y < c.1.length) (hfo : ∀ k, AVal f c g k → Agr f.1.length k o → k b = y) : AInn f c g o1 (o.set b y) := by
  have hl : b < o.length := by rw [h.rng.1]; exact hb
  refine ⟨h.rng.set hb h0 h1, fun q hq h2 => ?_, fun k hk ha => ?_⟩
  · rw [mrk_set hl]; split
    · rename_i e; subst e
      have := h.stay b hq h2
      rw [this] at hm; exact (hm h2).elim
    · exact h.stay q hq h2
  · have h2 := h.forced k hk ha
    exact agr_set hl h2 (hfo k hk h2)
/-- A class has been found. -/
theorem AOut.next {p : Nat} {o o' : List Int} {x : Int} (h : AOut f c g p o) (hp : p < f.1.length) (hm : ¬ 0 ≤ mrk o p) (hx : 0 ≤ x) (hf : ∀ y : Int, 0 ≤ y → y < x → ¬ ∃ k, AVal f c g k ∧ Agr f.1.length k (o.set p y))
    (hI : AInn f c g (o.set p x) o') (hc : ACon f c g o') : AOut f c g (p + 1) o' := by
  have hl : p < o.length := by rw [h.rng.1]; exact hp
  have keep : ∀ q, q < f.1.length → 0 ≤ mrk o q → mrk o' q = mrk o q := fun q hq h0 => by
    have e : ¬ p = q := fun e => hm (e ▸ h0)
    have := hI.stay q hq (by rw [mrk_set hl, if_neg e]; exact h0)
    rw [this, mrk_set hl, if_neg e]
  have ep : mrk o' p = x := by
    have := hI.stay p hp (by rw [mrk_set hl, if_pos rfl]; exact hx)
    rw [this, mrk_set hl, if_pos rfl]
  have agr0 : ∀ k, AVal f c g k → (∀ r, r < p → k r = mrk o' r) → Agr f.1.length k o := fun k hk hr =>
    h.forced k hk (fun r hr' => by rw [hr r hr']; exact keep r (by omega) (h.done r hr'))
  refine ⟨hI.rng, fun q hq => ?_, fun q hq k hk hr => ?_, fun k hk hr => hI.forced k hk (agr_set hl (agr0 k hk (fun r hr' => hr r (by omega))) (by rw [hr p (by omega), ep])), hc⟩
  · by_cases e : q = p
    · rw [e, ep]; exact hx
    · rw [keep q (by omega) (h.done q (by omega))]; exact h.done q (by omega)
  · by_cases e : q = p
    · subst e
      rw [ep]
      rcases Int.lt_or_le (k q) x with h2 | h2
      · exact (hf (k q) (hk.rng q hp).1 h2 ⟨k, hk, agr_set hl (agr0 k hk hr) rfl⟩).elim
      · exact h2
    · rw [keep q (by omega) (h.done q (by omega))]
      exact h.least q (by omega) k hk (fun r hr' => by rw [hr r hr']; exact keep r (by omega) (h.done r (by omega)))
theorem AOut.least_of {o : List Int} (h : AOut f c g f.1.length o) (hin : ∀ a b π, IsEd f c a b π → a < f.1.length) : ALeast f c g o := by
  refine ⟨h.rng.1, ⟨fun p hp => ?_, fun p hp hg => h.con.giv p hp hg (h.done p hp), fun a b π he => h.con.fit a b π he (h.done a (hin a b π he))⟩, h.least⟩
  have := h.rng.2 p hp
  have := h.done p hp
  omega
theorem AOut.start (hin : ∀ a b π, IsEd f c a b π → a < f.1.length ∧ b < f.1.length) : AOut f c g 0 (List.replicate f.1.length (-1)) := by
  have e : ∀ q, q < f.1.length → mrk (List.replicate f.1.length (-1)) q = -1 := fun q hq => by
    simp [mrk, getI, List.getD_eq_getElem?_getD, hq]
  refine ⟨⟨by simp, fun q hq => .inl (e q hq)⟩, fun q hq => by omega, fun q hq => by omega, fun h _ _ q hq hm => ?_, ⟨fun a b π he => ?_, fun a b π he hm => ?_, fun p hp _ hm => ?_⟩⟩
  · rw [e q hq] at hm; omega
  · rw [e a (hin a b π he).1, e b (hin a b π he).2]
  · rw [e a (hin a b π he).1] at hm; omega
  · rw [e p hp] at hm; omega
end

theorem permGo_mk {n : Nat} : ∀ (xs : List Int) (seen : List Bool), (∀ x ∈ xs, 0 ≤ x ∧ x < n ∧ seen.getD x.toNat true = false) → (xs.map Int.toNat).Nodup → permGo n seen xs = true
  | [], _, _, _ => rfl
  | x :: xs, seen, h, hn => by
    obtain ⟨h0, h1, h2⟩ := h x (by simp)
    rw [List.map_cons, List.nodup_cons] at hn
    rw [permGo, if_pos ⟨h0, h1, h2⟩]
    refine permGo_mk xs _ (fun y hy => ?_) hn.2
    obtain ⟨g0, g1, g2⟩ := h y (by simp [hy])
    refine ⟨g0, g1, ?_⟩
    have hne : ¬ x.toNat = y.toNat := fun e => hn.1 (e ▸ List.mem_map.2 ⟨y, hy, rfl⟩)
    simp only [List.getD_eq_getElem?_getD] at g2 ⊢
    rw [List.getElem?_set, if_neg hne]; exact g2
theorem inv_get {p : List Int} (h : isPerm p = true) {j : Nat} {x : Int} (hx : p[j]? = some x) : (inv p)[x.toNat]? = some (j : Int) := by
  have hr := isPerm_range h x (List.mem_of_getElem? hx)
  have := invSet_in p (List.replicate p.length 0) 0 j x (isPerm_nodup h) hx (by simp; omega)
  simpa [inv] using this
theorem getI_some {xs : List Int} {x : Int} (h0 : 0 ≤ x) (h1 : x < xs.length) : xs[x.toNat]? = some (getI xs x) := by
  have hl : x.toNat < xs.length := by omega
  simp [getI, List.getD_eq_getElem?_getD, List.getElem?_eq_getElem hl]
theorem getI_of {xs : List Int} {j : Nat} {x y : Int} (hy : y.toNat = j) (h : xs[j]? = some x) : getI xs y = x := by
  subst hy; simp [getI, List.getD_eq_getElem?_getD, h]
/-- π and σ undo each other on the numbers below N. -/
structure Bij (N : Nat) (π σ : List Int) : Prop where
  rng : ∀ x : Int, 0 ≤ x → x < N → 0 ≤ getI π x ∧ getI π x < N
  rng' : ∀ x : Int, 0 ≤ x → x < N → 0 ≤ getI σ x ∧ getI σ x < N
  one : ∀ x : Int, 0 ≤ x → x < N → getI σ (getI π x) = x
  two : ∀ x : Int, 0 ≤ x → x < N → getI π (getI σ x) = x
theorem Bij.symm {N : Nat} {π σ : List Int} (h : Bij N π σ) : Bij N σ π := ⟨h.rng', h.rng, h.two, h.one⟩
theorem isPerm_bij {p : List Int} (h : isPerm p = true) : Bij p.length p (inv p) := by
  have r1 : ∀ x : Int, 0 ≤ x → x < p.length → 0 ≤ getI p x ∧ getI p x < p.length := fun x h0 h1 => isPerm_range h _ (List.mem_of_getElem? (getI_some h0 h1))
  have r2 : ∀ x : Int, 0 ≤ x → x < p.length → 0 ≤ getI (inv p) x ∧ getI (inv p) x < p.length := fun x h0 h1 => by
    exact inv_range (xs := p) _ (List.mem_of_getElem? (getI_some h0 (by rw [inv_len]; exact h1)))
  have e1 : ∀ x : Int, 0 ≤ x → x < p.length → getI (inv p) (getI p x) = x := fun x h0 h1 => by
    have := inv_get h (getI_some h0 h1)
    rw [getI_of rfl this]; omega
  refine ⟨r1, r2, e1, fun y h0 h1 => ?_⟩
  obtain ⟨j, x, hx, hy, hj⟩ := isPerm_onto h (i := y.toNat) (by omega)
  have h2 := isPerm_range h x (List.mem_of_getElem? hx)
  have : x = y := by omega
  subst this
  have h3 := inv_get h hx
  rw [getI_of rfl h3]
  exact getI_of (by simp) hx
theorem comp_get {p q : List Int} {x : Int} (h0 : 0 ≤ x) (h1 : x < p.length) : getI (comp p q) x = getI q (getI p x) := by
  have := getI_some h0 h1
  refine getI_of rfl ?_
  show (p.map fun x => q.getD x.toNat 0)[x.toNat]? = _
  rw [List.getElem?_map, this]; rfl
theorem bij_comp {p q : List Int} (hp : isPerm p = true) (hq : isPerm q = true) (hl : p.length = q.length) : isPerm (comp p q) = true := by
  have bp := isPerm_bij hp
  have bq := isPerm_bij hq
  have hcl : (comp p q).length = p.length := comp_len p q
  have at_ : ∀ i, i < p.length → (comp p q)[i]? = some (getI q (getI p (i : Int))) := fun i hi => by
    have := getI_some (xs := p) (x := (i : Int)) (by omega) (by omega)
    rw [Int.toNat_natCast] at this
    show (p.map fun x => q.getD x.toNat 0)[i]? = _
    rw [List.getElem?_map, this]; rfl
  have rg : ∀ i, i < p.length → 0 ≤ getI q (getI p (i : Int)) ∧ getI q (getI p (i : Int)) < p.length := fun i hi => by
    have h1 := bp.rng (i : Int) (by omega) (by omega)
    have h2 := bq.rng _ h1.1 (by omega)
    omega
  unfold isPerm
  refine permGo_mk _ _ (fun x hx => ?_) ?_
  · obtain ⟨i, hi⟩ := List.mem_iff_getElem?.1 hx
    have hil : i < p.length := by rw [← hcl]; exact (List.getElem?_eq_some_iff.1 hi).1
    rw [at_ i hil] at hi
    have e := Option.some.inj hi
    have := rg i hil
    rw [e] at this
    have hxl : x.toNat < p.length := by omega
    rw [hcl]
    exact ⟨this.1, this.2, by simp [List.getD_eq_getElem?_getD, hxl]⟩
  · rw [List.nodup_iff_pairwise_ne, List.pairwise_iff_getElem]
    intro i j hi hj hij
    rw [List.length_map, hcl] at hi hj
    have ei := at_ i hi
    have ej := at_ j hj
    rw [List.getElem_map, List.getElem_map]
    rw [(List.getElem?_eq_some_iff.1 ei).2, (List.getElem?_eq_some_iff.1 ej).2]
    intro e
    have r1 := rg i hi
    have r2 := rg j hj
    have e2 : getI q (getI p (i : Int)) = getI q (getI p (j : Int)) := by omega
    have pi := bp.rng (i : Int) (by omega) (by omega)
    have pj := bp.rng (j : Int) (by omega) (by omega)
    have e3 : getI p (i : Int) = getI p (j : Int) := by rw [← bq.one _ pi.1 (by omega), e2, bq.one _ pj.1 (by omega)]
    have e4 : (i : Int) = (j : Int) := by rw [← bp.one (i : Int) (by omega) (by omega), e3, bp.one (j : Int) (by omega) (by omega)]
    omega

abbrev Ed := Nat × Nat × List Int
abbrev Tie := Int × Int × List Int
def byM (c : Cls) : List Int := comp (inv c.1) c.2
def edFa (c : Cls) (p : Nat) (x : Per) : List Ed := if 0 ≤ x.2.2.1 then [(x.2.2.1.toNat, p, c.2)] else []
def edMo (c : Cls) (p : Nat) (x : Per) : List Ed := if 0 ≤ x.2.2.2.1 then [(x.2.2.2.1.toNat, p, byM c)] else []
def edAt (f : Fam) (c : Cls) (p : Nat) : List Ed := match f.1[p]? with | some x => edFa c p x ++ edMo c p x | none => []
def edTo (f : Fam) (c : Cls) (k : Nat) : List Ed := (List.range k).flatMap (edAt f c)
def edU (c : Cls) (us : List Uni) : List Ed := us.map fun u => (u.1.toNat, u.2.1.toNat, c.1)
def edges (f : Fam) (c : Cls) : List Ed := edTo f c f.1.length ++ edU c f.2
def both (e : Ed) : List Tie := [((e.1 : Int), (e.2.1 : Int), e.2.2), ((e.2.1 : Int), (e.1 : Int), inv e.2.2)]
def tiesOf (es : List Ed) : List Tie := es.flatMap both

theorem edTo_succ {f : Fam} {c : Cls} {p : Nat} {x : Per} (h : f.1[p]? = some x) : edTo f c (p + 1) = edTo f c p ++ edFa c p x ++ edMo c p x := by
  unfold edTo
  rw [List.range_succ, List.flatMap_append, List.append_assoc]
  simp [edAt, h]
theorem edU_take {c : Cls} {us : List Uni} {k : Nat} {u : Uni} (h : us[k]? = some u) : edU c (us.take (k + 1)) = edU c (us.take k) ++ [(u.1.toNat, u.2.1.toNat, c.1)] := by
  rw [take_snoc h]; simp [edU]
theorem tiesOf_snoc (es : List Ed) (e : Ed) : tiesOf (es ++ [e]) = tiesOf es ++ both e := by simp [tiesOf]
theorem tiesOf_len (es : List Ed) : (tiesOf es).length = 2 * es.length := by
  induction es with
  | nil => rfl
  | cons e es ih => simp only [tiesOf, List.flatMap_cons, List.length_append, List.length_cons] at ih ⊢; simp only [both, List.length_cons, List.length_nil]; omega
theorem edAt_len (f : Fam) (c : Cls) (p : Nat) : (edAt f c p).length ≤ 2 := by
  unfold edAt
  split
  · rw [List.length_append]
    have h1 : ∀ x, (edFa c p x).length ≤ 1 := fun x => by unfold edFa; split <;> simp
    have h2 : ∀ x, (edMo c p x).length ≤ 1 := fun x => by unfold edMo; split <;> simp
    have := h1 ‹_›; have := h2 ‹_›; omega
  · simp
theorem edTo_len (f : Fam) (c : Cls) : ∀ k, (edTo f c k).length ≤ 2 * k
  | 0 => by simp [edTo]
  | k + 1 => by
    have := edTo_len f c k
    have h2 := edAt_len f c k
    unfold edTo at this ⊢
    rw [List.range_succ, List.flatMap_append, List.length_append]
    simp only [List.flatMap_cons, List.flatMap_nil, List.append_nil]
    omega
theorem edU_len (c : Cls) (us : List Uni) : (edU c us).length = us.length := by simp [edU]
theorem mem_edges {f : Fam} {c : Cls} {a b : Nat} {π : List Int} : (a, b, π) ∈ edges f c ↔ IsEd f c a b π := by
  unfold edges IsEd
  rw [List.mem_append]
  constructor
  · rintro (h | h)
    · unfold edTo at h
      rw [List.mem_flatMap] at h
      obtain ⟨p, -, h⟩ := h
      unfold edAt at h
      split at h
      · rename_i x hx
        rw [List.mem_append] at h
        rcases h with h | h
        · unfold edFa at h
          split at h
          · simp only [List.mem_singleton, Prod.mk.injEq] at h
            obtain ⟨rfl, rfl, rfl⟩ := h
            exact .inl ⟨x, hx, ‹_›, rfl, rfl⟩
          · cases h
        · unfold edMo at h
          split at h
          · simp only [List.mem_singleton, Prod.mk.injEq] at h
            obtain ⟨rfl, rfl, rfl⟩ := h
            exact .inr (.inl ⟨x, hx, ‹_›, rfl, rfl⟩)
          · cases h
      · cases h
    · unfold edU at h
      rw [List.mem_map] at h
      obtain ⟨u, hu, h⟩ := h
      simp only [Prod.mk.injEq] at h
      obtain ⟨rfl, rfl, rfl⟩ := h
      exact .inr (.inr ⟨u, hu, rfl, rfl, rfl⟩)
  · rintro (⟨x, hx, h0, rfl, rfl⟩ | ⟨x, hx, h0, rfl, rfl⟩ | ⟨u, hu, rfl, rfl, rfl⟩)
    · left
      unfold edTo
      rw [List.mem_flatMap]
      refine ⟨b, List.mem_range.2 (List.getElem?_eq_some_iff.1 hx).1, ?_⟩
      unfold edAt; rw [hx]
      exact List.mem_append_left _ (by unfold edFa; rw [if_pos h0]; simp)
    · left
      unfold edTo
      rw [List.mem_flatMap]
      refine ⟨b, List.mem_range.2 (List.getElem?_eq_some_iff.1 hx).1, ?_⟩
      unfold edAt; rw [hx]
      exact List.mem_append_right _ (by unfold edMo; rw [if_pos h0]; simp [byM])
    · right
      unfold edU
      rw [List.mem_map]
      exact ⟨u, hu, rfl⟩

/-- The edges lie in the family, and their permutations are permutations of the classes. -/
structure EdOk (f : Fam) (c : Cls) : Prop where
  inn : ∀ e ∈ edges f c, e.1 < f.1.length ∧ e.2.1 < f.1.length
  bij : ∀ e ∈ edges f c, Bij c.1.length e.2.2 (inv e.2.2)
  len : ∀ e ∈ edges f c, isPerm e.2.2 = true ∧ e.2.2.length = c.1.length
theorem isPerm_inv {p : List Int} (h : isPerm p = true) : isPerm (inv p) = true := by
  have b := isPerm_bij h
  have e : ∀ i, i < p.length → (inv p)[i]? = some (getI (inv p) (i : Int)) := fun i hi => by
    have := getI_some (xs := inv p) (x := (i : Int)) (by omega) (by rw [inv_len]; omega)
    rwa [Int.toNat_natCast] at this
  unfold isPerm
  refine permGo_mk _ _ (fun x hx => ?_) ?_
  · obtain ⟨i, hi⟩ := List.mem_iff_getElem?.1 hx
    have hil : i < p.length := by rw [← inv_len p]; exact (List.getElem?_eq_some_iff.1 hi).1
    rw [e i hil] at hi
    have := b.rng' (i : Int) (by omega) (by omega)
    rw [Option.some.inj hi] at this
    rw [inv_len]
    have hxl : x.toNat < p.length := by omega
    exact ⟨this.1, this.2, by simp [List.getD_eq_getElem?_getD, hxl]⟩
  · rw [List.nodup_iff_pairwise_ne, List.pairwise_iff_getElem]
    intro i j hi hj hij
    rw [List.length_map, inv_len] at hi hj
    rw [List.getElem_map, List.getElem_map, (List.getElem?_eq_some_iff.1 (e i hi)).2, (List.getElem?_eq_some_iff.1 (e j hj)).2]
    intro h2
    have r1 := b.rng' (i : Int) (by omega) (by omega)
    have r2 := b.rng' (j : Int) (by omega) (by omega)
    have e2 : getI (inv p) (i : Int) = getI (inv p) (j : Int) := by omega
    have e3 : (i : Int) = (j : Int) := by rw [← b.two (i : Int) (by omega) (by omega), e2, b.two (j : Int) (by omega) (by omega)]
    omega
theorem edOk {f : Fam} {c : Cls} (hf : famB f = true) (hc : isCls c = true) : EdOk f c := by
  obtain ⟨-, -, hP, hU⟩ := famB_facts hf
  obtain ⟨-, -, hl, hp1, hp2⟩ := isCls_facts hc
  have hb : isPerm (byM c) = true := bij_comp (isPerm_inv hp1) hp2 (by rw [inv_len, hl])
  have hbl : (byM c).length = c.1.length := by unfold byM; rw [comp_len, inv_len]
  have key : ∀ a b π, IsEd f c a b π → (a < f.1.length ∧ b < f.1.length) ∧ isPerm π = true ∧ π.length = c.1.length := by
    rintro a b π (⟨x, hx, h0, rfl, rfl⟩ | ⟨x, hx, h0, rfl, rfl⟩ | ⟨u, hu, rfl, rfl, rfl⟩)
    · have hbl := (List.getElem?_eq_some_iff.1 hx).1
      obtain ⟨nm, sx, fa, mo, bo, di⟩ := x
      obtain ⟨-, -, -, hfa, -, -⟩ := hP.at hbl hx
      exact ⟨⟨by dsimp only at h0 ⊢; omega, hbl⟩, hp2, hl⟩
    · have hbl2 := (List.getElem?_eq_some_iff.1 hx).1
      obtain ⟨nm, sx, fa, mo, bo, di⟩ := x
      obtain ⟨-, -, -, -, hmo, -⟩ := hP.at hbl2 hx
      exact ⟨⟨by dsimp only at h0 ⊢; omega, hbl2⟩, hb, hbl⟩
    · obtain ⟨k, hk⟩ := List.mem_iff_getElem?.1 hu
      obtain ⟨m, wo, fr, tl⟩ := u
      have := uniOk_facts (hU k (List.getElem?_eq_some_iff.1 hk).1) hk
      exact ⟨by dsimp only; omega, hp1, rfl⟩
  refine ⟨fun e he => (key _ _ _ (mem_edges.1 he)).1, fun e he => ?_, fun e he => (key _ _ _ (mem_edges.1 he)).2⟩
  have h := (key _ _ _ (mem_edges.1 he)).2
  rw [← h.2]; exact isPerm_bij h.1
theorem AVal.edge {f : Fam} {c : Cls} {g : List Int} {h : Nat → Int} (hv : AVal f c g h) {e : Ed} (he : e ∈ edges f c) : h e.2.1 = getI e.2.2 (h e.1) := hv.ed _ _ _ (mem_edges.1 he)

/-- All that is known of a tie. -/
structure TieOk (f : Fam) (c : Cls) (g : List Int) (t : Tie) : Prop where
  a0 : 0 ≤ t.1 ∧ t.1.toNat < f.1.length
  b0 : 0 ≤ t.2.1 ∧ t.2.1.toNat < f.1.length
  len : t.2.2.length = c.1.length
  rng : ∀ x : Int, 0 ≤ x → x < c.1.length → 0 ≤ getI t.2.2 x ∧ getI t.2.2 x < c.1.length
  must : ∀ h, AVal f c g h → h t.2.1.toNat = getI t.2.2 (h t.1.toNat)
  con : ∀ o, ARng f c o → ACon f c g o → 0 ≤ mrk o t.1.toNat → 0 ≤ mrk o t.2.1.toNat ∧ mrk o t.2.1.toNat = getI t.2.2 (mrk o t.1.toNat)
theorem tieOk {f : Fam} {c : Cls} (hE : EdOk f c) (g : List Int) : ∀ t ∈ tiesOf (edges f c), TieOk f c g t := by
  intro t ht
  unfold tiesOf at ht
  rw [List.mem_flatMap] at ht
  obtain ⟨e, he, ht⟩ := ht
  have h1 := hE.inn e he
  have h2 := hE.bij e he
  have h3 := hE.len e he
  have h4 := mem_edges.1 he
  simp only [both, List.mem_cons, List.not_mem_nil, or_false] at ht
  rcases ht with rfl | rfl
  · refine ⟨by dsimp only; omega, by dsimp only; omega, h3.2, h2.rng, fun h hv => ?_, fun o hr hc hm => ?_⟩
    · dsimp only; rw [Int.toNat_natCast, Int.toNat_natCast]; exact hv.edge he
    · dsimp only at hm ⊢
      rw [Int.toNat_natCast] at hm ⊢
      rw [Int.toNat_natCast]
      exact ⟨(hc.clo _ _ _ h4).1 hm, hc.fit _ _ _ h4 hm⟩
  · refine ⟨by dsimp only; omega, by dsimp only; omega, by dsimp only; rw [inv_len]; exact h3.2, h2.rng', fun h hv => ?_, fun o hr hc hm => ?_⟩
    · dsimp only; rw [Int.toNat_natCast, Int.toNat_natCast, hv.edge he]
      have := hv.rng e.1 h1.1
      exact (h2.one _ this.1 this.2).symm
    · dsimp only at hm ⊢
      rw [Int.toNat_natCast] at hm ⊢
      rw [Int.toNat_natCast]
      have h5 := (hc.clo _ _ _ h4).2 hm
      have h6 := hr.2 e.1 h1.1
      exact ⟨h5, by rw [hc.fit _ _ _ h4 h5]; exact (h2.one _ h5 (by omega)).symm⟩
theorem ties_all {f : Fam} {c : Cls} {a b : Nat} {π : List Int} (h : IsEd f c a b π) : ((a : Int), (b : Int), π) ∈ tiesOf (edges f c) ∧ ((b : Int), (a : Int), inv π) ∈ tiesOf (edges f c) := by
  have := mem_edges.2 h
  unfold tiesOf
  rw [List.mem_flatMap, List.mem_flatMap]
  exact ⟨⟨_, this, by simp [both]⟩, ⟨_, this, by simp [both]⟩⟩

/-- The ties of q are followed. -/
def TFit (T : List Tie) (o : List Int) (q : Nat) : Prop := ∀ t ∈ T, t.1.toNat = q → 0 ≤ mrk o t.2.1.toNat ∧ mrk o t.2.1.toNat = getI t.2.2 (mrk o q)
def GFit (g o : List Int) (q : Nat) : Prop := 0 ≤ mrk g q → mrk g q = mrk o q
structure Spr (f : Fam) (c : Cls) (g o1 : List Int) (td : List Int) (o : List Int) : Prop where
  inn : AInn f c g o1 o
  tds : ∀ a ∈ td, 0 ≤ a ∧ a < f.1.length ∧ 0 ≤ mrk o a.toNat
  fit : ∀ q, q < f.1.length → 0 ≤ mrk o q → (q : Int) ∈ td ∨ (GFit g o q ∧ TFit (tiesOf (edges f c)) o q)
structure SprIn (f : Fam) (c : Cls) (g o1 : List Int) (a : Nat) (j : Nat) (td : List Int) (o : List Int) : Prop where
  inn : AInn f c g o1 o
  tds : ∀ a ∈ td, 0 ≤ a ∧ a < f.1.length ∧ 0 ≤ mrk o a.toNat
  fit : ∀ q, q < f.1.length → 0 ≤ mrk o q → (q : Int) ∈ td ∨ q = a ∨ (GFit g o q ∧ TFit (tiesOf (edges f c)) o q)
  cur : 0 ≤ mrk o a ∧ GFit g o a ∧ TFit ((tiesOf (edges f c)).take j) o a

section
variable {f : Fam} {c : Cls} {g o1 o : List Int} {td : List Int}
theorem Spr.start {p : Nat} (h : AOut f c g p o) (hp : p < f.1.length) (hm : ¬ 0 ≤ mrk o p) (hE : EdOk f c) {y : Int} (h0 : 0 ≤ y) (h1 : y < c.1.length) : Spr f c g (o.set p y) [(p : Int)] (o.set p y) := by
  have hl : p < o.length := by rw [h.rng.1]; exact hp
  refine ⟨AInn.start (h.rng.set hp h0 h1), fun a ha => ?_, fun q hq hmq => ?_⟩
  · simp only [List.mem_singleton] at ha; subst ha
    refine ⟨by omega, by omega, ?_⟩
    rw [Int.toNat_natCast, mrk_set hl, if_pos rfl]; exact h0
  · by_cases e : p = q
    · left; subst e; simp
    · right
      rw [mrk_set hl, if_neg e] at hmq
      refine ⟨fun hg => ?_, fun t ht hq2 => ?_⟩
      · rw [mrk_set hl, if_neg e]; exact (h.con.giv q hq hg hmq).symm
      · have hT := tieOk hE g t ht
        subst hq2
        have h2 := hT.con o h.rng h.con hmq
        have e2 : ¬ p = t.2.1.toNat := fun e2 => hm (e2 ▸ h2.1)
        rw [mrk_set hl, mrk_set hl, if_neg e, if_neg e2]; exact h2
theorem Spr.take {a : Int} (h : Spr f c g o1 (a :: td) o) (hg : GFit g o a.toNat) : SprIn f c g o1 a.toNat 0 td o := by
  have ha := h.tds a (by simp)
  refine ⟨h.inn, fun b hb => h.tds b (by simp [hb]), fun q hq hmq => ?_, ⟨ha.2.2, hg, fun t ht => by simp at ht⟩⟩
  rcases h.fit q hq hmq with h1 | h1
  · rw [List.mem_cons] at h1
    rcases h1 with h1 | h1
    · right; left; omega
    · exact .inl h1
  · exact .inr (.inr h1)
theorem Spr.badg {a : Int} (h : Spr f c g o1 (a :: td) o) (h0 : 0 ≤ mrk g a.toNat) (hne : ¬ mrk g a.toNat = mrk o a.toNat) : ¬ ∃ k, AVal f c g k ∧ Agr f.1.length k o1 := fun ⟨k, hk, hA⟩ => by
  have ha := h.tds a (by simp)
  have h1 := h.inn.forced k hk hA a.toNat (by omega) ha.2.2
  have h2 := hk.giv a.toNat (by omega) h0
  omega
theorem SprIn.skip {a j : Nat} {t : Tie} (h : SprIn f c g o1 a j td o) (ht : (tiesOf (edges f c))[j]? = some t) (hn : ¬ t.1.toNat = a) : SprIn f c g o1 a (j + 1) td o := by
  refine ⟨h.inn, h.tds, h.fit, h.cur.1, h.cur.2.1, fun s hs he => ?_⟩
  rw [take_snoc ht, List.mem_append] at hs
  rcases hs with hs | hs
  · exact h.cur.2.2 s hs he
  · simp only [List.mem_singleton] at hs; subst hs; exact (hn he).elim
theorem SprIn.same {a j : Nat} {t : Tie} (h : SprIn f c g o1 a j td o) (ht : (tiesOf (edges f c))[j]? = some t) (h0 : 0 ≤ mrk o t.2.1.toNat) (he : mrk o t.2.1.toNat = getI t.2.2 (mrk o a)) : SprIn f c g o1 a (j + 1) td o := by
  refine ⟨h.inn, h.tds, h.fit, h.cur.1, h.cur.2.1, fun s hs he2 => ?_⟩
  rw [take_snoc ht, List.mem_append] at hs
  rcases hs with hs | hs
  · exact h.cur.2.2 s hs he2
  · simp only [List.mem_singleton] at hs; subst hs; exact ⟨h0, he⟩
theorem SprIn.bad {a j : Nat} {t : Tie} (hE : EdOk f c) (h : SprIn f c g o1 a j td o) (ht : (tiesOf (edges f c))[j]? = some t) (ha : t.1.toNat = a) (h0 : 0 ≤ mrk o t.2.1.toNat) (he : ¬ mrk o t.2.1.toNat = getI t.2.2 (mrk o a)) : ¬ ∃ k, AVal f c g k ∧ Agr f.1.length k o1 := fun ⟨k, hk, hA⟩ => by
  have hT := tieOk hE g t (List.mem_of_getElem? ht)
  have hB := h.inn.forced k hk hA
  have e1 := hB _ hT.b0.2 h0
  have e2 := hB a (by rw [← ha]; exact hT.a0.2) h.cur.1
  have e3 := hT.must k hk
  rw [ha, e2] at e3
  omega
theorem tfit_set {T : List Tie} {b q : Nat} {y : Int} (hl : b < o.length) (hb : mrk o b < 0) (hq : 0 ≤ mrk o q) (h : TFit T o q) : TFit T (o.set b y) q := fun t ht he => by
  have h1 := h t ht he
  have n1 : ¬ b = q := fun e => by subst e; omega
  have n2 : ¬ b = t.2.1.toNat := fun e => by subst e; omega
  rw [mrk_set hl, mrk_set hl, if_neg n1, if_neg n2]; exact h1
theorem gfit_set {b q : Nat} {y : Int} (hl : b < o.length) (hb : mrk o b < 0) (hq : 0 ≤ mrk o q) (h : GFit g o q) : GFit g (o.set b y) q := fun h0 => by
  have n1 : ¬ b = q := fun e => by subst e; omega
  rw [mrk_set hl, if_neg n1]; exact h h0
theorem SprIn.put {a j : Nat} {t : Tie} (hE : EdOk f c) (h : SprIn f c g o1 a j td o) (ht : (tiesOf (edges f c))[j]? = some t) (ha : t.1.toNat = a) (h0 : mrk o t.2.1.toNat < 0) : SprIn f c g o1 a (j + 1) (td ++ [t.2.1]) (o.set t.2.1.toNat (getI t.2.2 (mrk o a))) := by
  have hT := tieOk hE g t (List.mem_of_getElem? ht)
  have hl : t.2.1.toNat < o.length := by rw [h.inn.rng.1]; exact hT.b0.2
  have han : a < f.1.length := by rw [← ha]; exact hT.a0.2
  have hr := h.inn.rng.2 a han
  have hc := h.cur.1
  have hw := hT.rng (mrk o a) hc (by omega)
  have nab : ¬ t.2.1.toNat = a := fun e => by rw [e] at h0; omega
  refine ⟨h.inn.put hT.b0.2 (by omega) hw.1 hw.2 (fun k hk hA => ?_), fun b hb => ?_, fun q hq hm => ?_, ?_, gfit_set hl h0 hc h.cur.2.1, fun s hs he => ?_⟩
  · rw [hT.must k hk, ha, hA a han hc]
  · rw [List.mem_append] at hb
    rcases hb with hb | hb
    · have := h.tds b hb
      have n1 : ¬ t.2.1.toNat = b.toNat := fun e => by rw [e] at h0; omega
      rw [mrk_set hl, if_neg n1]; exact this
    · simp only [List.mem_singleton] at hb; subst hb
      rw [mrk_set hl, if_pos rfl]
      have := hT.b0
      exact ⟨this.1, by omega, hw.1⟩
  · by_cases e : t.2.1.toNat = q
    · left; subst e
      have := hT.b0
      rw [Int.toNat_of_nonneg this.1]; simp
    · rw [mrk_set hl, if_neg e] at hm
      rcases h.fit q hq hm with h1 | h1 | h1
      · left; simp [h1]
      · exact .inr (.inl h1)
      · exact .inr (.inr ⟨gfit_set hl h0 hm h1.1, tfit_set hl h0 hm h1.2⟩)
  · rw [mrk_set hl, if_neg nab]; exact hc
  · rw [take_snoc ht, List.mem_append] at hs
    rcases hs with hs | hs
    · exact tfit_set hl h0 hc h.cur.2.2 s hs he
    · simp only [List.mem_singleton] at hs; subst hs
      rw [mrk_set hl, mrk_set hl, if_pos rfl, if_neg nab]; exact ⟨hw.1, rfl⟩
theorem SprIn.done {a : Nat} (h : SprIn f c g o1 a (tiesOf (edges f c)).length td o) : Spr f c g o1 td o := by
  refine ⟨h.inn, h.tds, fun q hq hm => ?_⟩
  rcases h.fit q hq hm with h1 | h1 | h1
  · exact .inl h1
  · subst h1
    refine .inr ⟨h.cur.2.1, ?_⟩
    have := h.cur.2.2
    rwa [List.take_length] at this
  · exact .inr h1
theorem Spr.con (h : Spr f c g o1 [] o) (hE : EdOk f c) : ACon f c g o := by
  have key : ∀ q, q < f.1.length → 0 ≤ mrk o q → GFit g o q ∧ TFit (tiesOf (edges f c)) o q := fun q hq hm => by
    rcases h.fit q hq hm with h1 | h1
    · cases h1
    · exact h1
  have two : ∀ a b π, IsEd f c a b π → (0 ≤ mrk o a → 0 ≤ mrk o b ∧ mrk o b = getI π (mrk o a)) ∧ (0 ≤ mrk o b → 0 ≤ mrk o a) := fun a b π he => by
    have h1 := hE.inn _ (mem_edges.2 he)
    have h2 := ties_all he
    refine ⟨fun hm => ?_, fun hm => ?_⟩
    · have := (key a h1.1 hm).2 _ h2.1 (by dsimp only; rw [Int.toNat_natCast])
      dsimp only at this
      rwa [Int.toNat_natCast] at this
    · have := (key b h1.2 hm).2 _ h2.2 (by dsimp only; rw [Int.toNat_natCast])
      dsimp only at this
      rw [Int.toNat_natCast] at this
      exact this.1
  exact ⟨fun a b π he => ⟨fun hm => ((two a b π he).1 hm).1, (two a b π he).2⟩, fun a b π he hm => ((two a b π he).1 hm).2, fun p hp hg hm => ((key p hp hm).1 hg).symm⟩

/-- One link of the reference. -/
def linkR (m : List Int) (e : Ed) : Bool × List Int :=
  if 0 ≤ mrk m e.1 then (if mrk m e.2.1 < 0 then (true, m.set e.2.1 (getI e.2.2 (mrk m e.1))) else (decide (mrk m e.2.1 = getI e.2.2 (mrk m e.1)), m))
  else if 0 ≤ mrk m e.2.1 then (true, m.set e.1 (getI (inv e.2.2) (mrk m e.2.1))) else (true, m)
def EFix (o : List Int) (e : Ed) : Prop := (0 ≤ mrk o e.1 ↔ 0 ≤ mrk o e.2.1) ∧ (0 ≤ mrk o e.1 → mrk o e.2.1 = getI e.2.2 (mrk o e.1))
def AFix (f : Fam) (c : Cls) (o : List Int) : Prop := ∀ e ∈ edges f c, EFix o e
structure Ar (f : Fam) (c : Cls) (g o1 o' : List Int) (D : List Ed) (o : List Int) : Prop where
  inn : AInn f c g o1 o
  cnt : unm f.1.length o ≤ unm f.1.length o'
  same : unm f.1.length o = unm f.1.length o' → ∀ e ∈ D, EFix o e
  fix : AFix f c o' → o = o'
structure AHr (f : Fam) (c : Cls) (g o1 : List Int) (r : Nat) (o : List Int) : Prop where
  inn : AInn f c g o1 o
  far : AFix f c o ∨ unm f.1.length o + r ≤ f.1.length
theorem AHr.start (h : ARng f c o) : AHr f c g o 0 o := ⟨AInn.start h, .inr (by have := unm_le f.1.length o; omega)⟩
theorem AHr.fixed {r : Nat} (h : AHr f c g o1 r o) (hr : f.1.length < r) : AFix f c o := by
  rcases h.far with h | h
  · exact h
  · omega
theorem Ar.start (h : AInn f c g o1 o) : Ar f c g o1 o [] o := ⟨h, Nat.le_refl _, (fun _ e he => by cases he), fun _ => rfl⟩
theorem Ar.round {o' : List Int} {r : Nat} (h : Ar f c g o1 o' (edges f c) o) (hr : AHr f c g o1 r o') : AHr f c g o1 (r + 1) o := by
  refine ⟨h.inn, ?_⟩
  rcases hr.far with hf | hf
  · left; rw [h.fix hf]; exact hf
  · by_cases e : unm f.1.length o = unm f.1.length o'
    · left; exact h.same e
    · right; have := h.cnt; omega
theorem Ar.step {o' : List Int} {D : List Ed} {e : Ed} (hE : EdOk f c) (h : Ar f c g o1 o' D o) (he : e ∈ edges f c) (ht : (linkR o e).1 = true) : Ar f c g o1 o' (D ++ [e]) (linkR o e).2 := by
  obtain ⟨h1, h2⟩ := hE.inn e he
  have hb := hE.bij e he
  have hra := h.inn.rng.2 _ h1
  have hrb := h.inn.rng.2 _ h2
  have hcnt := h.cnt
  have keep : EFix o e → Ar f c g o1 o' (D ++ [e]) o := fun hf => by
    refine ⟨h.inn, h.cnt, fun e2 d hd => ?_, h.fix⟩
    rw [List.mem_append] at hd
    rcases hd with hd | hd
    · exact h.same e2 d hd
    · simp only [List.mem_singleton] at hd; subst hd; exact hf
  unfold linkR at ht ⊢
  by_cases ca : 0 ≤ mrk o e.1
  · rw [if_pos ca] at ht ⊢
    by_cases cb : mrk o e.2.1 < 0
    · rw [if_pos cb]
      have hw := hb.rng _ ca (by omega)
      have hc := unm_set h2 h.inn.rng.1 cb hw.1
      refine ⟨h.inn.put h2 (by omega) hw.1 hw.2 (fun k hk hA => ?_), by dsimp only; omega, fun e2 => by dsimp only at e2; omega, fun hf => ?_⟩
      · rw [hk.edge he, hA _ h1 ca]
      · have e2 := h.fix hf
        have := (hf e he).1
        rw [← e2] at this
        omega
    · rw [if_neg cb] at ht ⊢
      exact keep ⟨by omega, fun _ => of_decide_eq_true ht⟩
  · rw [if_neg ca]
    by_cases cb : 0 ≤ mrk o e.2.1
    · rw [if_pos cb]
      have hw := hb.rng' _ cb (by omega)
      have hc := unm_set h1 h.inn.rng.1 (by omega) hw.1
      refine ⟨h.inn.put h1 (by omega) hw.1 hw.2 (fun k hk hA => ?_), by dsimp only; omega, fun e2 => by dsimp only at e2; omega, fun hf => ?_⟩
      · have e3 := hA _ h2 cb
        have e4 := hk.rng e.1 h1
        rw [hk.edge he] at e3
        rw [← e3]; exact (hb.one _ e4.1 e4.2).symm
      · have e2 := h.fix hf
        have := (hf e he).1
        rw [← e2] at this
        omega
    · rw [if_neg cb]
      exact keep ⟨by omega, fun h => (ca h).elim⟩
theorem Ar.bad {o' : List Int} {D : List Ed} {e : Ed} (hE : EdOk f c) (h : Ar f c g o1 o' D o) (he : e ∈ edges f c) (ht : (linkR o e).1 = false) : ¬ ∃ k, AVal f c g k ∧ Agr f.1.length k o1 := fun ⟨k, hk, hA⟩ => by
  obtain ⟨h1, h2⟩ := hE.inn e he
  have hB := h.inn.forced k hk hA
  unfold linkR at ht
  by_cases ca : 0 ≤ mrk o e.1
  · rw [if_pos ca] at ht
    by_cases cb : mrk o e.2.1 < 0
    · rw [if_pos cb] at ht; cases ht
    · rw [if_neg cb] at ht
      have ht := of_decide_eq_false ht
      have e1 := hB _ h1 ca
      have e2 := hB _ h2 (by omega)
      have e3 := hk.edge he
      rw [e1] at e3
      omega
  · rw [if_neg ca] at ht
    by_cases cb : 0 ≤ mrk o e.2.1
    · rw [if_pos cb] at ht; cases ht
    · rw [if_neg cb] at ht; cases ht
theorem linkR_len (m : List Int) (e : Ed) : (linkR m e).2.length = m.length := by
  unfold linkR
  split
  · split
    · simp
    · rfl
  · split
    · simp
    · rfl
/-- What is given is marked. -/
def GIn (f : Fam) (g o : List Int) : Prop := ∀ q, q < f.1.length → 0 ≤ mrk g q → 0 ≤ mrk o q ∧ mrk o q = mrk g q
theorem GIn.inn {o' : List Int} (h : GIn f g o) (hI : AInn f c g o o') : GIn f g o' := fun q hq h0 => by
  have h1 := h q hq h0
  rw [hI.stay q hq h1.1]; exact h1
theorem GIn.set (h : GIn f g o) {p : Nat} (hp : p < o.length) (hm : ¬ 0 ≤ mrk o p) (y : Int) : GIn f g (o.set p y) := fun q hq h0 => by
  have h1 := h q hq h0
  have e : ¬ p = q := fun e => hm (e ▸ h1.1)
  rw [mrk_set hp, if_neg e]; exact h1
theorem AFix.con (h : AFix f c o) (hg : GIn f g o) : ACon f c g o :=
  ⟨fun a b π he => (h _ (mem_edges.2 he)).1, fun a b π he hm => (h _ (mem_edges.2 he)).2 hm, fun p hp h0 _ => (hg p hp h0).2⟩
/-- The first spread of the reference. -/
theorem AOut.first (hI : AInn f c g g o) (hf : AFix f c o) : AOut f c g 0 o := by
  have hg : GIn f g g := fun q hq h0 => ⟨h0, rfl⟩
  exact ⟨hI.rng, fun q hq => by omega, fun q hq => by omega, fun h hv _ => hI.forced h hv (fun q hq h0 => hv.giv q hq h0), hf.con (hg.inn hI)⟩
theorem first_none (hn : ¬ ∃ k, AVal f c g k ∧ Agr f.1.length k g) : ¬ ∃ k, AVal f c g k := fun ⟨k, hk⟩ => hn ⟨k, hk, fun q hq h0 => hk.giv q hq h0⟩
end
end Go.Proofs.Ytomigopkejlmcaa
