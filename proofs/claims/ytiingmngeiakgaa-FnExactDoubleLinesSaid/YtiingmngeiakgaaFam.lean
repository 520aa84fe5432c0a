/- Plain: what a family is, and when it is valid. -/
import Derived.Test.YtiingmngeiakgaaStr
namespace Go.Proofs.Ytiingmngeiakgaa
set_option linter.unusedVariables false
set_option linter.unusedSimpArgs false
open Go.RowKit

/-- A person: name, sex, father, mother, born, died. A union: man, woman, from, tl. -/
abbrev Per := ByteArray × Int × Int × Int × Int × Int
abbrev Uni := Int × Int × Int × Int
abbrev Fam := List Per × List Uni

def letters (s : List UInt8) : Bool := s.all fun c => decide (97 ≤ c.toNat ∧ c.toNat ≤ 122)
def nameOk (s : ByteArray) : Bool := decide (1 ≤ s.size ∧ s.size ≤ 12) && letters s.data.toList

def upC (ps : List Per) (born q sex late : Int) : Bool :=
  match ps[q.toNat]? with
  | some (_, sx, _, _, bo, di) => decide (sx = sex) && (decide (bo < born) && decide (di = -1 ∨ born ≤ di + late))
  | none => false
def upOk (ps : List Per) (i : Nat) (born q sex late : Int) : Bool := decide (q = -1) || (decide (0 ≤ q ∧ q < i) && upC ps born q sex late)

def perC (ps : List Per) (i : Nat) : Per → Bool
  | (nm, sx, fa, mo, bo, di) => nameOk nm && (decide (sx = 1 ∨ sx = 2) && (decide (0 ≤ bo ∧ bo ≤ 9999) && (decide (di = -1 ∨ (bo ≤ di ∧ di ≤ 9999)) && (!decide (nm ∈ (ps.take i).map (·.1)) && (upOk ps i bo fa 1 1 && upOk ps i bo mo 2 0)))))
def perOk (ps : List Per) (i : Nat) : Bool := match ps[i]? with | some p => perC ps i p | none => false

def dep1 (out : List Int) (q : Int) : Int := if 0 ≤ q then out.getD q.toNat 0 + 1 else 0
def depOf (out : List Int) (fa mo : Int) : Int := max (dep1 out fa) (dep1 out mo)
def deps (ps : List Per) : List Int := ps.foldl (fun out p => out ++ [depOf out p.2.2.1 p.2.2.2.1]) []
def depOk (ps : List Per) : Bool := (deps ps).all fun d => decide (d ≤ 10)

def liveOk (di fr tl : Int) : Bool := decide (di = -1 ∨ (fr ≤ di ∧ (tl = -1 ∨ tl ≤ di)))
def uniP (a b : Per) (fr tl : Int) : Bool :=
  match a, b with
  | (_, sa, _, _, ba, da), (_, sb, _, _, bb, db) => decide (sa = 1 ∧ sb = 2) && (decide (fr ≤ 9999 ∧ ba ≤ fr ∧ bb ≤ fr) && (decide (tl = -1 ∨ (fr ≤ tl ∧ tl ≤ 9999)) && (liveOk da fr tl && liveOk db fr tl)))
def uniC (f : Fam) (k : Nat) : Uni → Bool
  | (m, wo, fr, tl) => decide ((0 ≤ m ∧ m < f.1.length) ∧ (0 ≤ wo ∧ wo < f.1.length)) &&
      ((match f.1[m.toNat]?, f.1[wo.toNat]? with | some a, some b => uniP a b fr tl | _, _ => false) && !decide ((m, wo) ∈ (f.2.take k).map fun v => (v.1, v.2.1)))
def uniOk (f : Fam) (k : Nat) : Bool := match f.2[k]? with | some u => uniC f k u | none => false

def famB (f : Fam) : Bool := decide (f.1.length ≤ 40 ∧ f.2.length ≤ 60) && ((List.range f.1.length).all (perOk f.1) && (depOk f.1 && (List.range f.2.length).all (uniOk f)))

theorem all_range {g : Nat → Bool} {n : Nat} : (List.range n).all g = true ↔ ∀ i, i < n → g i = true := by
  rw [List.all_eq_true]
  exact ⟨fun h i hi => h i (List.mem_range.2 hi), fun h i hi => h i (List.mem_range.1 hi)⟩
theorem all_range_false {g : Nat → Bool} {n i : Nat} (hi : i < n) (h : g i = false) : (List.range n).all g = false := by
  cases hh : (List.range n).all g
  · rfl
  · have := all_range.1 hh i hi; rw [h] at this; cases this

/-- What is known of the persons before i. -/
def PplTo (ps : List Per) (i : Nat) : Prop := ∀ k, k < i → perOk ps k = true

theorem perOk_at {ps : List Per} {i : Nat} {p : Per} (h : ps[i]? = some p) : perOk ps i = perC ps i p := by unfold perOk; rw [h]

theorem perC_facts {ps : List Per} {i : Nat} {nm : ByteArray} {sx fa mo bo di : Int} (h : perC ps i (nm, sx, fa, mo, bo, di) = true) :
    (sx = 1 ∨ sx = 2) ∧ (0 ≤ bo ∧ bo ≤ 9999) ∧ (di = -1 ∨ (bo ≤ di ∧ di ≤ 9999)) ∧ (fa = -1 ∨ (0 ≤ fa ∧ fa < i)) ∧ (mo = -1 ∨ (0 ≤ mo ∧ mo < i)) ∧ nameOk nm = true ∧ nm ∉ (ps.take i).map (·.1) := by
  simp only [perC, upOk, Bool.and_eq_true, Bool.or_eq_true, decide_eq_true_eq, Bool.not_eq_true', decide_eq_false_iff_not] at h
  obtain ⟨h1, h2, h3, h4, h5, h6, h7⟩ := h
  refine ⟨h2, h3, h4, ?_, ?_, h1, h5⟩
  · rcases h6 with h | h
    · exact .inl h
    · exact .inr h.1
  · rcases h7 with h | h
    · exact .inl h
    · exact .inr h.1
theorem PplTo.at {ps : List Per} {n i : Nat} (h : PplTo ps n) (hi : i < n) {nm : ByteArray} {sx fa mo bo di : Int} (hp : ps[i]? = some (nm, sx, fa, mo, bo, di)) :
    (sx = 1 ∨ sx = 2) ∧ (0 ≤ bo ∧ bo ≤ 9999) ∧ (di = -1 ∨ (bo ≤ di ∧ di ≤ 9999)) ∧ (fa = -1 ∨ (0 ≤ fa ∧ fa < i)) ∧ (mo = -1 ∨ (0 ≤ mo ∧ mo < i)) ∧ nameOk nm = true ∧ nm ∉ (ps.take i).map (·.1) :=
  perC_facts (by rw [← perOk_at hp]; exact h i hi)

theorem deps_snoc (ps : List Per) (p : Per) : deps (ps ++ [p]) = deps ps ++ [depOf (deps ps) p.2.2.1 p.2.2.2.1] := by
  unfold deps; rw [List.foldl_append]; rfl
theorem deps_len (ps : List Per) : (deps ps).length = ps.length := by
  have : ∀ (l : List Per) (o : List Int), (l.foldl (fun out p => out ++ [depOf out p.2.2.1 p.2.2.2.1]) o).length = o.length + l.length := by
    intro l
    induction l with
    | nil => intro o; rfl
    | cons a l ih => intro o; rw [List.foldl_cons, ih]; simp; omega
  have := this ps []
  simpa [deps] using this
theorem dep1_bd {out : List Int} {n : Nat} (h : ∀ d ∈ out, 0 ≤ d ∧ d ≤ n) (q : Int) : 0 ≤ dep1 out q ∧ dep1 out q ≤ (n : Int) + 1 := by
  unfold dep1; split
  · have : 0 ≤ out.getD q.toNat 0 ∧ out.getD q.toNat 0 ≤ n := by
      rw [List.getD_eq_getElem?_getD]
      cases e : out[q.toNat]? with
      | none => simp
      | some d => exact h d (List.mem_of_getElem? e)
    omega
  · omega
theorem deps_bd (ps : List Per) : ∀ i, i ≤ ps.length → ∀ d ∈ deps (ps.take i), 0 ≤ d ∧ d ≤ (i : Int)
  | 0, _ => fun d hd => by simp [deps] at hd
  | i + 1, hi => by
    have hx : ps[i]? = some ps[i] := List.getElem?_eq_getElem (by omega)
    have e : ps.take (i + 1) = ps.take i ++ [ps[i]] := take_snoc hx
    rw [e, deps_snoc]
    have ih := deps_bd ps i (by omega)
    intro d hd
    rcases List.mem_append.1 hd with hd | hd
    · have := ih d hd; omega
    · simp only [List.mem_singleton] at hd
      have h1 := dep1_bd (n := i) ih ps[i].2.2.1
      have h2 := dep1_bd (n := i) ih ps[i].2.2.2.1
      rw [hd]; unfold depOf; omega
end Go.Proofs.Ytiingmngeiakgaa
