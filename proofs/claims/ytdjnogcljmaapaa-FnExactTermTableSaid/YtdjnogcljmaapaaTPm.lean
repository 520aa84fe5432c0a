/- Plain: how kin types change classes. -/
import Derived.Test.YtdjnogcljmaapaaIdn
import Derived.Test.YtdjnogcljmaapaaKin
import Derived.Test.YtdjnogcljmaapaaPerm3
namespace Go.Proofs.Ytdjnogcljmaapaa
set_option linter.unusedVariables false
set_option linter.unusedSimpArgs false
open Go.RowKit

def getP (p : List Int) (x : Int) : Int := p.getD x.toNat 0
def stepPm (c : Cls) (k sex : Int) : List Int :=
  if k = 1 then inv c.2 else if k = 2 then comp (inv c.2) c.1 else if k = 5 ∨ k = 6 then (if sex = 1 then c.2 else comp (inv c.1) c.2) else if k = 7 then inv c.1 else if k = 8 then c.1 else idL c.1.length
def tpGo (c : Cls) : Int → List Int → List Stp → List Int
  | _, o, [] => o
  | sex, o, s :: l => tpGo c (stSex s.1) (comp o (stepPm c s.1 sex)) l
def atGo (c : Cls) : Int → Int → List Stp → Int
  | _, x, [] => x
  | sex, x, s :: l => atGo c (stSex s.1) (getP (stepPm c s.1 sex) x) l
def typePm (c : Cls) (t : Kin) : List Int := tpGo c (egoOf t) (idL c.1.length) t.2
def tpV (c : Cls) (t : Kin) : Bool := isCls c && (isKin t && !decide (0 < t.2.length ∧ egoOf t = 0))
def tpX (c : Cls) (t : Kin) : List Int := if tpV c t = true then typePm c t else []

theorem tpGo_at (c : Cls) : ∀ (l : List Stp) (sex : Int) (o : List Int), tpGo c sex o l = o.map fun x => atGo c sex x l
  | [], _, o => by simp [tpGo, atGo]
  | s :: l, sex, o => by
    rw [tpGo, tpGo_at c l]
    simp only [comp, List.map_map]
    rfl
theorem typePm_at (c : Cls) (t : Kin) : typePm c t = (idL c.1.length).map fun x => atGo c (egoOf t) x t.2 := tpGo_at c _ _ _
theorem idL_range (n : Nat) : InRange n (idL n) := fun x hx => by
  simp only [idL, List.mem_map, List.mem_range] at hx
  obtain ⟨i, hi, rfl⟩ := hx
  omega
theorem getP_some {p : List Int} {x : Int} (h0 : 0 ≤ x) (h1 : x < p.length) : p[x.toNat]? = some (getP p x) := by
  have hl : x.toNat < p.length := by omega
  simp [getP, List.getD_eq_getElem?_getD, List.getElem?_eq_getElem hl]
theorem getP_in {n : Nat} {p : List Int} (h : InRange n p) {x : Int} (h0 : 0 ≤ x) (h1 : x < p.length) : 0 ≤ getP p x ∧ getP p x < n := h _ (List.mem_of_getElem? (getP_some h0 h1))
theorem getP_of {p : List Int} {j : Nat} {x : Int} (h : p[j]? = some x) : getP p (j : Int) = x := by simp [getP, List.getD_eq_getElem?_getD, h]
theorem comp_range {n : Nat} {p q : List Int} (hp : InRange q.length p) (hq : InRange n q) : InRange n (comp p q) := fun x hx => by
  simp only [comp, List.mem_map] at hx
  obtain ⟨y, hy, rfl⟩ := hx
  have := hp y hy
  exact getP_in hq this.1 this.2
/-- A permutation among the classes. -/
structure POk (n : Nat) (p : List Int) : Prop where
  len : p.length = n
  rng : InRange n p
theorem POk.comp {n : Nat} {p q : List Int} (hp : POk n p) (hq : POk n q) : POk n (comp p q) := ⟨by rw [comp_len]; exact hp.len, comp_range (by rw [hq.len]; exact hp.rng) hq.rng⟩
theorem POk.inv {n : Nat} {p : List Int} (h : p.length = n) : POk n (inv p) := ⟨by rw [inv_len]; exact h, by rw [← h]; exact inv_range⟩
theorem cls_ok {c : Cls} (h : isCls c = true) : (1 ≤ c.1.length ∧ c.1.length ≤ 8) ∧ c.2.length = c.1.length ∧ isPerm c.1 = true ∧ isPerm c.2 = true ∧ POk c.1.length c.1 ∧ POk c.1.length c.2 := by
  simp only [isCls, Bool.and_eq_true, decide_eq_true_eq] at h
  obtain ⟨⟨⟨h1, h2, h3⟩, h4⟩, h5⟩ := h
  exact ⟨⟨h1, h2⟩, h3, h4, h5, ⟨rfl, isPerm_range h4⟩, ⟨h3, by rw [← h3]; exact isPerm_range h5⟩⟩
theorem stepPm_ok {c : Cls} (h : isCls c = true) (k sex : Int) : POk c.1.length (stepPm c k sex) := by
  obtain ⟨-, hl, -, -, h1, h2⟩ := cls_ok h
  unfold stepPm
  split
  · exact POk.inv hl
  split
  · exact (POk.inv hl).comp h1
  split
  · split
    · exact h2
    · exact (POk.inv rfl).comp h2
  split
  · exact POk.inv rfl
  split
  · exact h1
  · exact ⟨by simp [idL], idL_range _⟩
theorem tpX_len (c : Cls) (t : Kin) : (tpX c t).length ≤ 8 := by
  unfold tpX
  split
  · rename_i h
    have hc : isCls c = true := by simp only [tpV, Bool.and_eq_true] at h; exact h.1
    rw [typePm_at, List.length_map]
    have := (cls_ok hc).1
    simp [idL]; omega
  · simp
theorem sexAt_succ {t : Kin} {i : Nat} {s : Stp} (h : t.2[i]? = some s) : sexAt t (i + 1) = stSex s.1 := by simp [sexAt, h]
end Go.Proofs.Ytdjnogcljmaapaa
