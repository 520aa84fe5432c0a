/- Texts laid one behind the other (merge.py): Kin, TPm, TyStep, KinH, Typs. -/
import Derived.Test.YtlnhhfebmeekhaaLib
import Derived.Test.YtlnhhfebmeekhaaZ10C
import Derived.Test.YtlnhhfebmeekhaaZ10G
import Derived.Test.YtlnhhfebmeekhaaZ10A
import Derived.Test.YtlnhhfebmeekhaaZ10B
namespace Go.Proofs.Ytlnhhfebmeekhaa
set_option linter.unusedVariables false
set_option linter.unusedSimpArgs false
open Go.RowKit

/-! ### Kin -/
section

/-- A step: kind, age. A kin type: sex of ego, steps. -/
abbrev Stp := Int × Int
abbrev Kin := Int × List Stp
instance decEqStps : DecidableEq (List Stp) := fun a b => instDecidableEqList a b
instance decEqKin : DecidableEq (Int × List Stp) := instDecidableEqProd

def stSex (k : Int) : Int := if k.tmod 2 = 1 then 1 else 2
def stFits (s : Stp) (sex : Int) : Bool := decide (1 ≤ s.1 ∧ s.1 ≤ 8) && (decide (0 ≤ s.2 ∧ s.2 ≤ 2) && (decide (s.2 = 0 ∨ s.1 = 3 ∨ s.1 = 4) && !decide (s.1 = 7 ∧ sex = 1 ∨ s.1 = 8 ∧ sex = 2)))
def kinGo : Int → List Stp → Bool
  | _, [] => true
  | sex, s :: l => stFits s sex && kinGo (stSex s.1) l
def isKin (t : Kin) : Bool := decide (0 ≤ t.1 ∧ t.1 ≤ 2) && (decide (t.2.length ≤ 8) && kinGo t.1 t.2)
/-- The sex of the person at whom a step is made (0: any), the relative's sex. -/
def egoOf (t : Kin) : Int := if t.1 = 0 then (match t.2 with | s :: _ => if s.1 = 7 then 2 else if s.1 = 8 then 1 else 0 | [] => 0) else t.1
def sexAt (t : Kin) : Nat → Int
  | 0 => egoOf t
  | i + 1 => match t.2[i]? with | some s => stSex s.1 | none => 0
def sexOf (t : Kin) : Int := match t.2.getLast? with | some s => stSex s.1 | none => t.1

theorem stFits_facts {s : Stp} {sex : Int} (h : stFits s sex = true) : (1 ≤ s.1 ∧ s.1 ≤ 8) ∧ (0 ≤ s.2 ∧ s.2 ≤ 2) ∧ (s.2 = 0 ∨ s.1 = 3 ∨ s.1 = 4) ∧ ¬ (s.1 = 7 ∧ sex = 1 ∨ s.1 = 8 ∧ sex = 2) := by
  simp only [stFits, Bool.and_eq_true, decide_eq_true_eq, Bool.not_eq_true', decide_eq_false_iff_not] at h
  exact h
theorem kinGo_mem : ∀ {l : List Stp} {sex : Int}, kinGo sex l = true → ∀ s ∈ l, (1 ≤ s.1 ∧ s.1 ≤ 8) ∧ (0 ≤ s.2 ∧ s.2 ≤ 2)
  | s :: l, sex, h, x, hx => by
    rw [kinGo, Bool.and_eq_true] at h
    rcases List.mem_cons.1 hx with rfl | hx
    · have := stFits_facts h.1; exact ⟨this.1, this.2.1⟩
    · exact kinGo_mem h.2 x hx
theorem isKin_facts {t : Kin} (h : isKin t = true) : (0 ≤ t.1 ∧ t.1 ≤ 2) ∧ t.2.length ≤ 8 ∧ kinGo t.1 t.2 = true ∧ ∀ s ∈ t.2, (1 ≤ s.1 ∧ s.1 ≤ 8) ∧ (0 ≤ s.2 ∧ s.2 ≤ 2) := by
  simp only [isKin, Bool.and_eq_true, decide_eq_true_eq] at h
  exact ⟨h.1, h.2.1, h.2.2, kinGo_mem h.2.2⟩
theorem stSex_in (k : Int) : stSex k = 1 ∨ stSex k = 2 := by unfold stSex; split <;> simp

end

/-! ### TPm -/
section

def getP (p : List Int) (x : Int) : Int := p.getD x.toNat 0
def stepPm (c : Cls) (k sex : Int) : List Int :=
  if k = 1 then inv c.2 else if k = 2 then comp (inv c.2) c.1 else if k = 5 ∨ k = 6 then (if sex = 1 then c.2 else comp (inv c.1) c.2) else if k = 7 then inv c.1 else if k = 8 then c.1 else idL c.1.length
def tpGo (c : Cls) : Int → List Int → List Stp → List Int
  | _, o, [] => o
  | sex, o, s :: l => tpGo c (stSex s.1) (comp o (stepPm c s.1 sex)) l
def atGo (c : Cls) : Int → Int → List Stp → Int
  | _, x, [] => x
  | sex, x, s :: l => atGo c (stSex s.1) (getP (stepPm c s.1 sex) x) l
def typePm (c : Cls) (t : Kin) : List Int := tpGo c (egoOf t) (idL c.1.length) t.2
def tpV (c : Cls) (t : Kin) : Bool := isCls c && (isKin t && !decide (0 < t.2.length ∧ egoOf t = 0))
def tpX (c : Cls) (t : Kin) : List Int := if tpV c t = true then typePm c t else []

theorem tpGo_at (c : Cls) : ∀ (l : List Stp) (sex : Int) (o : List Int), tpGo c sex o l = o.map fun x => atGo c sex x l
  | [], _, o => by simp [tpGo, atGo]
  | s :: l, sex, o => by
    rw [tpGo, tpGo_at c l]
    simp only [comp, List.map_map]
    rfl
theorem typePm_at (c : Cls) (t : Kin) : typePm c t = (idL c.1.length).map fun x => atGo c (egoOf t) x t.2 := tpGo_at c _ _ _
theorem idL_range (n : Nat) : InRange n (idL n) := fun x hx => by
  simp only [idL, List.mem_map, List.mem_range] at hx
  obtain ⟨i, hi, rfl⟩ := hx
  omega
theorem getP_some {p : List Int} {x : Int} (h0 : 0 ≤ x) (h1 : x < p.length) : p[x.toNat]? = some (getP p x) := by
  have hl : x.toNat < p.length := by omega
  simp [getP, List.getD_eq_getElem?_getD, List.getElem?_eq_getElem hl]
theorem getP_in {n : Nat} {p : List Int} (h : InRange n p) {x : Int} (h0 : 0 ≤ x) (h1 : x < p.length) : 0 ≤ getP p x ∧ getP p x < n := h _ (List.mem_of_getElem? (getP_some h0 h1))
theorem getP_of {p : List Int} {j : Nat} {x : Int} (h : p[j]? = some x) : getP p (j : Int) = x := by simp [getP, List.getD_eq_getElem?_getD, h]
theorem comp_range {n : Nat} {p q : List Int} (hp : InRange q.length p) (hq : InRange n q) : InRange n (comp p q) := fun x hx => by
  simp only [comp, List.mem_map] at hx
  obtain ⟨y, hy, rfl⟩ := hx
  have := hp y hy
  exact getP_in hq this.1 this.2
/-- A permutation among the classes. -/
structure POk (n : Nat) (p : List Int) : Prop where
  len : p.length = n
  rng : InRange n p
theorem POk.comp {n : Nat} {p q : List Int} (hp : POk n p) (hq : POk n q) : POk n (comp p q) := ⟨by rw [comp_len]; exact hp.len, comp_range (by rw [hq.len]; exact hp.rng) hq.rng⟩
theorem POk.inv {n : Nat} {p : List Int} (h : p.length = n) : POk n (inv p) := ⟨by rw [inv_len]; exact h, by rw [← h]; exact inv_range⟩
theorem cls_ok {c : Cls} (h : isCls c = true) : (1 ≤ c.1.length ∧ c.1.length ≤ 8) ∧ c.2.length = c.1.length ∧ isPerm c.1 = true ∧ isPerm c.2 = true ∧ POk c.1.length c.1 ∧ POk c.1.length c.2 := by
  simp only [isCls, Bool.and_eq_true, decide_eq_true_eq] at h
  obtain ⟨⟨⟨h1, h2, h3⟩, h4⟩, h5⟩ := h
  exact ⟨⟨h1, h2⟩, h3, h4, h5, ⟨rfl, isPerm_range h4⟩, ⟨h3, by rw [← h3]; exact isPerm_range h5⟩⟩
theorem stepPm_ok {c : Cls} (h : isCls c = true) (k sex : Int) : POk c.1.length (stepPm c k sex) := by
  obtain ⟨-, hl, -, -, h1, h2⟩ := cls_ok h
  unfold stepPm
  split
  · exact POk.inv hl
  split
  · exact (POk.inv hl).comp h1
  split
  · split
    · exact h2
    · exact (POk.inv rfl).comp h2
  split
  · exact POk.inv rfl
  split
  · exact h1
  · exact ⟨by simp [idL], idL_range _⟩
theorem tpX_len (c : Cls) (t : Kin) : (tpX c t).length ≤ 8 := by
  unfold tpX
  split
  · rename_i h
    have hc : isCls c = true := by simp only [tpV, Bool.and_eq_true] at h; exact h.1
    rw [typePm_at, List.length_map]
    have := (cls_ok hc).1
    simp [idL]; omega
  · simp
theorem sexAt_succ {t : Kin} {i : Nat} {s : Stp} (h : t.2[i]? = some s) : sexAt t (i + 1) = stSex s.1 := by simp [sexAt, h]

end

/-! ### TyStep -/
section

theorem slStep : SlTy Try.prog 51 83 (.agg #[.int .i64 0, .int .i64 0]) 2 16 := SlTy.of Try.underlying51 (by kernel_rfl) rfl
theorem repStp_inv {z : Bool} {w : World} {cs : List Value} {ki : Int} {ag : Int} {fp : List Nat} (h : Rep.rep z w cs ((ki, ag) : Stp) fp) : cs = [.int .i64 ki, .int .i64 ag] ∧ I64 ki ∧ I64 ag ∧ fp = [] := by
  obtain ⟨_, _, _, _, rfl, rfl, ⟨rfl, h0, rfl⟩, ⟨rfl, h1, rfl⟩⟩ := h
  exact ⟨rfl, h0, h1, rfl⟩
theorem repStp_mk {z : Bool} {w : World} {ki : Int} {ag : Int} (h0 : I64 ki) (h1 : I64 ag) : Rep.rep z w [.int .i64 ki, .int .i64 ag] ((ki, ag) : Stp) [] :=
  ⟨[_], _, [], [], rfl, rfl, ⟨rfl, h0, rfl⟩, ⟨rfl, h1, rfl⟩⟩
theorem Rd.stp_at {z : Bool} {lo hi : Nat} {w : World} {xs : List Stp} {ao : Option Addr} {n cap : Nat} (h : Rd z lo hi w [.slice ao n cap] xs) {i : Nat} (hi' : i < n) :
    ∃ (b off : Nat) (ki : Int) (ag : Int), ao = some ⟨b, off, none⟩ ∧ Hid (xs[i]? = some (ki, ag)) ∧ w.cell? ⟨b, off + i * 2, none⟩ = some (.int .i64 ki) ∧ w.cell? ⟨b, off + i * 2 + 1, none⟩ = some (.int .i64 ag) ∧ I64 ki ∧ I64 ag ∧ lo ≤ b ∧ b < hi ∧ b < w.heap.size ∧ (z = true → ∀ o, w.frozen? ⟨b, o, none⟩ = false) := by
  obtain ⟨b, off, ⟨ki, ag⟩, cs, e, hx, ⟨fp, hr, _⟩, _, g1, g2, g3, hc, hf⟩ := h.at hi'
  obtain ⟨rfl, h0, h1, -⟩ := repStp_inv hr
  refine ⟨b, off, ki, ag, e, hx, ?_, ?_, h0, h1, g1, g2, g3, hf⟩
  · have := hc 0 (.int .i64 ki) rfl; simpa [Rep.sz, Nat.add_assoc] using this
  · have := hc 1 (.int .i64 ag) rfl; simpa [Rep.sz, Nat.add_assoc] using this

theorem Ow.stp_put {lo hi : Nat} {w : World} {xs : List Stp} {b off n cap : Nat} (h : Ow lo hi w [.slice (some ⟨b, off, none⟩) n cap] xs) {i : Nat} (hi' : i < n) {ki : Int} {ag : Int} (h0 : I64 ki) (h1 : I64 ag) :
    Ow lo hi ((w.setCell ⟨b, off + i * 2, none⟩ (.int .i64 ki)).setCell ⟨b, off + i * 2 + 1, none⟩ (.int .i64 ag)) [.slice (some ⟨b, off, none⟩) n cap] (xs.set i (ki, ag)) := by
  obtain ⟨b', off', ki0, ag0, e, hx, -, -, g0, g1, -, -, -, -⟩ := h.rd.stp_at hi'
  have hx := hx.out
  have hl : i < xs.length := (List.getElem?_eq_some_iff.1 hx).1
  have s1 := Ow.setc h (i := i) (j := 0) (x := (ki0, ag0)) (y := (ki, ag0)) (u := .int .i64 ki) (w' := w) hx (repStp_mk g0 g1) (by show 0 < 2; omega) (repStp_mk h0 g1)
  have e1 : (xs.set i (ki, ag0))[i]? = some (ki, ag0) := by simp [hl]
  have s2 := Ow.setc s1 (i := i) (j := 1) (x := (ki, ag0)) (y := (ki, ag)) (u := .int .i64 ag) (w' := w) e1 (repStp_mk h0 g1) (by show 1 < 2; omega) (repStp_mk h0 h1)
  rw [List.set_set] at s2
  have e2 : (xs.set i (ki, ag))[i]? = some (ki, ag) := by simp [hl]
  simpa [Rep.sz, Nat.add_assoc] using s2



end

/-! ### KinH -/
section

theorem Rd.kin {z : Bool} {lo hi : Nat} {w : World} {a b : Value} {t : Kin} (h : Rd z lo hi w [a, b] t) : a = .int .i64 t.1 ∧ I64 t.1 ∧ Rd z lo hi w [b] t.2 := by
  obtain ⟨fp, ⟨c1, c2, f1, f2, e, rfl, ⟨rfl, hI, rfl⟩, h2⟩, hz⟩ := h
  simp only [List.cons_append, List.nil_append, List.cons.injEq] at e
  obtain ⟨rfl, rfl⟩ := e
  exact ⟨rfl, hI, f2, h2, by simpa using hz⟩
theorem shapeKin {z : Bool} {lo hi : Nat} {w : World} {a b : Value} {t : Kin} (h : Rd z lo hi w [a, b] t) : ∃ e ao n cap, a = .int .i64 e ∧ b = .slice ao n cap := by
  obtain ⟨rfl, -, h2⟩ := h.kin
  obtain ⟨ao, n, cap, rfl, -⟩ := h2.shape
  exact ⟨_, ao, n, cap, rfl, rfl⟩
theorem Ow.kin_mk {lo hi : Nat} {w : World} {e : Int} {b : Value} {l : List Stp} (hI : I64 e) (h : Ow lo hi w [b] l) : Ow lo hi w [.int .i64 e, b] ((e, l) : Kin) := by
  obtain ⟨fp, h1, hz, hn⟩ := h
  exact ⟨fp, ⟨[_], [b], [], fp, rfl, rfl, ⟨rfl, hI, rfl⟩, h1⟩, hz, hn⟩
theorem Rd.kin_mk {z : Bool} {lo hi : Nat} {w : World} {e : Int} {b : Value} {l : List Stp} (hI : I64 e) (h : Rd z lo hi w [b] l) : Rd z lo hi w [.int .i64 e, b] ((e, l) : Kin) := by
  obtain ⟨fp, h1, hz⟩ := h
  exact ⟨fp, ⟨[_], [b], [], fp, rfl, rfl, ⟨rfl, hI, rfl⟩, h1⟩, hz⟩


end

/-! ### Typs -/
section

def kinMore (t : Kin) (k : Int) : List Kin := if stFits (k, 0) (sexOf t) = true then [(t.1, t.2 ++ [(k, 0)])] else []
/-- The types with one step of a kind below k more. -/
def moreTo (t : Kin) (k : Nat) : List Kin := (List.range k).flatMap fun (i : Nat) => kinMore t ((i : Int) + 1)
def more (t : Kin) : List Kin := moreTo t 8
def lastT (ego : Int) : Nat → List Kin
  | 0 => [(ego, [])]
  | n + 1 => (lastT ego n).flatMap more
def outT (ego : Int) : Nat → List Kin
  | 0 => []
  | n + 1 => outT ego n ++ lastT ego (n + 1)
def typesV (ego n : Int) : Bool := decide (ego = 1 ∨ ego = 2) && decide (1 ≤ n ∧ n ≤ 3)
def typesX (ego n : Int) : List Kin := if typesV ego n = true then outT ego n.toNat else []

theorem moreTo_succ (t : Kin) (k : Nat) : moreTo t (k + 1) = moreTo t k ++ kinMore t ((k : Int) + 1) := by simp [moreTo, List.range_succ]
theorem kinMore_len (t : Kin) (k : Int) : (kinMore t k).length ≤ 1 := by unfold kinMore; split <;> simp
theorem moreTo_len (t : Kin) : ∀ k, (moreTo t k).length ≤ k
  | 0 => by simp [moreTo]
  | k + 1 => by rw [moreTo_succ, List.length_append]; have := moreTo_len t k; have := kinMore_len t ((k : Int) + 1); omega
theorem flat_more_len : ∀ l : List Kin, (l.flatMap more).length ≤ 8 * l.length
  | [] => by simp
  | t :: l => by rw [List.flatMap_cons, List.length_append, List.length_cons]; have := flat_more_len l; have := moreTo_len t 8; simp only [more] at *; omega
theorem lastT_len (ego : Int) : ∀ n, (lastT ego n).length ≤ 8 ^ n
  | 0 => by simp [lastT]
  | n + 1 => by rw [lastT, Nat.pow_succ]; have := flat_more_len (lastT ego n); have := lastT_len ego n; omega
theorem kinGo_snoc : ∀ (l : List Stp) (sex : Int) (s : Stp), kinGo sex (l ++ [s]) = (kinGo sex l && stFits s (match l.getLast? with | some x => stSex x.1 | none => sex))
  | [], sex, s => by simp [kinGo]
  | x :: l, sex, s => by
    rw [List.cons_append, kinGo, kinGo_snoc l, kinGo, Bool.and_assoc]
    cases l with
    | nil => rfl
    | cons y l =>
      rw [List.getLast?_cons_cons]
      cases h : (y :: l).getLast? with
      | none => simp at h
      | some z => rfl
/-- One step more makes a valid type if the step fits. -/
theorem isKin_snoc {t : Kin} (ht : isKin t = true) (hl : t.2.length < 8) (s : Stp) : isKin (t.1, t.2 ++ [s]) = stFits s (sexOf t) := by
  obtain ⟨h1, h2, h3, -⟩ := isKin_facts ht
  unfold isKin
  dsimp only
  rw [decide_eq_true h1, decide_eq_true (by rw [List.length_append]; simp; omega), Bool.true_and, Bool.true_and, kinGo_snoc, h3, Bool.true_and]
  rfl
/-- What the types of a few steps are. -/
structure TOk (ego : Int) (n : Nat) (t : Kin) : Prop where
  kin : isKin t = true
  len : t.2.length ≤ n
  ego : t.1 = ego
theorem more_ok {ego : Int} {n : Nat} {t u : Kin} (h : TOk ego n t) (hn : n < 8) (hu : u ∈ more t) : TOk ego (n + 1) u := by
  unfold more moreTo at hu
  rw [List.mem_flatMap] at hu
  obtain ⟨i, -, hu⟩ := hu
  unfold kinMore at hu
  split at hu
  · rename_i hf
    simp only [List.mem_singleton] at hu
    subst hu
    exact ⟨by rw [isKin_snoc h.kin (by have := h.len; omega)]; exact hf, by dsimp only; rw [List.length_append]; have := h.len; simp; omega, h.ego⟩
  · cases hu
theorem lastT_ok {ego : Int} (he : ego = 1 ∨ ego = 2) : ∀ n, n ≤ 8 → ∀ t ∈ lastT ego n, TOk ego n t
  | 0, _ => fun t ht => by
    simp only [lastT, List.mem_singleton] at ht
    subst ht
    exact ⟨by rcases he with rfl | rfl <;> rfl, Nat.le_refl _, rfl⟩
  | n + 1, hn => fun t ht => by
    rw [lastT, List.mem_flatMap] at ht
    obtain ⟨u, hu, ht⟩ := ht
    exact more_ok (lastT_ok he n (by omega) u hu) (by omega) ht
theorem outT_ok {ego : Int} (he : ego = 1 ∨ ego = 2) : ∀ n, n ≤ 8 → ∀ t ∈ outT ego n, isKin t = true ∧ t.2.length ≤ n ∧ t.1 = ego
  | 0, _ => fun t ht => by cases ht
  | n + 1, hn => fun t ht => by
    rw [outT, List.mem_append] at ht
    rcases ht with ht | ht
    · have := outT_ok he n (by omega) t ht
      exact ⟨this.1, by omega, this.2.2⟩
    · have := lastT_ok he (n + 1) hn t ht
      exact ⟨this.kin, this.len, this.ego⟩

end

end Go.Proofs.Ytlnhhfebmeekhaa
