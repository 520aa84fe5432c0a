/- Texts laid one behind the other (merge.py): Kin, TyStep, KinH, Typs, KinS. -/
import Derived.Test.YtefbbbhidnnchaaLib
import Derived.Test.YtefbbbhidnnchaaZ14A
import Derived.Test.YtefbbbhidnnchaaZ14D
namespace Go.Proofs.Ytefbbbhidnnchaa
set_option linter.unusedVariables false
set_option linter.unusedSimpArgs false
open Go.RowKit

/-! ### Kin -/
section

/-- A step: kind, age. A kin type: sex of ego, steps. -/
abbrev Stp := Int × Int
abbrev Kin := Int × List Stp
instance decEqStps : DecidableEq (List Stp) := fun a b => instDecidableEqList a b
instance decEqKin : DecidableEq (Int × List Stp) := instDecidableEqProd

def stSex (k : Int) : Int := if k.tmod 2 = 1 then 1 else 2
def stFits (s : Stp) (sex : Int) : Bool := decide (1 ≤ s.1 ∧ s.1 ≤ 8) && (decide (0 ≤ s.2 ∧ s.2 ≤ 2) && (decide (s.2 = 0 ∨ s.1 = 3 ∨ s.1 = 4) && !decide (s.1 = 7 ∧ sex = 1 ∨ s.1 = 8 ∧ sex = 2)))
def kinGo : Int → List Stp → Bool
  | _, [] => true
  | sex, s :: l => stFits s sex && kinGo (stSex s.1) l
def isKin (t : Kin) : Bool := decide (0 ≤ t.1 ∧ t.1 ≤ 2) && (decide (t.2.length ≤ 8) && kinGo t.1 t.2)
/-- The sex of the person at whom a step is made (0: any), the relative's sex. -/
def egoOf (t : Kin) : Int := if t.1 = 0 then (match t.2 with | s :: _ => if s.1 = 7 then 2 else if s.1 = 8 then 1 else 0 | [] => 0) else t.1
def sexAt (t : Kin) : Nat → Int
  | 0 => egoOf t
  | i + 1 => match t.2[i]? with | some s => stSex s.1 | none => 0
def sexOf (t : Kin) : Int := match t.2.getLast? with | some s => stSex s.1 | none => t.1

theorem stFits_facts {s : Stp} {sex : Int} (h : stFits s sex = true) : (1 ≤ s.1 ∧ s.1 ≤ 8) ∧ (0 ≤ s.2 ∧ s.2 ≤ 2) ∧ (s.2 = 0 ∨ s.1 = 3 ∨ s.1 = 4) ∧ ¬ (s.1 = 7 ∧ sex = 1 ∨ s.1 = 8 ∧ sex = 2) := by
  simp only [stFits, Bool.and_eq_true, decide_eq_true_eq, Bool.not_eq_true', decide_eq_false_iff_not] at h
  exact h
theorem kinGo_mem : ∀ {l : List Stp} {sex : Int}, kinGo sex l = true → ∀ s ∈ l, (1 ≤ s.1 ∧ s.1 ≤ 8) ∧ (0 ≤ s.2 ∧ s.2 ≤ 2)
  | s :: l, sex, h, x, hx => by
    rw [kinGo, Bool.and_eq_true] at h
    rcases List.mem_cons.1 hx with rfl | hx
    · have := stFits_facts h.1; exact ⟨this.1, this.2.1⟩
    · exact kinGo_mem h.2 x hx
theorem isKin_facts {t : Kin} (h : isKin t = true) : (0 ≤ t.1 ∧ t.1 ≤ 2) ∧ t.2.length ≤ 8 ∧ kinGo t.1 t.2 = true ∧ ∀ s ∈ t.2, (1 ≤ s.1 ∧ s.1 ≤ 8) ∧ (0 ≤ s.2 ∧ s.2 ≤ 2) := by
  simp only [isKin, Bool.and_eq_true, decide_eq_true_eq] at h
  exact ⟨h.1, h.2.1, h.2.2, kinGo_mem h.2.2⟩
end

/-! ### TyStep -/
section

theorem slStep : SlTy Try.prog 47 84 (.agg #[.int .i64 0, .int .i64 0]) 2 16 := SlTy.of Try.underlying47 (by kernel_rfl) rfl
theorem repStp_inv {z : Bool} {w : World} {cs : List Value} {ki : Int} {ag : Int} {fp : List Nat} (h : Rep.rep z w cs ((ki, ag) : Stp) fp) : cs = [.int .i64 ki, .int .i64 ag] ∧ I64 ki ∧ I64 ag ∧ fp = [] := by
  obtain ⟨_, _, _, _, rfl, rfl, ⟨rfl, h0, rfl⟩, ⟨rfl, h1, rfl⟩⟩ := h
  exact ⟨rfl, h0, h1, rfl⟩
theorem repStp_mk {z : Bool} {w : World} {ki : Int} {ag : Int} (h0 : I64 ki) (h1 : I64 ag) : Rep.rep z w [.int .i64 ki, .int .i64 ag] ((ki, ag) : Stp) [] :=
  ⟨[_], _, [], [], rfl, rfl, ⟨rfl, h0, rfl⟩, ⟨rfl, h1, rfl⟩⟩
theorem Rd.stp_at {z : Bool} {lo hi : Nat} {w : World} {xs : List Stp} {ao : Option Addr} {n cap : Nat} (h : Rd z lo hi w [.slice ao n cap] xs) {i : Nat} (hi' : i < n) :
    ∃ (b off : Nat) (ki : Int) (ag : Int), ao = some ⟨b, off, none⟩ ∧ Hid (xs[i]? = some (ki, ag)) ∧ w.cell? ⟨b, off + i * 2, none⟩ = some (.int .i64 ki) ∧ w.cell? ⟨b, off + i * 2 + 1, none⟩ = some (.int .i64 ag) ∧ I64 ki ∧ I64 ag ∧ lo ≤ b ∧ b < hi ∧ b < w.heap.size ∧ (z = true → ∀ o, w.frozen? ⟨b, o, none⟩ = false) := by
  obtain ⟨b, off, ⟨ki, ag⟩, cs, e, hx, ⟨fp, hr, _⟩, _, g1, g2, g3, hc, hf⟩ := h.at hi'
  obtain ⟨rfl, h0, h1, -⟩ := repStp_inv hr
  refine ⟨b, off, ki, ag, e, hx, ?_, ?_, h0, h1, g1, g2, g3, hf⟩
  · have := hc 0 (.int .i64 ki) rfl; simpa [Rep.sz, Nat.add_assoc] using this
  · have := hc 1 (.int .i64 ag) rfl; simpa [Rep.sz, Nat.add_assoc] using this

end

/-! ### KinH -/
section

theorem Rd.kin {z : Bool} {lo hi : Nat} {w : World} {a b : Value} {t : Kin} (h : Rd z lo hi w [a, b] t) : a = .int .i64 t.1 ∧ I64 t.1 ∧ Rd z lo hi w [b] t.2 := by
  obtain ⟨fp, ⟨c1, c2, f1, f2, e, rfl, ⟨rfl, hI, rfl⟩, h2⟩, hz⟩ := h
  simp only [List.cons_append, List.nil_append, List.cons.injEq] at e
  obtain ⟨rfl, rfl⟩ := e
  exact ⟨rfl, hI, f2, h2, by simpa using hz⟩
theorem shapeKin {z : Bool} {lo hi : Nat} {w : World} {a b : Value} {t : Kin} (h : Rd z lo hi w [a, b] t) : ∃ e ao n cap, a = .int .i64 e ∧ b = .slice ao n cap := by
  obtain ⟨rfl, -, h2⟩ := h.kin
  obtain ⟨ao, n, cap, rfl, -⟩ := h2.shape
  exact ⟨_, ao, n, cap, rfl, rfl⟩
theorem Ow.kin_mk {lo hi : Nat} {w : World} {e : Int} {b : Value} {l : List Stp} (hI : I64 e) (h : Ow lo hi w [b] l) : Ow lo hi w [.int .i64 e, b] ((e, l) : Kin) := by
  obtain ⟨fp, h1, hz, hn⟩ := h
  exact ⟨fp, ⟨[_], [b], [], fp, rfl, rfl, ⟨rfl, hI, rfl⟩, h1⟩, hz, hn⟩
theorem Rd.kin_mk {z : Bool} {lo hi : Nat} {w : World} {e : Int} {b : Value} {l : List Stp} (hI : I64 e) (h : Rd z lo hi w [b] l) : Rd z lo hi w [.int .i64 e, b] ((e, l) : Kin) := by
  obtain ⟨fp, h1, hz⟩ := h
  exact ⟨fp, ⟨[_], [b], [], fp, rfl, rfl, ⟨rfl, hI, rfl⟩, h1⟩, hz⟩


end

/-! ### Typs -/
section

def kinMore (t : Kin) (k : Int) : List Kin := if stFits (k, 0) (sexOf t) = true then [(t.1, t.2 ++ [(k, 0)])] else []
/-- The types with one step of a kind below k more. -/
def moreTo (t : Kin) (k : Nat) : List Kin := (List.range k).flatMap fun (i : Nat) => kinMore t ((i : Int) + 1)
def more (t : Kin) : List Kin := moreTo t 8
def lastT (ego : Int) : Nat → List Kin
  | 0 => [(ego, [])]
  | n + 1 => (lastT ego n).flatMap more
def outT (ego : Int) : Nat → List Kin
  | 0 => []
  | n + 1 => outT ego n ++ lastT ego (n + 1)
def typesV (ego n : Int) : Bool := decide (ego = 1 ∨ ego = 2) && decide (1 ≤ n ∧ n ≤ 3)
def typesX (ego n : Int) : List Kin := if typesV ego n = true then outT ego n.toNat else []

theorem moreTo_succ (t : Kin) (k : Nat) : moreTo t (k + 1) = moreTo t k ++ kinMore t ((k : Int) + 1) := by simp [moreTo, List.range_succ]
theorem kinMore_len (t : Kin) (k : Int) : (kinMore t k).length ≤ 1 := by unfold kinMore; split <;> simp
theorem moreTo_len (t : Kin) : ∀ k, (moreTo t k).length ≤ k
  | 0 => by simp [moreTo]
  | k + 1 => by rw [moreTo_succ, List.length_append]; have := moreTo_len t k; have := kinMore_len t ((k : Int) + 1); omega
theorem kinGo_snoc : ∀ (l : List Stp) (sex : Int) (s : Stp), kinGo sex (l ++ [s]) = (kinGo sex l && stFits s (match l.getLast? with | some x => stSex x.1 | none => sex))
  | [], sex, s => by simp [kinGo]
  | x :: l, sex, s => by
    rw [List.cons_append, kinGo, kinGo_snoc l, kinGo, Bool.and_assoc]
    cases l with
    | nil => rfl
    | cons y l =>
      rw [List.getLast?_cons_cons]
      cases h : (y :: l).getLast? with
      | none => simp at h
      | some z => rfl
/-- One step more makes a valid type if the step fits. -/
theorem isKin_snoc {t : Kin} (ht : isKin t = true) (hl : t.2.length < 8) (s : Stp) : isKin (t.1, t.2 ++ [s]) = stFits s (sexOf t) := by
  obtain ⟨h1, h2, h3, -⟩ := isKin_facts ht
  unfold isKin
  dsimp only
  rw [decide_eq_true h1, decide_eq_true (by rw [List.length_append]; simp; omega), Bool.true_and, Bool.true_and, kinGo_snoc, h3, Bool.true_and]
  rfl
/-- What the types of a few steps are. -/
structure TOk (ego : Int) (n : Nat) (t : Kin) : Prop where
  kin : isKin t = true
  len : t.2.length ≤ n
  ego : t.1 = ego
end

/-! ### KinS -/
section

section
variable {P : Program} {α : Type} [FlatRep α] {nd : Bool} {lo lo' hi : Nat} {w : World} {E : TypeId} {v : Value} {xs : List α}
end

section
variable {P : Program} {α : Type} [Rep α] {nd : Bool} {lo lo' hi : Nat} {w : World} {E : TypeId} {v : Value} {xs : List α}
/-- out = append(out, x), and where the new row lies. -/
theorem wpList_push_at {ops : Array Oper} {rest : List Oper} {o : Oper} {a : Act} {Q : Exit → Act → World → Prop} (hgd : o.guard = none) {s x : Operand} {t : TypeId}
    (ho : o.op = .call { callee := .builtin .append, args := #[s, x], argTypes := #[t, t] })
    {z0 : Value} {bytes : Nat} (hT : SlTy P t E z0 (Rep.sz α) bytes) (hsz : 0 < Rep.sz α) (hG : GL nd lo lo' hi w E v xs) (hs : a.eval s = v)
    {ad : Addr} {c : Nat} (hx : a.eval x = .slice (some ad) 1 c) {cs : List Value} {y : α} {lx hx' : Nat} (hcells : ∀ j u, cs[j]? = some u → w.cell? (ad.add j) = some u)
    (hy : It nd lx hx' w cs y) (hl : lo' ≤ lx) (hd : hi ≤ lx ∨ (hx' ≤ lo ∧ (nd = true → hx' ≤ lo'))) (h63 : xs.length + 1 ≤ maxLen) (hbytes : (xs.length + 1) * bytes ≤ 140737488355328) (hlo : lo ≤ w.heap.size)
    (h : ∀ g cap w', GL nd lo lo' w'.heap.size w' E (.slice (some ⟨g, 0, none⟩) (xs.length + 1) cap) (xs ++ [y]) → w.grownBy w' v.ownBlock → Below lo w w' → (v.ownBlock = some g ∨ g = w.heap.size) → wpList P ops Q rest (a.put o.dst (.slice (some ⟨g, 0, none⟩) (xs.length + 1) cap)) w') : wpList P ops Q (o :: rest) a w := by
  obtain ⟨fp, hr, hz, hn⟩ := hy
  have hG' := hG
  obtain ⟨css, fps, hown, _, hf, hg, _⟩ := hG'
  obtain ⟨v', w', hrun, h2, h3, hv, h5⟩ := run_push (P := P) (t := t) (ty := o.type) hT hsz hG (ao := some ad) (c := c) (css' := [cs]) (ys := [y]) (fps' := [fp]) ⟨hr, trivial⟩ (fun h => by cases h)
    (fun a e => by simp only [Option.some.injEq] at e; subst e; simpa using hcells)
    (fun b hb => by
      have hb' : b ∈ fp := by simpa using hb
      refine ⟨Nat.le_trans hl (hz b hb').1, fun e => ?_⟩
      have h1 := hg b e.symm
      have h2 := (hown.lt b e.symm).1
      have h3 := hz b hb'
      omega)
    (fun hnd => ⟨by simpa using hn hnd, fun b hb => by
      have hb' : b ∈ fp := by simpa using hb
      have h3 := hz b hb'
      rcases hd with hd | ⟨_, hd⟩
      · left; omega
      · right; have := hd hnd; omega⟩) (by simpa using h63) (by simpa using hbytes) hlo
  refine wpList_plain hgd fun K hK => ?_
  unfold Oper.wp execOp
  simp only [ho, resolve, invoke, builtin, Sem.run_bind, Sem.run_pure, Result.andThen_ok, List.map_toArray, List.map_cons, List.map_nil, hs, hx]
  simp only [List.length_cons, List.length_nil, Nat.zero_add] at hrun
  rw [hrun]
  obtain ⟨g, cap, e, hlg, hgw⟩ := h2.form (by simp)
  simp only [List.length_append, List.length_cons, List.length_nil, Nat.zero_add] at e
  subst e
  refine hK _ _ (h g cap w' h2 h3 h5 ?_)
  rcases hv with hv | hv
  · exact .inl (by rw [← hv]; rfl)
  · right; simpa [Value.ownBlock] using hv
end

theorem slKin : SlTy Try.prog 109 49 (.agg #[.int .i64 0, .slice none 0 0]) 2 32 := SlTy.of Try.underlying109 (by kernel_rfl) rfl
theorem repKin_inv {z : Bool} {w : World} {cs : List Value} {t : Kin} {fp : List Nat} (h : Rep.rep z w cs t fp) : ∃ v, cs = [.int .i64 t.1, v] ∧ I64 t.1 ∧ Rep.rep z w [v] t.2 fp := by
  obtain ⟨c1, c2, f1, f2, rfl, rfl, ⟨rfl, h1, rfl⟩, h2⟩ := h
  have h2' := h2
  obtain ⟨v, rfl, _⟩ := h2'
  exact ⟨v, rfl, h1, h2⟩
theorem repKin_mk {z : Bool} {w : World} {e : Int} {v : Value} {l : List Stp} {fp : List Nat} (he : I64 e) (h : Rep.rep z w [v] l fp) : Rep.rep z w [.int .i64 e, v] ((e, l) : Kin) fp := ⟨[_], [v], [], fp, rfl, rfl, ⟨rfl, he, rfl⟩, h⟩
/-- A kin type comes back whose steps lie in a row of its own. -/
def PostKG (w : World) (t : Kin) (e : Ending) (w' : World) : Prop := ∃ v, e = .returned (.agg #[.int .i64 t.1, v]) ∧ GL true w.heap.size w.heap.size w'.heap.size w' 84 v t.2 ∧ Below w.heap.size w w'

end

end Go.Proofs.Ytefbbbhidnnchaa
