/- Ours: a set of pairs of numbers that the call keeps as a map from structs of two numbers to bools. -/
import Derived.Test.YtefbbbhidnnchaaZ14A
import Derived.Maps.OwnSet
import Derived.WideKeyPair
import Derived.DeepKeys4
import Derived.BigFrame
namespace Go.Proofs.Ytefbbbhidnnchaa
set_option linter.unusedVariables false
set_option linter.unusedSimpArgs false
open Go.RowKit Go.Maps Go.ChangeMaps Go.WideMaps

theorem prLaid : laidOutB Try.prog = true := by kernel_rfl
theorem prRow : (135 : TypeId) < Try.prog.types.size := of_decide_eq_true (by kernel_rfl)
theorem prDeep : Try.prog.keyTypeAt 2 135 = true := by kernel_rfl
theorem prKeyed : Keyed Try.prog 135 := Keyed.of_law (deep_law_laid prLaid (m := 2) (of_decide_eq_true (by kernel_rfl)) prRow prDeep (by rw [Try.underlying135]))
theorem prSome : ∃ m, Try.prog.types.size = m + 1 := Nat.exists_eq_succ_of_ne_zero (Nat.ne_of_gt (Nat.lt_of_le_of_lt (Nat.zero_le _) prRow))
theorem zeroBool (w : World) : (zeroValue 4).run Try.prog w = .ok (.bool false) w := by kernel_rfl
theorem plainElem_bool_inv {H : Type} {P : Program} {e : TypeId} (he : P.underlying e = some .bool) {v : Value} {z : DataW H × List MemPlace} (h : plainElem P e v = some z) : ∃ x, v = .bool x ∧ z = (.lit (.bool x), []) := by
  unfold plainElem at h
  rw [he] at h
  cases v <;> simp at h
  exact ⟨_, rfl, h.symm⟩
def prLit (p : Int × Int) : Lit := .string (keyBytes [.int .i64 p.1, .int .i64 p.2])
theorem int_wf {a : Int} (h : I64 a) : (Lit.int .i64 a).wf = true := WalkArith.wf_i64 (by unfold I64 at h; exact h)
theorem prKey {p : Int × Int} (h1 : I64 p.1) (h2 : I64 p.2) : keyOf Try.prog 135 (.agg #[.int .i64 p.1, .int .i64 p.2]) = some (prLit p) := by
  obtain ⟨a, b⟩ := p
  have hk : Try.prog.keyType 135 = true := by kernel_rfl
  have wa := int_wf h1
  have wb := int_wf h2
  dsimp only at wa wb ⊢
  have hc : Try.prog.cellsOf 135 = 2 := by kernel_rfl
  have hi : Try.prog.cellsOf 3 = 1 := by kernel_rfl
  obtain ⟨m, hm⟩ := prSome
  unfold keyOf
  simp only [Try.underlying135]
  rw [if_pos (by rw [hk]; simp [Value.formed, Try.underlying135, hc]), hm]
  unfold Program.keyLits
  simp only [Try.underlying135, Value.cells, hc]
  rw [if_pos (by simp)]
  simp [Program.keyLits, Try.underlying3, wa, wb, hi, prLit]
theorem pr_inj {p q : Int × Int} (h1 : I64 p.1) (h2 : I64 p.2) (g1 : I64 q.1) (g2 : I64 q.2) (e : prLit p = prLit q) : p = q := by
  have := prKeyed.inj (prKey h1 h2) (by rw [e]; exact prKey g1 g2)
  simp only [Value.agg.injEq, Array.mk.injEq, List.cons.injEq, Value.int.injEq, true_and, and_true] at this
  exact Prod.ext this.1 this.2
/-- Block b is a map of at most n entries: true at the pairs of S, false elsewhere. -/
def PSet (w : World) (b n : Nat) (S : List (Int × Int)) : Prop :=
  (∀ p ∈ S, I64 p.1 ∧ I64 p.2) ∧ ∃ D : DataW Unit, w.ownsMap Try.prog 135 (plainElem Try.prog 4) b n D ∧ IsMap D ∧ ∀ p : Int × Int, I64 p.1 → I64 p.2 → D.atKey (prLit p) (.lit (.bool false)) = .lit (.bool (decide (p ∈ S)))
theorem PSet.made (w : World) : PSet (w.alloc (.map #[] 0)) w.heap.size 0 [] :=
  ⟨(fun p h => by cases h), .map [], World.ownsMap_made _ _ _ _, isMap_empty, fun p _ _ => by simp [DataW.atKey]⟩
theorem PSet.keepb {w w' : World} {b n : Nat} {S : List (Int × Int)} (h : PSet w b n S) (k : w'.heap[b]? = w.heap[b]?) : PSet w' b n S := by
  obtain ⟨h0, D, ⟨es, clock, hb, r⟩, h2⟩ := h
  exact ⟨h0, D, ⟨es, clock, k.trans hb, r⟩, h2⟩
theorem PSet.lt {w : World} {b n : Nat} {S : List (Int × Int)} (h : PSet w b n S) : b < w.heap.size := by
  obtain ⟨h0, D, h1, h2⟩ := h
  exact h1.lt
theorem PSet.below {w w' : World} {b n : Nat} {S : List (Int × Int)} (h : PSet w b n S) (k : Below w.heap.size w w') : PSet w' b n S := h.keepb (k.block b h.lt)
theorem PSet.more {w : World} {b n m : Nat} {S : List (Int × Int)} (h : PSet w b n S) (k : n ≤ m) : PSet w b m S := by
  obtain ⟨h0, D, h1, h2⟩ := h
  exact ⟨h0, D, h1.mono k, h2⟩
/-- m[k] at the operation. -/
theorem wpList_pset_look {w : World} {ops : Array Oper} {rest : List Oper} {o : Oper} {a : Act} {Q : Exit → Act → World → Prop} (hg : o.guard = none) {m x : Operand} {t : TypeId} (hop : o.op = Op.lookup t m x false)
    (ht : Try.prog.underlying t = some (.map 135 4)) {b n : Nat} {S : List (Int × Int)} (hm : a.eval m = .map (some b)) (h : PSet w b n S) {p : Int × Int} (hx : a.eval x = .agg #[.int .i64 p.1, .int .i64 p.2]) (h1 : I64 p.1) (h2 : I64 p.2) (r : Bool) (hr : r = decide (p ∈ S))
    (hK : wpList Try.prog ops Q rest (a.put o.dst (.bool r)) w) : wpList Try.prog ops Q (o :: rest) a w := by
  subst hr
  obtain ⟨h0, D, hD, hM, h3⟩ := h
  refine wpList_plain hg fun K' hK' => ?_
  obtain ⟨v, ps, hrun, hv⟩ := hD.lookup prKeyed ht (zeroBool w) (plainElem_bool Try.underlying4 false) (prKey h1 h2)
  rw [h3 p h1 h2] at hv
  have hvb : v = .bool (decide (p ∈ S)) := by
    obtain ⟨x, rfl, e⟩ := plainElem_bool_inv Try.underlying4 hv
    simp only [Prod.mk.injEq, DataW.lit.injEq, Lit.bool.injEq] at e
    rw [e.1]
  subst hvb
  unfold Oper.wp
  simp [execOp, hop, hm, hx, hrun, Result.andThen]
  exact hK' _ _ (by simpa using hK)
/-- m[k] = true at the operation. -/
theorem wpList_pset_put {w : World} {ops : Array Oper} {rest : List Oper} {o : Oper} {a : Act} {Q : Exit → Act → World → Prop} (hg : o.guard = none) {m x v : Operand} {t : TypeId} (hop : o.op = Op.mapUpdate t m x v)
    (ht : Try.prog.underlying t = some (.map 135 4)) {b n : Nat} {S : List (Int × Int)} (hm : a.eval m = .map (some b)) (h : PSet w b n S) (hn : n < maxLen) {p : Int × Int} (hx : a.eval x = .agg #[.int .i64 p.1, .int .i64 p.2]) (hp1 : I64 p.1) (hp2 : I64 p.2) (hv : a.eval v = .bool true)
    (hK : ∀ w', PSet w' b (n + 1) (S ++ [p]) → w.grownBy w' (some b) → wpList Try.prog ops Q rest (a.put o.dst undef) w') : wpList Try.prog ops Q (o :: rest) a w := by
  obtain ⟨h0, D, h1, h2, h3⟩ := h
  refine wpList_mapUpdate_own w hg m x v t hop _ _ prKeyed ht _ b n D hm h1 hn _ _ _ hx hv (prKey hp1 hp2) _ [] (plainElem_bool Try.underlying4 true) fun w' g1 g2 => hK w' ⟨fun q hq => ?_, _, g1, h2.put _ _, fun q hq1 hq2 => ?_⟩ g2
  · rcases List.mem_append.1 hq with hq | hq
    · exact h0 q hq
    · rw [List.mem_singleton] at hq; rw [hq]; exact ⟨hp1, hp2⟩
  · by_cases hr : q = p
    · subst hr
      rw [atKey_put_same h2 (prKeyed.key (prKey hp1 hp2))]
      simp
    · rw [atKey_put_other (by intro e; exact hr (pr_inj hq1 hq2 hp1 hp2 e)), h3 q hq1 hq2]
      simp [hr]
end Go.Proofs.Ytefbbbhidnnchaa
