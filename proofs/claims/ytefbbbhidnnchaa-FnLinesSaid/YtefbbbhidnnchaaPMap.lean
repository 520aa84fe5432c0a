/- Ours: a map from pairs of numbers to numbers that the call keeps: the place of a pair among those met. -/
import Derived.Test.YtefbbbhidnnchaaZ14A
import Derived.Maps.OwnSet
import Derived.WideKeyPair
import Derived.DeepKeys4
import Derived.BigFrame
namespace Go.Proofs.Ytefbbbhidnnchaa
set_option linter.unusedVariables false
set_option linter.unusedSimpArgs false
open Go.RowKit Go.Maps Go.ChangeMaps Go.WideMaps

theorem pairLaid : laidOutB Try.prog = true := by kernel_rfl
theorem pairArr : ArrKey Try.prog 63 3 2 := ⟨Try.underlying63, by kernel_rfl, by kernel_rfl, by kernel_rfl⟩
theorem pairRow : (63 : TypeId) < Try.prog.types.size := of_decide_eq_true (by kernel_rfl)
theorem pairDeep : Try.prog.keyTypeAt 2 63 = true := by kernel_rfl
theorem pairKeyed : Keyed Try.prog 63 := Keyed.of_law (deep_law_laid pairLaid (m := 2) (of_decide_eq_true (by kernel_rfl)) pairRow pairDeep (by rw [Try.underlying63]))
theorem pairSome : ∃ m, Try.prog.types.size = m + 1 := Nat.exists_eq_succ_of_ne_zero (Nat.ne_of_gt (Nat.lt_of_le_of_lt (Nat.zero_le _) pairRow))
theorem zeroInt (w : World) : (zeroValue 3).run Try.prog w = .ok (.int .i64 0) w := by kernel_rfl
def pairLit (p : Int × Int) : Lit := .string (keyBytes [.int .i64 p.1, .int .i64 p.2])
theorem int_wf {a : Int} (h : I64 a) : (Lit.int .i64 a).wf = true := WalkArith.wf_i64 (by unfold I64 at h; exact h)
theorem pairKey {p : Int × Int} (h1 : I64 p.1) (h2 : I64 p.2) : keyOf Try.prog 63 (.agg #[.int .i64 p.1, .int .i64 p.2]) = some (pairLit p) :=
  keyOf_pair pairArr Try.underlying3 pairSome (int_wf h1) (int_wf h2)
theorem pair_inj {p q : Int × Int} (h1 : I64 p.1) (h2 : I64 p.2) (g1 : I64 q.1) (g2 : I64 q.2) (e : pairLit p = pairLit q) : p = q := by
  have := pairKeyed.inj (pairKey h1 h2) (by rw [e]; exact pairKey g1 g2)
  simp only [Value.agg.injEq, Array.mk.injEq, List.cons.injEq, Value.int.injEq, true_and, and_true] at this
  exact Prod.ext this.1 this.2
/-- Block b is a map of at most n entries: each pair of m to its place in m; no other. -/
def PMap (w : World) (b n : Nat) (m : List (Int × Int)) : Prop :=
  (∀ p ∈ m, I64 p.1 ∧ I64 p.2) ∧ m.length ≤ 1000000 ∧ ∃ D : DataW Unit, w.ownsMap Try.prog 63 (plainElem Try.prog 3) b n D ∧ IsMap D ∧ (∀ (i : Nat) p, m[i]? = some p → ∀ zd, D.atKey (pairLit p) zd = .lit (.int .i64 i)) ∧ ∀ p : Int × Int, I64 p.1 → I64 p.2 → p ∉ m → ∀ zd, D.atKey (pairLit p) zd = zd
theorem PMap.made (w : World) : PMap (w.alloc (.map #[] 0)) w.heap.size 0 [] :=
  ⟨(fun p h => by cases h), by simp, .map [], World.ownsMap_made _ _ _ _, isMap_empty, fun i p h => by simp at h, fun p _ _ _ zd => by simp [DataW.atKey]⟩
theorem PMap.keepb {w w' : World} {b n : Nat} {m : List (Int × Int)} (h : PMap w b n m) (k : w'.heap[b]? = w.heap[b]?) : PMap w' b n m := by
  obtain ⟨h1, hl, D, ⟨es, clock, hb, r⟩, h2⟩ := h
  exact ⟨h1, hl, D, ⟨es, clock, k.trans hb, r⟩, h2⟩
theorem PMap.lt {w : World} {b n : Nat} {m : List (Int × Int)} (h : PMap w b n m) : b < w.heap.size := by
  obtain ⟨h1, hl, D, h2, h3⟩ := h
  exact h2.lt
theorem PMap.below {w w' : World} {b n : Nat} {m : List (Int × Int)} (h : PMap w b n m) (k : Below w.heap.size w w') : PMap w' b n m := h.keepb (k.block b h.lt)
/-- k, ok := m[p] of a pair that is in. -/
theorem wpList_pmap_in {w : World} {ops : Array Oper} {rest : List Oper} {o : Oper} {a : Act} {Q : Exit → Act → World → Prop} (hg : o.guard = none) {m x : Operand} {t : TypeId} (hop : o.op = Op.lookup t m x true)
    (ht : Try.prog.underlying t = some (.map 63 3)) {b n : Nat} {l : List (Int × Int)} (hm : a.eval m = .map (some b)) (h : PMap w b n l) {p : Int × Int} (hx : a.eval x = .agg #[.int .i64 p.1, .int .i64 p.2]) {i : Nat} (hi : l[i]? = some p)
    (hK : wpList Try.prog ops Q rest (a.put o.dst (.tuple #[.int .i64 i, .bool true])) w) : wpList Try.prog ops Q (o :: rest) a w := by
  obtain ⟨h1, hl, D, ⟨es, clock, hb, F, hs, rfl⟩, h3, h4, h5⟩ := h
  have hp := h1 p (List.mem_of_getElem? hi)
  refine wpList_plain hg fun K' hK' => ?_
  rcases Maps.fit_look true pairKeyed ht (zeroInt w) hb F (pairKey hp.1 hp.2) with ⟨_, _, hat⟩ | ⟨e0, y, _, _, hrun, hRv, hat, _⟩
  · have := (hat (.lit (.bool true))).symm.trans (h4 i p hi _)
    cases this
  · obtain ⟨c, hc, e, _⟩ := plainElem_int_inv Try.underlying3 hRv
    have h6 := (hat (.lit (.bool true))).symm.trans (h4 i p hi _)
    rw [e] at h6
    simp only [DataW.lit.injEq, Lit.int.injEq, true_and] at h6
    rw [hc, h6] at hrun
    unfold Oper.wp
    simp [execOp, hop, hm, hx, hrun, Result.andThen]
    exact hK' _ _ (by simpa using hK)
/-- k, ok := m[p] of a pair that is not in. -/
theorem wpList_pmap_out {w : World} {ops : Array Oper} {rest : List Oper} {o : Oper} {a : Act} {Q : Exit → Act → World → Prop} (hg : o.guard = none) {m x : Operand} {t : TypeId} (hop : o.op = Op.lookup t m x true)
    (ht : Try.prog.underlying t = some (.map 63 3)) {b n : Nat} {l : List (Int × Int)} (hm : a.eval m = .map (some b)) (h : PMap w b n l) {p : Int × Int} (hx : a.eval x = .agg #[.int .i64 p.1, .int .i64 p.2]) (hp1 : I64 p.1) (hp2 : I64 p.2) (hi : p ∉ l)
    (hK : wpList Try.prog ops Q rest (a.put o.dst (.tuple #[.int .i64 0, .bool false])) w) : wpList Try.prog ops Q (o :: rest) a w := by
  obtain ⟨h1, hl, D, ⟨es, clock, hb, F, hs, rfl⟩, h3, h4, h5⟩ := h
  refine wpList_plain hg fun K' hK' => ?_
  rcases Maps.fit_look true pairKeyed ht (zeroInt w) hb F (pairKey hp1 hp2) with ⟨hrun, _, hat⟩ | ⟨e0, y, _, _, hrun, hRv, hat, _⟩
  · unfold Oper.wp
    simp [execOp, hop, hm, hx, hrun, Result.andThen]
    exact hK' _ _ (by simpa using hK)
  · obtain ⟨c, hc, e, _⟩ := plainElem_int_inv Try.underlying3 hRv
    have h6 := (hat (.lit (.bool true))).symm.trans (h5 p hp1 hp2 hi _)
    rw [e] at h6
    cases h6
/-- k, ok := m[p]. -/
theorem wpList_pmap_look {w : World} {ops : Array Oper} {rest : List Oper} {o : Oper} {a : Act} {Q : Exit → Act → World → Prop} (hg : o.guard = none) {m x : Operand} {t : TypeId} (hop : o.op = Op.lookup t m x true)
    (ht : Try.prog.underlying t = some (.map 63 3)) {b n : Nat} {l : List (Int × Int)} (hm : a.eval m = .map (some b)) (h : PMap w b n l) {p : Int × Int} (hx : a.eval x = .agg #[.int .i64 p.1, .int .i64 p.2]) (hp1 : I64 p.1) (hp2 : I64 p.2) (ok : Bool) (i : Nat) (h1 : ok = true → l[i]? = some p) (h2 : ok = false → p ∉ l ∧ i = 0)
    (hK : wpList Try.prog ops Q rest (a.put o.dst (.tuple #[.int .i64 i, .bool ok])) w) : wpList Try.prog ops Q (o :: rest) a w := by
  cases ok with
  | true => exact wpList_pmap_in hg hop ht hm h hx (h1 rfl) hK
  | false =>
    obtain ⟨h3, rfl⟩ := h2 rfl
    exact wpList_pmap_out hg hop ht hm h hx hp1 hp2 h3 hK
/-- m[p] = len(m) of a pair that is not in. -/
theorem wpList_pmap_put {w : World} {ops : Array Oper} {rest : List Oper} {o : Oper} {a : Act} {Q : Exit → Act → World → Prop} (hg : o.guard = none) {m x v : Operand} {t : TypeId} (hop : o.op = Op.mapUpdate t m x v)
    (ht : Try.prog.underlying t = some (.map 63 3)) {b n : Nat} {l : List (Int × Int)} (hm : a.eval m = .map (some b)) (h : PMap w b n l) (hn : n < maxLen) {p : Int × Int} (hx : a.eval x = .agg #[.int .i64 p.1, .int .i64 p.2]) (hp1 : I64 p.1) (hp2 : I64 p.2) (hi : p ∉ l) (hl2 : l.length < 1000000) (hv : a.eval v = .int .i64 l.length)
    (hK : ∀ w', PMap w' b (n + 1) (l ++ [p]) → w.grownBy w' (some b) → wpList Try.prog ops Q rest (a.put o.dst undef) w') : wpList Try.prog ops Q (o :: rest) a w := by
  obtain ⟨h1, hl, D, h2, h3, h4, h5⟩ := h
  refine wpList_mapUpdate_own w hg m x v t hop _ _ pairKeyed ht _ b n D hm h2 hn _ _ _ hx hv (pairKey hp1 hp2) _ [] (plainElem_int Try.underlying3 (int_wf (by unfold I64; omega))) fun w' g1 g2 => hK w' ⟨fun q hq => ?_, by simp; omega, _, g1, h3.put _ _, fun i q hq zd => ?_, fun q hq1 hq2 hq zd => ?_⟩ g2
  · rcases List.mem_append.1 hq with hq | hq
    · exact h1 q hq
    · rw [List.mem_singleton] at hq; rw [hq]; exact ⟨hp1, hp2⟩
  · by_cases hil : i < l.length
    · rw [List.getElem?_append_left hil] at hq
      have hq2 := h1 q (List.mem_of_getElem? hq)
      rw [atKey_put_other (by
        intro e
        have := pair_inj hq2.1 hq2.2 hp1 hp2 e
        exact hi (this ▸ List.mem_of_getElem? hq))]
      exact h4 i q hq zd
    · rw [List.getElem?_append_right (by omega)] at hq
      cases hk : i - l.length with
      | zero =>
        rw [hk] at hq
        simp at hq
        subst hq
        obtain rfl : i = l.length := by omega
        rw [atKey_put_same h3 (pairKeyed.key (pairKey hp1 hp2))]
      | succ k => rw [hk] at hq; simp at hq
  · rw [List.mem_append, List.mem_singleton] at hq
    rw [atKey_put_other (by
      intro e
      exact hq (.inr (pair_inj hq1 hq2 hp1 hp2 e)))]
    exact h5 q hq1 hq2 (fun h => hq (.inl h)) zd
end Go.Proofs.Ytefbbbhidnnchaa
