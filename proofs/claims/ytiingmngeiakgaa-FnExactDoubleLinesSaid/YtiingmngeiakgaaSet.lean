/- Ours: a set of texts (map[string]bool) that the call has made. -/
import Derived.Test.YtiingmngeiakgaaStr
import Derived.Maps.Own
import Derived.Maps.OwnOps
import Derived.Maps.Views
namespace Go.Proofs.Ytiingmngeiakgaa
set_option linter.unusedVariables false
set_option linter.unusedSimpArgs false
open Go.RowKit Go.Maps Go.WideMaps Go.ChangeMaps Go.WideElems

def setD : List ByteArray → DataW Unit
  | [] => .map []
  | s :: r => (setD r).put (.string s.data.toList) (.lit (.bool true))
theorem setD_map : ∀ l : List ByteArray, IsMap (setD l)
  | [] => isMap_empty
  | s :: r => (setD_map r).put _ _
theorem setD_at (s : ByteArray) : ∀ l : List ByteArray, (setD l).atKey (.string s.data.toList) (.lit (.bool false)) = .lit (.bool (decide (s ∈ l)))
  | [] => rfl
  | t :: r => by
    rw [setD]
    by_cases e : s = t
    · subst e
      rw [atKey_put_same (setD_map r) (by trivial)]; simp
    · rw [atKey_put_other (fun h => e (by
        simp only [Lit.string.injEq] at h
        exact ByteArray.ext (Array.toList_inj.1 h))), setD_at s r]
      simp [e]

def SetOk (P : Program) (sT bT : TypeId) (w : World) (b : Nat) (l : List ByteArray) : Prop := w.ownsMap P sT (plainElem (H := Unit) P bT) b l.length (setD l)
section
variable {P : Program} {sT bT : TypeId} {w w' : World} {b : Nat} {l : List ByteArray}
theorem SetOk.made (w : World) : SetOk P sT bT (w.alloc (.map #[] 0)) w.heap.size [] := World.ownsMap_made _ _ _ _
theorem SetOk.lt (h : SetOk P sT bT w b l) : b < w.heap.size := World.ownsMap.lt h
theorem SetOk.keep (h : SetOk P sT bT w b l) (k : w'.heap[b]? = w.heap[b]?) : SetOk P sT bT w' b l := by
  obtain ⟨es, clock, hb, F, hs, hD⟩ := h
  exact ⟨es, clock, k.trans hb, F, hs, hD⟩
theorem SetOk.below (h : SetOk P sT bT w b l) (hb : Below w.heap.size w w') : SetOk P sT bT w' b l := h.keep (hb.block b h.lt)
theorem SetOk.alloc (h : SetOk P sT bT w b l) (o : Obj) : SetOk P sT bT (w.alloc o) b l := h.below ((Below.refl _ _).alloc (Nat.le_refl _) o)

theorem wpList_lookup_set {ops : Array Oper} {rest : List Oper} {o : Oper} {a : Act} {Q : Exit → Act → World → Prop}
    (hg : o.guard = none) {m x : Operand} {t : TypeId} (hop : o.op = Op.lookup t m x false) (ht : P.underlying t = some (.map sT bT)) (hs : P.underlying sT = some .string) (hbT : P.underlying bT = some .bool) (hz : (zeroValue bT).run P w = .ok (.bool false) w)
    (hm : a.eval m = .map (some b)) (hown : SetOk P sT bT w b l) {s : ByteArray} (hl : s.size ≤ maxLen) (hx : a.eval x = .string s)
    (hK : wpList P ops Q rest (a.put o.dst (.bool (decide (s ∈ l)))) w) : wpList P ops Q (o :: rest) a w := by
  refine wpList_plain hg fun K' hK' => ?_
  obtain ⟨v, ps, hrun, hv⟩ := World.ownsMap.lookup hown (string_keyed hs) ht hz (plainElem_bool hbT false) (keyOf_string_mk hs hl (s := s))
  rw [setD_at] at hv
  have hv' : v = .bool (decide (s ∈ l)) := by
    unfold plainElem at hv
    rw [hbT] at hv
    cases v <;> simp at hv
    rename_i y
    rw [hv.1]
  subst hv'
  unfold Oper.wp
  simp [execOp, hop, hm, hx, hrun, Result.andThen]
  exact hK' _ _ (by simpa using hK)

theorem wpList_update_set {ops : Array Oper} {rest : List Oper} {o : Oper} {a : Act} {Q : Exit → Act → World → Prop}
    (hg : o.guard = none) {m x v : Operand} {t : TypeId} (hop : o.op = Op.mapUpdate t m x v) (ht : P.underlying t = some (.map sT bT)) (hs : P.underlying sT = some .string) (hbT : P.underlying bT = some .bool)
    (hm : a.eval m = .map (some b)) (hown : SetOk P sT bT w b l) (hn : l.length < maxLen) {s : ByteArray} (hl : s.size ≤ maxLen) (hx : a.eval x = .string s) (hv : a.eval v = .bool true)
    (hK : ∀ w', SetOk P sT bT w' b (s :: l) → w.grownBy w' (some b) → wpList P ops Q rest (a.put o.dst undef) w') : wpList P ops Q (o :: rest) a w :=
  wpList_mapUpdate_own w hg m x v t hop sT bT (string_keyed hs) ht _ b l.length _ hm hown hn _ _ _ hx hv (keyOf_string_mk hs hl) _ [] (plainElem_bool hbT true) hK
end
end Go.Proofs.Ytiingmngeiakgaa
