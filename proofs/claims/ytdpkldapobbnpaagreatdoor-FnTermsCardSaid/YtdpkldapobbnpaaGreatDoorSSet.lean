/- Ours: a set of texts that the call keeps as a map from texts to bools: laid, looked up, stored into, carried. -/
import Derived.Test.YtdpkldapobbnpaaGreatDoorBase
import Derived.Maps.OwnSet
import Derived.StringKeys
import Derived.BigFrame
namespace Go.Proofs.YtdpkldapobbnpaaGreatDoor
set_option linter.unusedVariables false
set_option linter.unusedSimpArgs false
open Go.RowKit Go.Maps Go.ChangeMaps Go.WideMaps
theorem strKeyed : Keyed Tryz.prog 9 := string_keyed Tryz.underlying9
theorem zeroBool (w : World) : (zeroValue 4).run Tryz.prog w = .ok (.bool false) w := by kernel_rfl
theorem strKey {s : ByteArray} (h : s.size ≤ maxLen) : keyOf Tryz.prog 9 (.string s) = some (.string s.data.toList) := keyOf_string_mk Tryz.underlying9 h
def SSet (w : World) (b n : Nat) (S : List ByteArray) : Prop :=
 ∃ D : DataW Unit, w.ownsMap Tryz.prog 9 (plainElem Tryz.prog 4) b n D ∧ IsMap D ∧ ∀ s : ByteArray, D.atKey (.string s.data.toList) (.lit (.bool false)) = .lit (.bool (decide (s ∈ S)))
theorem SSet.made (w : World) : SSet (w.alloc (.map #[] 0)) w.heap.size 0 [] :=
 ⟨.map [], World.ownsMap_made _ _ _ _, isMap_empty, fun s => by simp [DataW.atKey]⟩
theorem SSet.keepb {w w' : World} {b n : Nat} {S : List ByteArray} (h : SSet w b n S) (k : w'.heap[b]? = w.heap[b]?) : SSet w' b n S := by
 obtain ⟨D, ⟨es, clock, hb, r⟩, h2⟩ := h
 exact ⟨D, ⟨es, clock, k.trans hb, r⟩, h2⟩
theorem SSet.lt {w : World} {b n : Nat} {S : List ByteArray} (h : SSet w b n S) : b < w.heap.size := by
 obtain ⟨D, h1, h2⟩ := h
 exact h1.lt
theorem SSet.below {w w' : World} {b n : Nat} {S : List ByteArray} (h : SSet w b n S) (k : Below w.heap.size w w') : SSet w' b n S := h.keepb (k.block b h.lt)
theorem SSet.zone {w w' : World} {b n lo hi : Nat} {S : List ByteArray} (h : SSet w b n S) (k : Zone lo hi w w') (h1 : lo ≤ b) (h2 : b < hi) : SSet w' b n S := h.keepb (k b h1 h2)
theorem SSet.mono {w : World} {b n m : Nat} {S : List ByteArray} (h : SSet w b n S) (k : n ≤ m) : SSet w b m S := by
 obtain ⟨D, h1, h2⟩ := h
 exact ⟨D, h1.mono k, h2⟩
theorem SSet.perm {w : World} {b n : Nat} {S T : List ByteArray} (h : SSet w b n S) (k : ∀ s, s ∈ S ↔ s ∈ T) : SSet w b n T := by
 obtain ⟨D, h1, h2, h3⟩ := h
 exact ⟨D, h1, h2, fun s => by rw [h3 s]; congr 2; exact decide_eq_decide.2 (k s)⟩
theorem byteArray_ne {s t : ByteArray} (h : s ≠ t) : s.data.toList ≠ t.data.toList := fun e => h (by cases s; cases t; simpa using e)
theorem plainElem_bool_inv {H : Type} {P : Program} {e : TypeId} (he : P.underlying e = some .bool) {v : Value} {z : DataW H × List MemPlace} (h : plainElem P e v = some z) : ∃ x, v = .bool x ∧ z = (.lit (.bool x), []) := by
 unfold plainElem at h
 rw [he] at h
 cases v <;> simp at h
 exact ⟨_, rfl, h.symm⟩
theorem wpList_sset_put {w : World} {ops : Array Oper} {rest : List Oper} {o : Oper} {a : Act} {Q : Exit → Act → World → Prop} (hg : o.guard = none) {m x v : Operand} {t : TypeId} (hop : o.op = Op.mapUpdate t m x v)
  (ht : Tryz.prog.underlying t = some (.map 9 4)) {b n : Nat} {S : List ByteArray} (hm : a.eval m = .map (some b)) (h : SSet w b n S) (hn : n < maxLen) {s : ByteArray} (hx : a.eval x = .string s) (hv : a.eval v = .bool true) (hs : s.size ≤ maxLen)
  (hK : ∀ w', SSet w' b (n + 1) (s :: S) → w.grownBy w' (some b) → wpList Tryz.prog ops Q rest (a.put o.dst undef) w') : wpList Tryz.prog ops Q (o :: rest) a w := by
 obtain ⟨D, h1, h2, h3⟩ := h
 refine wpList_mapUpdate_own w hg m x v t hop _ _ strKeyed ht _ b n D hm h1 hn _ _ _ hx hv (strKey hs) _ [] (plainElem_bool Tryz.underlying4 true) fun w' g1 g2 => hK w' ⟨_, g1, h2.put _ _, fun r => ?_⟩ g2
 by_cases hr : r = s
 ·subst hr
  rw [atKey_put_same h2 (strKeyed.key (strKey hs))]
  simp
 ·rw [atKey_put_other (by intro e; exact byteArray_ne hr (by simpa using e)), h3 r]
  simp [hr]
theorem wpList_sset_lookg {w : World} {ops : Array Oper} {rest : List Oper} {o : Oper} {a : Act} {Q : Exit → Act → World → Prop} (hw : Region.wanted o (yielded ops a.tmps) = true) {m x : Operand} {t : TypeId} (hop : o.op = Op.lookup t m x false)
  (ht : Tryz.prog.underlying t = some (.map 9 4)) {b n : Nat} {S : List ByteArray} (hm : a.eval m = .map (some b)) (h : SSet w b n S) {s : ByteArray} (hx : a.eval x = .string s) (hs : s.size ≤ maxLen) (r : Bool) (hr : r = decide (s ∈ S))
  (hK : wpList Tryz.prog ops Q rest (a.put o.dst (.bool r)) w) : wpList Tryz.prog ops Q (o :: rest) a w := by
 subst hr
 obtain ⟨D, h1, h2, h3⟩ := h
 refine BigFrame.wpList_want hw fun K' hK' => ?_
 obtain ⟨v, ps, hrun, hv⟩ := h1.lookup strKeyed ht (zeroBool w) (plainElem_bool Tryz.underlying4 false) (strKey hs)
 rw [h3 s] at hv
 have hvb : v = .bool (decide (s ∈ S)) := by
  obtain ⟨x, rfl, e⟩ := plainElem_bool_inv Tryz.underlying4 hv
  simp only [Prod.mk.injEq, DataW.lit.injEq, Lit.bool.injEq] at e
  rw [e.1]
 subst hvb
 unfold Oper.wp
 simp [execOp, hop, hm, hx, hrun, Result.andThen]
 exact hK' _ _ (by simpa using hK)
theorem Below.grownAt {lo : Nat} {w0 w w' : World} {b : Nat} (h : Below lo w0 w) (hg : w.grownBy w' (some b)) (hlo : lo ≤ b) (hs : lo ≤ w.heap.size) : Below lo w0 w' := h.grown hg hs fun k hk => by simp only [Option.some.injEq] at hk; omega
end Go.Proofs.YtdpkldapobbnpaaGreatDoor
