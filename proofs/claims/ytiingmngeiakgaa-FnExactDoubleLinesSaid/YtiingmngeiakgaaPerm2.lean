/- Contracts of the functions on permutations, second part: turned round, joined, valid systems. -/
import Derived.Test.YtiingmngeiakgaaPerm
namespace Go.Proofs.Ytiingmngeiakgaa
set_option linter.unusedVariables false
set_option linter.unusedSimpArgs false
open Go.RowKit

section
variable {z z' : Bool} {lo hi lo' hi' : Nat} (w : World) (v : Value) (xs : List Int)



theorem Ow.nil {α : Type} [Rep α] (lo hi : Nat) (w : World) : Ow lo hi w [.slice none 0 0] ([] : List α) := (GL.start (α := α) true lo lo hi w 0).ow (Nat.le_refl _) (Nat.le_refl _)


/-- The inverse of a permutation; nothing of what is none. -/
def invP (xs : List Int) : List Int := if isPerm xs = true then inv xs else []

theorem invP_len (p : List Int) {n : Nat} (h : p.length ≤ n) : (invP p).length ≤ n := by
  unfold invP; split
  · rw [inv_len]; exact h
  · simp



end

theorem comp_snoc {p q : List Int} {k : Nat} {x y : Int} {m : Nat} (hx : p[k]? = some x) (hxm : x = m) (hy : q[m]? = some y) : comp (p.take (k + 1)) q = comp (p.take k) q ++ [y] := by
  rw [take_snoc hx, comp, comp, List.map_append]
  subst hxm
  simp [List.getD_eq_getElem?_getD, hy]

theorem GL.lit0 {α : Type} [Rep α] (nd : Bool) (lo lo' : Nat) (w : World) (E : TypeId) (h : lo ≤ w.heap.size) : GL (α := α) nd lo lo' (w.heap.size + 1) (w.alloc (.cells #[] E)) E (.slice (some ⟨w.heap.size, 0, none⟩) 0 0) [] :=
  ⟨[], [], by simpa using World.ownsRow_made (e := E) (size := Rep.sz α) w #[] 0 h (Nat.zero_le _) (by simp), trivial, by simp, by simp [Value.ownBlock], fun _ => List.nodup_nil⟩

section
variable {z z' : Bool} {lo hi lo' hi' : Nat} (w : World) (u v : Value) (p q : List Int)

/-- Permutations joined; nothing of what does not fit. -/
def compP (p q : List Int) : List Int := if isPerm p = true ∧ isPerm q = true ∧ p.length = q.length then comp p q else []
end
end Go.Proofs.Ytiingmngeiakgaa
