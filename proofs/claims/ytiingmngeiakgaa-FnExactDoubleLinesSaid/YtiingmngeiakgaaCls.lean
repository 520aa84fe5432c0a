/- Contracts of the laws' helpers on systems of classes: copy, compare, mark, held, size. -/
import Derived.Test.YtiingmngeiakgaaInts
namespace Go.Proofs.Ytiingmngeiakgaa
set_option linter.unusedVariables false
set_option linter.unusedSimpArgs false
open Go.RowKit

/-- A system of classes: wives, children. -/
abbrev Cls := List Int × List Int

theorem Rd.two {α β : Type} [Rep (List α)] [Rep β] {z : Bool} {lo hi : Nat} {w : World} {a b : Value} {x : List α × β} (h : Rd z lo hi w [a, b] x) (h1 : Rep.sz (List α) = 1) : Rd z lo hi w [a] x.1 ∧ Rd z lo hi w [b] x.2 :=
  ⟨Rd.fst (c1 := [a]) (c2 := [b]) h (by rw [h1]; rfl), Rd.snd (c1 := [a]) (c2 := [b]) h (by rw [h1]; rfl)⟩

theorem shapeCls {z : Bool} {lo hi : Nat} {w : World} {a b : Value} {c : Cls} (h : Rd z lo hi w [a, b] c) : ∃ ao n cap bo m dap, a = .slice ao n cap ∧ b = .slice bo m dap := by
  obtain ⟨h1, h2⟩ := h.two rfl
  obtain ⟨ao, n, cap, rfl, -⟩ := h1.shape
  obtain ⟨bo, m, dap, rfl, -⟩ := h2.shape
  exact ⟨ao, n, cap, bo, m, dap, rfl, rfl⟩

/-- A struct comes back: owned and new. -/
def PostOw2 {α : Type} [Rep α] (w : World) (x : α) (e : Ending) (w' : World) : Prop := ∃ a b, e = .returned (.agg #[a, b]) ∧ Ow w.heap.size w'.heap.size w' [a, b] x ∧ Below w.heap.size w w'


theorem eqIntS_b {z z' : Bool} {lo hi lo' hi' : Nat} (w : World) (u v : Value) (xs ys : List Int) (h : Rd z lo hi w [u] xs) (h' : Rd z' lo' hi' w [v] ys) (b : Bool) (hb : b = decide (xs = ys)) :
    Calls Try.prog 35 #[u, v] w (PostB w b) := hb ▸ eqIntS_any w u v xs ys h h'




end Go.Proofs.Ytiingmngeiakgaa
