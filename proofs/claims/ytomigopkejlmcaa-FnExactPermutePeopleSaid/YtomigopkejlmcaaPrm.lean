/- Plain: a family with its persons in another order. -/
import Derived.Test.YtomigopkejlmcaaErr
import Derived.Test.YtomigopkejlmcaaRel2
import Derived.Test.YtomigopkejlmcaaFamI
import Derived.Test.YtomigopkejlmcaaFamS
namespace Go.Proofs.Ytomigopkejlmcaa
set_option linter.unusedVariables false
set_option linter.unusedSimpArgs false
open Go.RowKit

def moveI (tt : List Int) (x : Int) : Int := if 0 ≤ x then getI tt x else x
def moveP (tt : List Int) : Per → Per
  | (nm, sx, fa, mo, bo, di) => (nm, sx, moveI tt fa, moveI tt mo, bo, di)
def moveU (tt : List Int) : Uni → Uni
  | (m, wo, fr, tl) => (getI tt m, getI tt wo, fr, tl)
def ordP (ps : List Per) (tt order : List Int) : List Per := order.map fun p => moveP tt (ps.getD p.toNat (ByteArray.empty, 0, 0, 0, 0, 0))
def ordF (f : Fam) (order : List Int) : Fam := (ordP f.1 (inv order) order, f.2.map (moveU (inv order)))
def permOk (f : Fam) (order : List Int) : Bool := famB f && (decide (order.length = f.1.length) && isPerm order)
def permV (f : Fam) (order : List Int) : Bool := permOk f order && famB (ordF f order)
def permX (f : Fam) (order : List Int) : Fam := if permV f order = true then ordF f order else ([], [])

theorem ordP_snoc {ps : List Per} {tt order : List Int} {k m : Nat} {x : Per} (hk : order[k]? = some (m : Int)) (hx : ps[m]? = some x) : ordP ps tt (order.take (k + 1)) = ordP ps tt (order.take k) ++ [moveP tt x] := by
  unfold ordP; rw [take_snoc hk, List.map_append]; simp [List.getD_eq_getElem?_getD, hx]
theorem ordP_len (ps : List Per) (tt order : List Int) : (ordP ps tt order).length = order.length := by simp [ordP]
theorem permX_len (f : Fam) (order : List Int) : (permX f order).1.length ≤ 40 ∧ (permX f order).2.length ≤ 60 := by
  unfold permX
  split
  · rename_i h
    simp only [permV, permOk, Bool.and_eq_true, decide_eq_true_eq] at h
    obtain ⟨h1, h2, -⟩ := famB_facts h.2
    exact ⟨h1, h2⟩
  · simp
theorem permOk_facts {f : Fam} {order : List Int} (h : permOk f order = true) : famB f = true ∧ order.length = f.1.length ∧ isPerm order = true := by
  simp only [permOk, Bool.and_eq_true, decide_eq_true_eq] at h
  exact ⟨h.1, h.2.1, h.2.2⟩
/-- What is new lies behind a, and what lay before is as it was, but for fp. -/
theorem OffF.low {fp : List Nat} {a w w' : World} (h : OffF fp a w) (k : Below a.heap.size w w') : OffF fp a w' :=
  ⟨k.os.trans h.os, k.tape.trans h.tape, k.output.trans h.output, Nat.le_trans h.size k.size, fun b hb hn => (k.block b hb).trans (h.block b hb hn)⟩
theorem GL.notown {α : Type} [Rep α] {nd : Bool} {lo lo' hi : Nat} {w : World} {E : TypeId} {v : Value} {xs : List α} (h : GL nd lo lo' hi w E v xs) {b : Nat} (hb : hi ≤ b) : some b ≠ v.ownBlock := by
  obtain ⟨css, fps, ho, hz, hf, hg, hn⟩ := h
  intro e
  have := hg b e.symm
  omega
theorem Ow.nilF (lo hi : Nat) (w : World) : Ow lo hi w [.slice none 0 0, .slice none 0 0] (([], []) : Fam) := by
  refine ⟨[], ⟨[.slice none 0 0], [.slice none 0 0], [], [], rfl, rfl, ?_, ?_⟩, fun b hb => (by cases hb), List.nodup_nil⟩ <;> exact ⟨_, rfl, none, 0, 0, rfl, rfl, Nat.le_refl _, by simp [maxLen], fun _ => rfl, .inl ⟨rfl, rfl⟩⟩
end Go.Proofs.Ytomigopkejlmcaa
