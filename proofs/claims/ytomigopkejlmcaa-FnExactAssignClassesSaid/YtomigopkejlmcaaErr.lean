/- Plain: the persons whose class does not follow. -/
import Derived.Test.YtomigopkejlmcaaGiv
import Derived.Test.YtomigopkejlmcaaExoS
namespace Go.Proofs.Ytomigopkejlmcaa
set_option linter.unusedVariables false
set_option linter.unusedSimpArgs false
open Go.RowKit

def getI (xs : List Int) (i : Int) : Int := xs.getD i.toNat 0
theorem getI_at {xs : List Int} {i : Nat} {x : Int} (h : xs[i]? = some x) : getI xs (i : Int) = x := by simp [getI, List.getD_eq_getElem?_getD, h]
theorem getI_in {n : Nat} {xs : List Int} (h : InRange n xs) {i : Nat} (hi : i < xs.length) : 0 ≤ getI xs (i : Int) ∧ getI xs (i : Int) < n := by
  have hx : xs[i]? = some xs[i] := List.getElem?_eq_getElem hi
  rw [getI_at hx]; exact h _ (List.mem_of_getElem? hx)
def badP (c : Cls) (g : List Int) (p : Nat) : Per → Bool
  | (_, _, fa, mo, _, _) => (decide (0 ≤ fa) && !decide (getI g p = getI c.2 (getI g fa))) || (decide (0 ≤ mo) && !decide (getI g p = getI c.2 (getI (inv c.1) (getI g mo))))
def badAt (ps : List Per) (c : Cls) (g : List Int) (p : Nat) : Bool := match ps[p]? with | some x => badP c g p x | none => false
def badsTo (ps : List Per) (c : Cls) (g : List Int) (n k : Nat) : List Bool := (List.range k).map (badAt ps c g) ++ List.replicate (n - k) false
def badU (c : Cls) (g : List Int) (a : List Bool) : Uni → List Bool
  | (m, wo, _, _) => if getI g wo = getI c.1 (getI g m) then a else a.set wo.toNat true
def errM (f : Fam) (c : Cls) (g : List Int) : List Bool := f.2.foldl (badU c g) (badsTo f.1 c g f.1.length f.1.length)
def listedTo (m : List Bool) (k : Nat) : List Int := ((List.range k).filter fun i => m.getD i false).map fun (i : Nat) => (i : Int)
def errsL (f : Fam) (c : Cls) (g : List Int) : List Int := listedTo (errM f c g) f.1.length
def errsV (f : Fam) (c : Cls) (g : List Int) : List Int := if givenB f c g 0 = true then errsL f c g else []

theorem badAt_at {ps : List Per} {c : Cls} {g : List Int} {p : Nat} {x : Per} (h : ps[p]? = some x) : badAt ps c g p = badP c g p x := by unfold badAt; rw [h]
theorem badsTo_len (ps : List Per) (c : Cls) (g : List Int) (n k : Nat) (h : k ≤ n) : (badsTo ps c g n k).length = n := by simp [badsTo]; omega
theorem badsTo_set {ps : List Per} {c : Cls} {g : List Int} {n k : Nat} (h : k < n) : (badsTo ps c g n k).set k (badAt ps c g k) = badsTo ps c g n (k + 1) := by
  unfold badsTo
  rw [List.set_append_right _ _ (by simp)]
  have e : n - k = (n - (k + 1)) + 1 := by omega
  rw [e, List.replicate_succ, List.range_succ]
  simp
theorem badsTo_no {ps : List Per} {c : Cls} {g : List Int} {n k : Nat} (h : k < n) (hb : badAt ps c g k = false) : badsTo ps c g n k = badsTo ps c g n (k + 1) := by
  unfold badsTo
  have e : n - k = (n - (k + 1)) + 1 := by omega
  rw [e, List.replicate_succ, List.range_succ]
  simp [hb]
theorem badsTo_zero (ps : List Per) (c : Cls) (g : List Int) (n : Nat) : badsTo ps c g n 0 = List.replicate n false := by simp [badsTo]
theorem badU_len (c : Cls) (g : List Int) (a : List Bool) (u : Uni) : (badU c g a u).length = a.length := by
  obtain ⟨m, wo, fr, tl⟩ := u
  unfold badU; dsimp only; split
  · rfl
  · simp
theorem badUs_len (c : Cls) (g : List Int) : ∀ (us : List Uni) (a : List Bool), (us.foldl (badU c g) a).length = a.length
  | [], _ => rfl
  | u :: us, a => by rw [List.foldl_cons, badUs_len c g us, badU_len]
theorem errM_len (f : Fam) (c : Cls) (g : List Int) : (errM f c g).length = f.1.length := by rw [errM, badUs_len, badsTo_len _ _ _ _ _ (Nat.le_refl _)]
theorem listedTo_in {m : List Bool} {k : Nat} (h : m[k]? = some true) : listedTo m (k + 1) = listedTo m k ++ [(k : Int)] := by
  unfold listedTo; rw [List.range_succ, List.filter_append, List.map_append]; simp [List.getD_eq_getElem?_getD, h]
theorem listedTo_out {m : List Bool} {k : Nat} (h : m[k]? = some false) : listedTo m (k + 1) = listedTo m k := by
  unfold listedTo; rw [List.range_succ, List.filter_append, List.map_append]; simp [List.getD_eq_getElem?_getD, h]
theorem listedTo_len (m : List Bool) (k : Nat) : (listedTo m k).length ≤ k := by
  unfold listedTo; rw [List.length_map]
  have := List.length_filter_le (fun i => m.getD i false) (List.range k)
  simpa using this
/-- The cells of a slice of numbers. -/
theorem Rd.pos {α : Type} [Rep α] {z : Bool} {lo hi : Nat} {w : World} {xs : List α} {ao : Option Addr} {n cap : Nat} (h : Rd z lo hi w [.slice ao n cap] xs) (hn : 0 < n) : ∃ b off, ao = some ⟨b, off, none⟩ ∧ lo ≤ b ∧ b < hi ∧ b < w.heap.size := by
  obtain ⟨b, off, x, cs, e, _, _, _, h1, h2, h3, _⟩ := h.at (i := 0) hn
  exact ⟨b, off, e, h1, h2, h3⟩
theorem Rd.num {z : Bool} {lo hi : Nat} {w : World} {xs : List Int} {b off n cap : Nat} (h : Rd z lo hi w [.slice (some ⟨b, off, none⟩) n cap] xs) {i : Nat} (hi' : i < n) :
    w.cell? ⟨b, off + i, none⟩ = some (.int .i64 (getI xs (i : Int))) := by
  obtain ⟨b', off', x, e, hx, hc, _⟩ := h.int_at hi'
  simp only [Option.some.injEq, Addr.mk.injEq, and_true] at e
  obtain ⟨rfl, rfl⟩ := e
  rw [getI_at hx.out]; exact hc
/-- One value that is owned and new comes back, and a bool. -/
def PostOwB {α : Type} [Rep α] (w : World) (x : α) (b : Bool) (e : Ending) (w' : World) : Prop := ∃ u, e = .returned (.tuple #[u, .bool b]) ∧ Ow w.heap.size w'.heap.size w' [u] x ∧ Below w.heap.size w w'
theorem inz1 (b : Nat) : InZ b (b + 1) [b] := fun i hi => by simp at hi; omega
end Go.Proofs.Ytomigopkejlmcaa
