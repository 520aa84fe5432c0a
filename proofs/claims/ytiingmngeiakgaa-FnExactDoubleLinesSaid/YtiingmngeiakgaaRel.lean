/- Contracts of relabeled systems. -/
import Derived.Test.YtiingmngeiakgaaPerm3
namespace Go.Proofs.Ytiingmngeiakgaa
set_option linter.unusedVariables false
set_option linter.unusedSimpArgs false
open Go.RowKit

/-- A map under other names: at x = p[i] stands p[f[i]]. -/
def relGo (p : List Int) : List Int → List Int → List Int → List Int
  | out, x :: ps, y :: fs => relGo p (out.set x.toNat (p.getD y.toNat 0)) ps fs
  | out, _, _ => out
def relab (p f : List Int) : List Int := relGo p (List.replicate p.length 0) p f

theorem relGo_len (p : List Int) : ∀ (ps fs out : List Int), (relGo p out ps fs).length = out.length
  | [], _, _ => by rw [relGo]; simp
  | _ :: _, [], _ => by rw [relGo]; simp
  | x :: ps, y :: fs, out => by rw [relGo, relGo_len p ps fs]; simp
theorem relab_len (p f : List Int) : (relab p f).length = p.length := by rw [relab, relGo_len]; simp

theorem Ow.made {w : World} {E : TypeId} {n g : Nat} (hb : w.heap[g]? = some (.cells (madeCells #[.int .i64 0] n) E (0, 0))) (hl : n ≤ maxLen) :
    Ow g (g + 1) w [.slice (some ⟨g, 0, none⟩) n n] (List.replicate n (0 : Int)) := by
  have h0 : Rep.rep true w [Value.int .i64 0] (0 : Int) [] := ⟨rfl, by unfold I64; omega, rfl⟩
  have hz := zip_replicate h0 n
  refine ⟨[g], ⟨_, rfl, _, n, n, rfl, by simp, Nat.le_refl _, hl, (fun h => by cases h), .inr ⟨g, 0, _, _, rfl, (Array.getElem?_eq_some_iff.1 hb).1, by rw [flatten_nils], hz, ?_, ?_⟩⟩, fun b hb => by simp at hb; omega, by simp⟩
  · intro j c hj
    have := made_flat [Value.int .i64 0] n
    simp only [List.length_singleton, Nat.mul_one] at this
    rw [← this] at hj
    simp only [Nat.zero_add, World.cell?, hb]
    simpa using hj
  · intro _ o
    simp [World.frozen?, hb]
theorem offk {fp : List Nat} {w w' : World} (ho : OffF fp w w') {b o : Nat} (hb : b ∉ fp) (hl : b < w.heap.size) {v : Value} (hv : w.cell? ⟨b, o, none⟩ = some v) : w'.cell? ⟨b, o, none⟩ = some v :=
  (World.cell?_of_block (a := ⟨b, o, none⟩) (ho.block b hl hb)).trans hv
theorem relGo_step {p out ps fs : List Int} {x y : Nat} {v : Int} (hv : p[y]? = some v) : relGo p out ((x : Int) :: ps) ((y : Int) :: fs) = relGo p (out.set x v) ps fs := by
  rw [relGo]; simp [List.getD_eq_getElem?_getD, hv]
theorem heap_alloc (w : World) (o : Obj) : (w.alloc o).heap = w.heap.push o := rfl
theorem heap_drew (w : World) : w.drew.heap = w.heap := rfl

section
variable {z z' : Bool} {lo hi lo' hi' : Nat} (w : World) (u v vp : Value) (c : Cls) (p : List Int)

end
end Go.Proofs.Ytiingmngeiakgaa
