/- Ours: what an argument that came in reads as: from the form's reading to 'rep'. No function of the program is named here. -/
import Derived.Test.YtdpkldapobbnpaaGreatDoorBase
import Derived.ProofKit
import Derived.Deep.Slices
namespace Go.Proofs.YtdpkldapobbnpaaGreatDoor
set_option linter.unusedVariables false
set_option linter.unusedSimpArgs false
open Go.ChangeShapes Go.WideShapes Go.RowKit
def Opens (P : Program) (t : TypeId) (α : Type) [Rep α] : Prop :=
 ∀ {H : Type} {enc : TypeId × Value → H} {w : World} {spare : Nat → Bool} {held : Bool} {fuel : Nat} {cs : List Value} {x : DataW H × List MemPlace},
   DataW.trod enc P w 0 spare held fuel t cs = some x → ∃ (y : α) (fp : List Nat), Rep.rep false w cs y fp
theorem zip_of_fn {α : Type} {R : List Value → α → List Nat → Prop} : ∀ (n : Nat) (f : Nat → List Value) (g : Nat → α) (k : Nat → List Nat), (∀ i, i < n → R (f i) (g i) (k i)) → Zip R ((List.range n).map f) ((List.range n).map g) ((List.range n).map k)
 | 0, _, _, _, _ => trivial
 | n + 1, f, g, k, h => by
   rw [List.range_succ, List.map_append, List.map_append, List.map_append]
   exact Zip.append (zip_of_fn n f g k (fun i hi => h i (by omega))) ⟨h n (by omega), trivial⟩
theorem flat_cell {s : Nat} : ∀ {css : List (List Value)}, (∀ d ∈ css, d.length = s) → 0 < s → ∀ {j : Nat} {c : Value}, css.flatten[j]? = some c → ∃ d, css[j / s]? = some d ∧ d[j % s]? = some c := by
 intro css hl hs j c h
 have hlen := length_flat hl
 have hj : j < css.flatten.length := (List.getElem?_eq_some_iff.1 h).1
 rw [hlen] at hj
 have hq : j / s < css.length := (Nat.div_lt_iff_lt_mul hs).2 hj
 refine ⟨css[j / s], List.getElem?_eq_getElem hq, ?_⟩
 have := cellsAt_flat hl (List.getElem?_eq_getElem hq) (j % s) (Nat.mod_lt _ hs)
 rw [Nat.mul_comm, Nat.div_add_mod] at this
 rw [← this]; exact h
theorem opens_slice {P : Program} {t e : TypeId} {α : Type} [Rep α] [Inhabited α] (ht : P.underlying t = some (.slice e)) (he : P.cellsOf e = Rep.sz α) (hsz : 0 < Rep.sz α) (ho : Opens P e α) : Opens P t (List α) := by
 intro H enc w spare held fuel cs x h
 rcases DataW.trod_slice ht h with ⟨rfl, _⟩ | ⟨a, len, cap, elems, rest, n, _, rfl, _, _, hl, hm, hlen, hel, _, _⟩
 ·exact ⟨[], [], _, rfl, none, 0, 0, rfl, rfl, Nat.le_refl _, by simp [maxLen], fun _ => rfl, .inl ⟨rfl, rfl⟩⟩
 ·by_cases h0 : len = 0
  ·subst h0
   exact ⟨[], [], _, rfl, some a, 0, cap, rfl, rfl, hl, hm, fun h => (by cases h), .inl ⟨rfl, rfl⟩⟩
  ·have each : ∀ i, i < len → ∃ q : List Value × α × List Nat, Rep.rep false w q.1 q.2.1 q.2.2 ∧ ∀ j, j < Rep.sz α → w.cell? ((a.add (i * Rep.sz α)).add j) = q.1[j]? := by
    intro i hi
    have h1 := hel i hi
    have h2 : elems[i]? = some elems[i] := List.getElem?_eq_getElem (by omega)
    rw [h2, he] at h1
    obtain ⟨c, hc, hr⟩ := Option.bind_eq_some_iff.1 h1
    obtain ⟨y, fp, hy⟩ := ho hr
    refine ⟨⟨c, y, fp⟩, hy, fun j hj => ?_⟩
    exact (World.cells?_some hc).2.2 j hj
   obtain ⟨f, hf⟩ := Deep.choose_lt each
   have hspot : a.spot = none := by
    have hh := (hf 0 (by omega)).2 0 hsz
    simp only [Nat.zero_mul] at hh
    have e0 : (a.add 0).add 0 = a := by simp [Addr.add]
    rw [e0] at hh
    have hl0 := Rep.len (hf 0 (by omega)).1
    rw [List.getElem?_eq_getElem (by omega)] at hh
    unfold World.cell? at hh
    split at hh
    ·split at hh
     ·cases hh
     ·rename_i hs; simpa using hs
    ·cases hh
   obtain ⟨b, off, sp⟩ := a
   simp only at hspot
   subst hspot
   have hb : b < w.heap.size := by
    have hh := (hf 0 (by omega)).2 0 hsz
    have hl0 := Rep.len (hf 0 (by omega)).1
    rw [List.getElem?_eq_getElem (by omega)] at hh
    have := World.block_lt_of_cell? w _ hh
    simpa [Addr.add] using this
   have hzip := zip_of_fn (R := Rep.rep false w) len (fun i => (f i).1) (fun i => (f i).2.1) (fun i => (f i).2.2) (fun i hi => (hf i hi).1)
   refine ⟨(List.range len).map (fun i => (f i).2.1), b :: ((List.range len).map (fun i => (f i).2.2)).flatten, _, rfl, some ⟨b, off, none⟩, len, cap, rfl, by simp, hl, hm, fun h => (by cases h), .inr ⟨b, off, _, _, rfl, hb, rfl, hzip, fun j c hj => ?_, fun h => (by cases h)⟩⟩
   obtain ⟨d, hd, hdc⟩ := flat_cell hzip.sizes hsz hj
   have hq : j / Rep.sz α < len := by
    have := (List.getElem?_eq_some_iff.1 hd).1
    simpa using this
   have hd' : d = (f (j / Rep.sz α)).1 := by
    rw [List.getElem?_map, List.getElem?_range hq] at hd
    simpa using hd.symm
   subst hd'
   have := (hf _ hq).2 (j % Rep.sz α) (Nat.mod_lt _ hsz)
   rw [hdc, Deep.add_add] at this
   rw [Nat.mul_comm, Nat.div_add_mod] at this
   rw [← this]
   congr 1
   by_cases hj0 : j = 0
   ·subst hj0; simp [Addr.add]
   ·simp [Addr.add, hj0]
def OpensF (P : Program) (fs : List Field) (off N : Nat) (α : Type) [Rep α] : Prop :=
 ∀ {H : Type} {enc : TypeId × Value → H} {w : World} {spare : Nat → Bool} {held : Bool} {fuel : Nat} {cs : List Value},
   cs.length = N → (∀ f ∈ fs, ∃ x, DataW.trod enc P w 0 spare held fuel f.type ((cs.drop f.offset).take (P.cellsOf f.type)) = some x) → ∃ (y : α) (fp : List Nat), Rep.rep false w (cs.drop off) y fp
theorem opens_arg {P : Program} {t : TypeId} {α : Type} [Rep α] (ho : Opens P t α) {H : Type} {enc : TypeId × Value → H} {w : World} {spare : Nat → Bool} {held : Bool} {v : Value} {d : DataW H} {ps : List MemPlace}
  (h : DataW.Trod enc P w 0 spare held t v d ps) : ∃ x : α, Rd false 0 w.heap.size w v.cells.toList x := by
 obtain ⟨fuel, hf⟩ := h
 obtain ⟨y, fp, hy⟩ := ho hf
 exact ⟨y, fp, hy, fun b hb => ⟨Nat.zero_le _, Rep.lt hy b hb⟩⟩
end Go.Proofs.YtdpkldapobbnpaaGreatDoor
