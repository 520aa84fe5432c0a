/- Ours: a queue of numbers: taken from the front, grown by append. No function of the program is named here. -/
import Derived.Test.YtefbbbhidnnchaaZ14D
import Derived.Deep.AppendSrc
namespace Go.Proofs.Ytefbbbhidnnchaa
set_option linter.unusedVariables false
set_option linter.unusedSimpArgs false
open Go.RowKit

/-- Numbers in a row that the call itself made, from lo on; they may begin within the row. -/
def QL (lo : Nat) (w : World) (v : Value) (xs : List Int) : Prop :=
  ∃ g off cap, v = .slice (some ⟨g, off, none⟩) xs.length cap ∧ xs.length ≤ cap ∧ cap ≤ maxLen ∧ lo ≤ g ∧ g < w.heap.size ∧ (∀ x ∈ xs, I64 x) ∧
    (∀ j x, xs[j]? = some x → w.cell? ⟨g, off + j, none⟩ = some (.int .i64 x)) ∧ (∀ j, j < cap → (w.cell? ⟨g, off + j, none⟩).isSome = true ∧ w.frozen? ⟨g, off + j, none⟩ = false)

section
variable {lo : Nat} {w w' : World} {v : Value} {xs : List Int}
theorem QL.keep (h : QL lo w v xs) (k : Zone lo w.heap.size w w') : QL lo w' v xs := by
  obtain ⟨g, off, cap, rfl, h1, h2, h3, h4, h5, h6, h7⟩ := h
  have hk := k g h3 h4
  have hs : g < w'.heap.size := by
    rw [Array.getElem?_eq_getElem h4] at hk
    exact (Array.getElem?_eq_some_iff.1 hk).1
  refine ⟨g, off, cap, rfl, h1, h2, h3, hs, h5, fun j x hj => ?_, fun j hj => ?_⟩
  · rw [World.cell?_of_block (w := w) (a := ⟨g, off + j, none⟩) hk]; exact h6 j x hj
  · rw [World.cell?_of_block (w := w) (a := ⟨g, off + j, none⟩) hk, World.frozen?_of_block (w := w) (a := ⟨g, off + j, none⟩) hk]; exact h7 j hj
theorem QL.mono {lo' : Nat} (h : QL lo w v xs) (k : lo' ≤ lo) : QL lo' w v xs := by
  obtain ⟨g, off, cap, rfl, h1, h2, h3, h4, h5, h6, h7⟩ := h
  exact ⟨g, off, cap, rfl, h1, h2, Nat.le_trans k h3, h4, h5, h6, h7⟩
/-- The front. -/
theorem QL.front {x : Int} (h : QL lo w v (x :: xs)) : ∃ g off cap, v = .slice (some ⟨g, off, none⟩) (xs.length + 1) cap ∧ xs.length + 1 ≤ cap ∧ cap ≤ maxLen ∧ w.cell? ⟨g, off, none⟩ = some (.int .i64 x) ∧ I64 x ∧ lo ≤ g ∧ g < w.heap.size ∧ QL lo w (.slice (some ⟨g, off + 1, none⟩) xs.length (cap - 1)) xs ∧ (cap = 1 → QL lo w (.slice (some ⟨g, off, none⟩) xs.length 0) xs) := by
  obtain ⟨g, off, cap, rfl, h1, h2, h3, h4, h5, h6, h7⟩ := h
  simp only [List.length_cons] at h1
  refine ⟨g, off, cap, rfl, h1, h2, h6 0 x rfl, h5 x (by simp), h3, h4, ⟨g, off + 1, cap - 1, rfl, by omega, by omega, h3, h4, fun y hy => h5 y (by simp [hy]), fun j y hj => ?_, fun j hj => ?_⟩, fun hc => ⟨g, off, 0, rfl, by omega, by omega, h3, h4, fun y hy => h5 y (by simp [hy]), fun j y hj => ?_, fun j hj => by omega⟩⟩
  · have := h6 (j + 1) y (by simpa using hj)
    rwa [Nat.add_assoc, Nat.add_comm 1 j]
  · have := h7 (j + 1) (by omega)
    rwa [Nat.add_assoc, Nat.add_comm 1 j]
  · have := (List.getElem?_eq_some_iff.1 hj).1; omega
theorem QL.nilLen (h : QL lo w v []) : ∃ g off cap, v = .slice (some ⟨g, off, none⟩) 0 cap ∧ cap ≤ maxLen := by
  obtain ⟨g, off, cap, rfl, h1, h2, _⟩ := h
  exact ⟨g, off, cap, rfl, h2⟩
/-- A literal of one number. -/
theorem QL.one {x : Int} (hx : I64 x) {g : Nat} (hlo : lo ≤ g) {E : TypeId} {fr : Nat × Nat} (hg : w.heap[g]? = some (.cells #[.int .i64 x] E fr)) (hf : ∀ o, w.frozen? ⟨g, o, none⟩ = false) : QL lo w (.slice (some ⟨g, 0, none⟩) 1 1) [x] := by
  have hc : w.cell? ⟨g, 0, none⟩ = some (.int .i64 x) := by unfold World.cell?; simp [hg]
  refine ⟨g, 0, 1, rfl, Nat.le_refl _, by simp [maxLen], hlo, (Array.getElem?_eq_some_iff.1 hg).1, fun y hy => by simp at hy; subst hy; exact hx, fun j y hj => ?_, fun j hj => ?_⟩
  · match j, hj with
    | 0, hj => simp at hj; subst hj; simpa using hc
  · obtain rfl : j = 0 := by omega
    exact ⟨by simp [hc], hf _⟩
end

section
variable {P : Program} {lo : Nat} {w : World} {v : Value} {xs : List Int} {E : TypeId}
theorem run_qpush {t ty : TypeId} {bytes : Nat} (hT : SlTy P t E (.int .i64 0) 1 bytes) (hQ : QL lo w v xs) {ad : Addr} {c : Nat} {y : Int} (hy : I64 y) (hcell : w.cell? ad = some (.int .i64 y))
    (h63 : xs.length + 1 ≤ maxLen) (hbytes : (xs.length + 1) * bytes ≤ 140737488355328) (hlo : lo ≤ w.heap.size) :
    ∃ v' w', (Builtin.append_ #[t, t] ty #[v, .slice (some ad) 1 c]).run P w = .ok v' w' ∧ QL lo w' v' (xs ++ [y]) ∧ w.grownBy w' v.ownBlock ∧ Below lo w w' := by
  obtain ⟨ht, ⟨i, hi, hz, hsize, hby⟩, hzs⟩ := hT
  obtain ⟨g, off, cap, rfl, h1, h2, h3, h4, h5, h6, h7⟩ := hQ
  have hsmall : xs.length + 1 ≤ 9223372036854775807 := by simp only [maxLen] at h63; omega
  have hsrc : Src P i.size t (.slice (some ad) 1 c) 1 [.int .i64 y] w := Src.ofSlice w ht ad 1 c [.int .i64 y] (by simp [hsize]) (fun j u hj => by
    match j, hj with
    | 0, hj => simp at hj; subst hj; simpa [Addr.add] using hcell) (fun u hu => by simp at hu; subst hu; rfl)
  by_cases hroom : xs.length + 1 ≤ cap
  · have hr := run_append_room_src (P := P) w t t ty E i ht hi g off xs.length cap (.slice (some ad) 1 c) 1 [.int .i64 y] hsrc hroom
      (fun j hj => by simp at hj; subst hj; simp only [hsize, Nat.mul_one, Nat.add_zero]; exact (h7 _ (by omega)).1)
      (fun j hj => by simp at hj; subst hj; simp only [hsize, Nat.mul_one, Nat.add_zero]; exact (h7 _ (by omega)).2)
    rw [hsize, Nat.mul_one] at hr
    have e : w.setCells g (off + xs.length) [.int .i64 y] = w.setCell ⟨g, off + xs.length, none⟩ (.int .i64 y) := by simp [World.setCells]
    rw [e] at hr
    refine ⟨_, _, hr, ⟨g, off, cap, by simp, by simpa using hroom, h2, h3, by simpa using h4, fun x hx => ?_, fun j x hj => ?_, fun j hj => ⟨?_, ?_⟩⟩, ⟨rfl, rfl, rfl, by simp, fun k hk hne => ?_⟩, (Below.refl lo w).setCell h3 _⟩
    · rw [List.mem_append] at hx
      rcases hx with hx | hx
      · exact h5 x hx
      · simp at hx; subst hx; exact hy
    · obtain ⟨u, hu⟩ : ∃ u, w.cell? ⟨g, off + j, none⟩ = some u := by
        have := (h7 j (by have := (List.getElem?_eq_some_iff.1 hj).1; simp at this; omega)).1
        exact Option.isSome_iff_exists.1 this
      rw [cell_setCell w g (off + xs.length) (off + j) (.int .i64 y) u hu]
      by_cases ej : j = xs.length
      · subst ej
        rw [if_pos rfl]
        simp at hj; rw [hj]
      · rw [if_neg (by omega)]
        have hjl := (List.getElem?_eq_some_iff.1 hj).1
        simp at hjl
        rw [List.getElem?_append_left (by omega)] at hj
        rw [← hu]; exact h6 j x hj
    · obtain ⟨u, hu⟩ := Option.isSome_iff_exists.1 (h7 j hj).1
      rw [cell_setCell w g (off + xs.length) (off + j) (.int .i64 y) u hu]; rfl
    · exact frozen_setCell w g (off + xs.length) (off + j) _ (h7 j hj).2
    · exact Below.heap_setCell w ⟨g, off + xs.length, none⟩ _ k (fun e => hne (by simp [Value.ownBlock, e]))
  · have hold : (Builtin.firstCells i.size xs.length (.slice (some ⟨g, off, none⟩) xs.length cap)).run P w.drew = .ok (xs.map fun x => Value.int .i64 x).toArray w.drew := by
      refine run_firstCells_some w.drew i.size xs.length ⟨g, off, none⟩ xs.length cap (xs.map fun x => Value.int .i64 x) (by simp [hsize]) (fun j u hu => ?_)
      rw [Addr.add_lit]
      rw [List.getElem?_map] at hu
      cases hx : xs[j]? with
      | none => rw [hx] at hu; cases hu
      | some x => rw [hx] at hu; simp at hu; subst hu; exact h6 j x hx
    have hr := run_append_grow_src (P := P) w t t ty E i (.int .i64 0) ht hi hz (some ⟨g, off, none⟩) xs.length cap (xs.map fun x => Value.int .i64 x) hold (.slice (some ad) 1 c) 1 [.int .i64 y] hsrc (by omega) (by omega) (growslice_fits (by omega) (by rw [hby]; exact hbytes))
    have hge := grownCap_ge w (xs.length + 1) cap E
    have hcm := grownCap_le_maxLen w (xs.length + 1) cap E h63
    refine ⟨_, _, hr, ⟨w.heap.size, 0, _, by simp, by simpa using hge, hcm, hlo, by simp, fun x hx => ?_, fun j x hj => ?_, fun j hj => ⟨?_, ?_⟩⟩, ⟨rfl, rfl, rfl, by simp, fun k hk _ => Below.heap_alloc w.drew _ k hk⟩, ?_⟩
    · rw [List.mem_append] at hx
      rcases hx with hx | hx
      · exact h5 x hx
      · simp at hx; subst hx; exact hy
    · have hjl := (List.getElem?_eq_some_iff.1 hj).1
      simp at hjl
      have e1 := World.cell?_alloc_new w.drew (((xs.map fun x => Value.int .i64 x) ++ [Value.int .i64 y]).toArray ++ Builtin.zeroCells (Value.int .i64 0).cells (grownCap w (xs.length + 1) cap E - (xs.length + 1))) E j
      simp only [Nat.zero_add]
      refine e1.trans ?_
      rw [Array.getElem?_append_left (by simp; omega), List.getElem?_toArray, show (xs.map fun x => Value.int .i64 x) ++ [Value.int .i64 y] = (xs ++ [y]).map fun x => Value.int .i64 x by simp, List.getElem?_map, hj]
      rfl
    · have e1 := World.cell?_alloc_new w.drew (((xs.map fun x => Value.int .i64 x) ++ [Value.int .i64 y]).toArray ++ Builtin.zeroCells (Value.int .i64 0).cells (grownCap w (xs.length + 1) cap E - (xs.length + 1))) E j
      simp only [Nat.zero_add]
      rw [show (w.drew.alloc _).cell? ⟨w.heap.size, j, none⟩ = _ from e1, Array.getElem?_eq_getElem (by rw [Array.size_append, List.size_toArray, size_zeroCells]; simp [Value.cells]; omega)]
      rfl
    · simp only [Nat.zero_add]; exact World.frozen?_alloc_new w.drew _ _ j
    · exact ((Below.refl lo w).drew).alloc (by simpa using hlo) _

/-- todo = append(todo, x). -/
theorem wpList_qpush {ops : Array Oper} {rest : List Oper} {o : Oper} {a : Act} {Q : Exit → Act → World → Prop} (hgd : o.guard = none) {s x : Operand} {t : TypeId}
    (ho : o.op = .call { callee := .builtin .append, args := #[s, x], argTypes := #[t, t] }) {bytes : Nat} (hT : SlTy P t E (.int .i64 0) 1 bytes) (hQ : QL lo w v xs) (hs : a.eval s = v)
    {ad : Addr} {c : Nat} (hx : a.eval x = .slice (some ad) 1 c) {y : Int} (hy : I64 y) (hcell : w.cell? ad = some (.int .i64 y)) (h63 : xs.length + 1 ≤ maxLen) (hbytes : (xs.length + 1) * bytes ≤ 140737488355328) (hlo : lo ≤ w.heap.size)
    (h : ∀ v' w', QL lo w' v' (xs ++ [y]) → w.grownBy w' v.ownBlock → Below lo w w' → wpList P ops Q rest (a.put o.dst v') w') : wpList P ops Q (o :: rest) a w := by
  obtain ⟨v', w', hrun, h2, h3, h5⟩ := run_qpush (P := P) (t := t) (ty := o.type) hT hQ (c := c) hy hcell h63 hbytes hlo
  refine wpList_plain hgd fun K hK => ?_
  unfold Oper.wp execOp
  simp only [ho, resolve, invoke, builtin, Sem.run_bind, Sem.run_pure, Result.andThen_ok, List.map_toArray, List.map_cons, List.map_nil, hs, hx]
  rw [hrun]
  exact hK _ _ (h v' w' h2 h3 h5)
end
end Go.Proofs.Ytefbbbhidnnchaa
