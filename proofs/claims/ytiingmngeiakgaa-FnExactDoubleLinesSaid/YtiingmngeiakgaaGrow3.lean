/- Ours: more laws on growing slices: flat items spread from anywhere; a store into a growing slice of numbers. -/
import Derived.Test.YtiingmngeiakgaaGrow2
namespace Go.Proofs.Ytiingmngeiakgaa
set_option linter.unusedVariables false
set_option linter.unusedSimpArgs false
open Go.RowKit

section
variable {P : Program} {α : Type} [FlatRep α] {nd : Bool} {lo lo' hi : Nat} {w : World} {E : TypeId} {v : Value} {xs : List α}
theorem wpList_spread_flat {ops : Array Oper} {rest : List Oper} {o : Oper} {a : Act} {Q : Exit → Act → World → Prop} (hgd : o.guard = none) {s x : Operand} {t : TypeId}
    (ho : o.op = .call { callee := .builtin .append, args := #[s, x], argTypes := #[t, t] })
    {z0 : Value} {bytes : Nat} (hT : SlTy P t E z0 (Rep.sz α) bytes) (hsz : 0 < Rep.sz α) (hG : GL nd lo lo' hi w E v xs) (hs : a.eval s = v)
    {vs : Value} (hx : a.eval x = vs) {ys : List α} {z : Bool} {lx hx' : Nat}
    (hy : Rd z lx hx' w [vs] ys) (h63 : xs.length + ys.length ≤ maxLen) (hbytes : (xs.length + ys.length) * bytes ≤ 140737488355328) (hlo : lo ≤ w.heap.size)
    (h : ∀ v' w', GL nd lo lo' w'.heap.size w' E v' (xs ++ ys) → w.grownBy w' v.ownBlock → Below lo w w' → wpList P ops Q rest (a.put o.dst v') w') : wpList P ops Q (o :: rest) a w := by
  obtain ⟨fp, ⟨v1, hv1, ao, n, cap, rfl, e1, e2, e3, e4, hr⟩, hz⟩ := hy
  simp at hv1; subst hv1
  subst e1
  have key : ∃ v' w', (Builtin.append_ #[t, t] o.type #[v, .slice ao ys.length cap]).run P w = .ok v' w' ∧ GL nd lo lo' w'.heap.size w' E v' (xs ++ ys) ∧ w.grownBy w' v.ownBlock ∧ Below lo w w' := by
    rcases hr with ⟨h0, rfl⟩ | ⟨b, off, css', fps', rfl, hb, rfl, hzip, hcells, _⟩
    · have hys : ys = [] := List.eq_nil_of_length_eq_zero h0
      subst hys
      obtain ⟨v', w', hrun, h2, h3, _, h5⟩ := run_push (P := P) (t := t) (ty := o.type) hT hsz hG (ao := ao) (c := cap) (css' := []) (ys := []) (fps' := []) trivial (fun h => ⟨rfl, e4 h⟩) (fun a _ j u hj => by simp at hj) (by simp) (by simp) (by simpa using h63) (by simpa using hbytes) hlo
      exact ⟨v', w', hrun, h2, h3, h5⟩
    · obtain ⟨hfl, hall⟩ := flats hzip
      obtain ⟨v', w', hrun, h2, h3, _, h5⟩ := run_push (P := P) (t := t) (ty := o.type) hT hsz hG (ao := some ⟨b, off, none⟩) (c := cap) (css' := css') (ys := ys) (fps' := fps') (hall _ _) (fun h => by cases h)
        (fun a e j u hj => by
          simp only [Option.some.injEq] at e; subst e
          have := hcells j u hj
          by_cases hj0 : j = 0
          · subst hj0; simpa [Addr.add] using this
          · simpa [Addr.add, hj0] using this)
        (fun b' hb => by rw [hfl] at hb; cases hb)
        (fun hnd => ⟨by rw [hfl]; exact List.nodup_nil, fun b' hb => by rw [hfl] at hb; cases hb⟩) h63 hbytes hlo
      exact ⟨v', w', hrun, h2, h3, h5⟩
  obtain ⟨v', w', hrun, h2, h3, h5⟩ := key
  refine wpList_plain hgd fun K hK => ?_
  unfold Oper.wp execOp
  simp only [ho, resolve, invoke, builtin, Sem.run_bind, Sem.run_pure, Result.andThen_ok, List.map_toArray, List.map_cons, List.map_nil, hs, hx]
  rw [hrun]
  exact hK _ _ (h v' w' h2 h3 h5)
end

theorem zip_ints {z : Bool} {w : World} : ∀ {css : List (List Value)} {xs : List Int} {fps : List (List Nat)}, Zip (Rep.rep z w) css xs fps → css = xs.map fun x => [.int .i64 x]
  | [], [], [], _ => rfl
  | c :: css, x :: xs, f :: fps, h => by
    obtain ⟨⟨h1, _, _⟩, h2⟩ := h
    rw [List.map_cons, zip_ints h2, h1]
  | [], [], _ :: _, h | [], _ :: _, _, h | _ :: _, [], _, h | _ :: _, _ :: _, [], h => h.elim
theorem zip_ints_of {z : Bool} {w : World} : ∀ {xs : List Int}, (∀ x ∈ xs, I64 x) → Zip (Rep.rep z w) (xs.map fun x => [.int .i64 x]) xs (xs.map fun _ => [])
  | [], _ => trivial
  | x :: xs, h => ⟨⟨rfl, h x (by simp), rfl⟩, zip_ints_of fun y hy => h y (by simp [hy])⟩
theorem zip_ints_in {z : Bool} {w : World} : ∀ {css : List (List Value)} {xs : List Int} {fps : List (List Nat)}, Zip (Rep.rep z w) css xs fps → ∀ x ∈ xs, I64 x
  | [], [], [], _ => fun _ h => by cases h
  | c :: css, x :: xs, f :: fps, h => by
    obtain ⟨⟨_, h1, _⟩, h2⟩ := h
    intro y hy
    rcases List.mem_cons.1 hy with rfl | hy
    · exact h1
    · exact zip_ints_in h2 y hy
  | [], [], _ :: _, h | [], _ :: _, _, h | _ :: _, [], _, h | _ :: _, _ :: _, [], h => h.elim

/-- A growing slice of numbers, item i stored anew. -/
theorem GL.put {nd : Bool} {lo lo' hi : Nat} {w : World} {E : TypeId} {g n cap : Nat} {xs : List Int} (h : GL nd lo lo' hi w E (.slice (some ⟨g, 0, none⟩) n cap) xs) {i : Nat} (hi' : i < n) {y : Int} (hy : I64 y) :
    GL nd lo lo' hi (w.setCell ⟨g, i, none⟩ (.int .i64 y)) E (.slice (some ⟨g, 0, none⟩) n cap) (xs.set i y) := by
  obtain ⟨css, fps, ho, hz, hf, hg, hn⟩ := h
  have hc := zip_ints hz
  subst hc
  have hin := zip_ints_in hz
  have hfl : ∀ (l : List Int), (l.map fun x => [Value.int .i64 x]).flatten = l.map fun x => Value.int .i64 x := by
    intro l; induction l with
    | nil => rfl
    | cons a l ih => simp [ih]
  have hnil : ∀ (l : List Int), (l.map fun _ => ([] : List Nat)).flatten = [] := by
    intro l; induction l with
    | nil => rfl
    | cons a l ih => simp [ih]
  refine ⟨(xs.set i y).map fun x => [.int .i64 x], (xs.set i y).map fun _ => [], ?_, zip_ints_of (fun x hx => ?_), (by rw [hnil]; simp), hg, fun _ => by rw [hnil]; exact List.nodup_nil⟩
  · rw [hfl] at ho
    rw [hfl]
    obtain ⟨h1, h2⟩ := ho
    refine ⟨by simpa using h1, ?_⟩
    rcases h2 with ⟨e, _⟩ | ⟨g', cap', cur, e, hb, hh, r1, r2, r3, r4⟩
    · cases e
    · simp only [Value.slice.injEq, Option.some.injEq, Addr.mk.injEq, and_true] at e
      obtain ⟨rfl, rfl, rfl⟩ := e
      refine .inr ⟨g, cap, cur.setIfInBounds i (.int .i64 y), by simp, hb, ?_, by simpa using r1, r2, by simpa using r3, ?_⟩
      · unfold World.setCell
        simp only [Array.getElem?_modify, if_true, hh, Option.map_some]
        rfl
      · simp only [Array.toList_setIfInBounds, List.length_set, List.map_set]
        rw [← r4, List.take_set]
  · rcases List.mem_or_eq_of_mem_set hx with h | h
    · exact hin x h
    · rw [h]; exact hy

/-- Item i of a growing slice of numbers. -/
theorem GL.int_at {nd : Bool} {lo lo' hi : Nat} {w : World} {E : TypeId} {v : Value} {xs : List Int} (h : GL nd lo lo' hi w E v xs) {i : Nat} (hi' : i < xs.length) :
    ∃ g cap x, v = .slice (some ⟨g, 0, none⟩) xs.length cap ∧ Hid (xs[i]? = some x) ∧ w.cell? ⟨g, i, none⟩ = some (.int .i64 x) ∧ I64 x ∧ lo ≤ g ∧ g < hi ∧ g < w.heap.size ∧ (∀ o, w.frozen? ⟨g, o, none⟩ = false) := by
  obtain ⟨g, cap, rfl, h1, h2⟩ := h.form (by omega)
  obtain ⟨css, fps, ho, hz, hf, hg, hn⟩ := h
  have hit := (GL.it (l0 := min lo lo') (w := w) (hi := hi) (lo := lo) (lo' := lo') (E := E) (nd := nd) ⟨css, fps, ho, hz, hf, hg, hn⟩ (by omega) (by omega)).rd
  obtain ⟨b, off, x, e, hx, hc, hx1, hx2, _⟩ := hit.int_at hi'
  simp only [Option.some.injEq, Addr.mk.injEq, and_true] at e
  obtain ⟨rfl, rfl⟩ := e
  refine ⟨g, cap, x, rfl, hx, by simpa using hc, ⟨hx1, hx2⟩, h1, hg g rfl, h2, fun o => ?_⟩
  rcases ho.2 with ⟨e, _⟩ | ⟨g', cap', cur, e, hb, hh, _⟩
  · cases e
  · simp only [Value.slice.injEq, Option.some.injEq, Addr.mk.injEq, and_true, true_and] at e
    obtain ⟨rfl, rfl⟩ := e
    simp [World.frozen?, hh]
end Go.Proofs.Ytiingmngeiakgaa
