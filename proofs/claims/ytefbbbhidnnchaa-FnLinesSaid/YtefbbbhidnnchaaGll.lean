/- Ours: a list of lists of numbers of which the call owns all, and each of which grows in place. -/
import Derived.Test.YtefbbbhidnnchaaZ14I
namespace Go.Proofs.Ytefbbbhidnnchaa
set_option linter.unusedVariables false
set_option linter.unusedSimpArgs false
open Go.RowKit

theorem row_keep {w w' : World} {lo : Nat} {e : TypeId} {size : Nat} {v : Value} {n : Nat} {xs : List Value} (h : w.ownsRow lo e size v n xs) (k : ∀ g, v.ownBlock = some g → w'.heap[g]? = w.heap[g]?) : w'.ownsRow lo e size v n xs := by
  refine ⟨h.1, ?_⟩
  rcases h.2 with hn | ⟨g, cap, cur, rfl, hb, hgg, rest⟩
  · exact .inl hn
  · exact .inr ⟨g, cap, cur, rfl, hb, (k g rfl).trans hgg, rest⟩
def ints1 (l : List Int) : List Value := l.map (Value.int .i64)
/-- The blocks of the inner lists are apart, and apart from the row's own. -/
structure Apart (v : Value) (cs : List Value) : Prop where
  row : ∀ (i : Nat) (c : Value) (g : Nat), cs[i]? = some c → c.ownBlock = some g → v.ownBlock ≠ some g
  each : ∀ (i j : Nat) (ci cj : Value) (g : Nat), cs[i]? = some ci → cs[j]? = some cj → ci.ownBlock = some g → cj.ownBlock = some g → i = j
def GLL (T I : TypeId) (lo : Nat) (w : World) (v : Value) (ls : List (List Int)) : Prop :=
  ∃ cs : List Value, w.ownsRow lo T 1 v ls.length cs ∧ (∀ (i : Nat) (c : Value) (l : List Int), cs[i]? = some c → ls[i]? = some l → w.ownsRow lo I 1 c l.length (ints1 l) ∧ ∀ x ∈ l, I64 x) ∧ Apart v cs
section
variable {T I : TypeId} {lo : Nat} {w w' : World} {v : Value} {ls : List (List Int)}
theorem GLL.nil (T I : TypeId) (lo : Nat) (w : World) : GLL T I lo w (.slice none 0 0) [] :=
  ⟨[], by simpa using World.ownsRow_nil w lo T 1, fun i c l h => by simp at h, ⟨fun i c g h => by simp at h, fun i j ci cj g h => by simp at h⟩⟩
theorem GLL.lt (h : GLL T I lo w v ls) {g : Nat} (e : v.ownBlock = some g) : lo ≤ g ∧ g < w.heap.size := by
  obtain ⟨cs, h1, -, -⟩ := h
  exact h1.lt g e
theorem cs_ls {cs : List Value} (h1 : w.ownsRow lo T 1 v ls.length cs) {i : Nat} {c : Value} (hc : cs[i]? = some c) : ∃ l, ls[i]? = some l := by
  have hl : cs.length = ls.length := by simpa using h1.1
  have hi := (List.getElem?_eq_some_iff.1 hc).1
  exact ⟨_, List.getElem?_eq_getElem (by omega)⟩
theorem GLL.keep (h : GLL T I lo w v ls) (k : ∀ b, lo ≤ b → b < w.heap.size → w'.heap[b]? = w.heap[b]?) : GLL T I lo w' v ls := by
  obtain ⟨cs, h1, h2, h3⟩ := h
  exact ⟨cs, row_keep h1 fun g e => k g (h1.lt g e).1 (h1.lt g e).2, fun i c l hc hl => ⟨row_keep (h2 i c l hc hl).1 fun g e => k g ((h2 i c l hc hl).1.lt g e).1 ((h2 i c l hc hl).1.lt g e).2, (h2 i c l hc hl).2⟩, h3⟩
theorem GLL.below (h : GLL T I lo w v ls) (hb : Below w.heap.size w w') : GLL T I lo w' v ls := h.keep fun b _ hl => hb.block b hl
theorem GLL.alloc (h : GLL T I lo w v ls) (o : Obj) : GLL T I lo (w.alloc o) v ls := h.below ((Below.refl _ _).alloc (Nat.le_refl _) o)
theorem GLL.len (h : GLL T I lo w v ls) : ∃ ao cap, v = .slice ao ls.length cap ∧ ls.length ≤ cap ∧ cap ≤ maxLen := by
  obtain ⟨cs, h1, -, -⟩ := h
  rcases h1.2 with ⟨rfl, h⟩ | ⟨g, cap, cur, rfl, hbb, hh, h1, h2, r⟩
  · rw [h]; exact ⟨none, 0, rfl, Nat.le_refl _, by simp [maxLen]⟩
  · exact ⟨_, cap, rfl, h1, h2⟩
theorem GLL.form (h : GLL T I lo w v ls) (hn : 0 < ls.length) : ∃ g cap, v = .slice (some ⟨g, 0, none⟩) ls.length cap ∧ lo ≤ g ∧ g < w.heap.size := by
  have h0 := h
  obtain ⟨cs, h1, -, -⟩ := h
  rcases h1.2 with ⟨rfl, h⟩ | ⟨g, cap, cur, rfl, hbb, hh, h1', h2, r⟩
  · omega
  · exact ⟨g, cap, rfl, h0.lt rfl⟩
/-- An inner list, and what an append to it makes of the whole. -/
theorem GLL.item {g n cap : Nat} (h : GLL T I lo w (.slice (some ⟨g, 0, none⟩) n cap) ls) {i : Nat} {l : List Int} (hl : ls[i]? = some l) :
    ∃ c, w.cell? ⟨g, i, none⟩ = some c ∧ w.frozen? ⟨g, i, none⟩ = false ∧ w.ownsRow lo I 1 c l.length (ints1 l) ∧ c.ownBlock ≠ some g ∧
      ∀ (w1 w2 : World) (c2 : Value) (y : Int), (∀ b, lo ≤ b → b < w.heap.size → w1.heap[b]? = w.heap[b]?) → w.heap.size ≤ w1.heap.size → w1.grownBy w2 c.ownBlock → w2.ownsRow lo I 1 c2 (l.length + 1) (ints1 (l ++ [y])) → I64 y → (c2.ownBlock = c.ownBlock ∨ c2.ownBlock = some w1.heap.size) →
        GLL T I lo (w2.setCell ⟨g, i, none⟩ c2) (.slice (some ⟨g, 0, none⟩) n cap) (ls.set i (l ++ [y])) := by
  obtain ⟨cs, h1, h2, h3⟩ := h
  have hcl : cs.length = ls.length := by simpa using h1.1
  have hi : i < ls.length := (List.getElem?_eq_some_iff.1 hl).1
  have hnl : n = ls.length := by
    rcases h1.2 with ⟨hv, -⟩ | ⟨g', cap', cur, hv, r⟩
    · simp at hv
    · simp only [Value.slice.injEq] at hv; exact hv.2.1
  subst hnl
  obtain ⟨c, hc⟩ : ∃ c, cs[i]? = some c := ⟨_, List.getElem?_eq_getElem (by omega)⟩
  have hrow := (h2 i c l hc hl)
  have hcg : c.ownBlock ≠ some g := fun e => h3.row i c g hc e rfl
  refine ⟨c, (h1.cellAt i (by omega)).trans hc, h1.frozenAt i, hrow.1, hcg, ?_⟩
  intro w1 w2 c2 y hk hs hg hr hy ho
  have hgl := h1.lt g rfl
  have r1 : w2.ownsRow lo T 1 (.slice (some ⟨g, 0, none⟩) ls.length cap) ls.length cs := row_keep h1 fun b e => by
    simp only [Value.ownBlock, Option.some.injEq] at e
    subst e
    exact (hg.block g (by omega) (fun e => hcg e.symm)).trans (hk g hgl.1 hgl.2)
  have r2 := (r1.stored i c2).1
  have hcells : ∀ b, b ≠ g → (w2.setCell ⟨g, i, none⟩ c2).heap[b]? = w2.heap[b]? := fun b hb => Below.heap_setCell w2 ⟨g, i, none⟩ c2 b hb
  have hc2g : c2.ownBlock ≠ some g := by
    rcases ho with ho | ho
    · rw [ho]; exact hcg
    · rw [ho]; intro e; simp at e; omega
  refine ⟨cs.set i c2, by simpa using r2, ?_, ?_, ?_⟩
  · intro j d m hd hm
    by_cases hj : i = j
    · subst hj
      rw [List.getElem?_set_self (by omega)] at hd hm
      simp only [Option.some.injEq] at hd hm
      subst hd hm
      refine ⟨?_, fun x hx => ?_⟩
      · rw [List.length_append]
        exact row_keep hr fun b e => hcells b (fun e2 => hc2g (e2 ▸ e))
      · rcases List.mem_append.1 hx with hx | hx
        · exact hrow.2 x hx
        · rw [List.mem_singleton] at hx; rw [hx]; exact hy
    · rw [List.getElem?_set_ne hj] at hd hm
      have hr2 := h2 j d m hd hm
      refine ⟨row_keep hr2.1 fun b e => ?_, hr2.2⟩
      have hbl := hr2.1.lt b e
      have hbg : b ≠ g := fun e2 => h3.row j d g hd (e2 ▸ e) rfl
      exact (hcells b hbg).trans ((hg.block b (by omega) (fun e2 => hj (h3.each i j c d b hc hd e2.symm e))).trans (hk b hbl.1 hbl.2))
  · intro j d b hd hb
    by_cases hj : i = j
    · subst hj
      rw [List.getElem?_set_self (by omega)] at hd
      simp only [Option.some.injEq] at hd
      subst hd
      intro e
      exact hc2g (hb.trans e.symm)
    · rw [List.getElem?_set_ne hj] at hd
      exact h3.row j d b hd hb
  · intro j k d e b hd he hdb heb
    have old : ∀ (m : Nat) (x : Value), cs[m]? = some x → x.ownBlock = some b → b < w.heap.size := fun m x hx hxb => by
      obtain ⟨l', hl'⟩ := cs_ls h1 hx
      exact ((h2 m x l' hx hl').1.lt b hxb).2
    by_cases hj : i = j
    · by_cases hk2 : i = k
      · exact hj.symm.trans hk2
      · subst hj
        rw [List.getElem?_set_self (by omega)] at hd
        simp only [Option.some.injEq] at hd
        subst hd
        rw [List.getElem?_set_ne hk2] at he
        rcases ho with ho | ho
        · exact h3.each i k c e b hc he (ho ▸ hdb) heb
        · have := old k e he heb
          rw [ho] at hdb; simp at hdb; omega
    · rw [List.getElem?_set_ne hj] at hd
      by_cases hk2 : i = k
      · subst hk2
        rw [List.getElem?_set_self (by omega)] at he
        simp only [Option.some.injEq] at he
        subst he
        rcases ho with ho | ho
        · exact h3.each j i d c b hd hc hdb (ho ▸ heb)
        · have := old j d hd hdb
          rw [ho] at heb; simp at heb; omega
      · rw [List.getElem?_set_ne hk2] at he
        exact h3.each j k d e b hd he hdb heb
theorem rep_ints : ∀ l : List Int, (∀ x ∈ l, I64 x) → Zip (Rep.rep true w) ((ints1 l).map fun c => [c]) l (l.map fun _ => [])
  | [], _ => trivial
  | x :: l, h => ⟨⟨rfl, h x (by simp), rfl⟩, rep_ints l fun y hy => h y (by simp [hy])⟩
theorem flat_nils (l : List Int) : (l.map fun _ => ([] : List Nat)).flatten = [] := by
  induction l with
  | nil => rfl
  | cons x l ih => simp
theorem flat1 : ∀ cs : List Value, (cs.map fun c => [c]).flatten = cs
  | [] => rfl
  | c :: cs => by rw [List.map_cons, List.flatten_cons, flat1 cs]; rfl
theorem rep_row {c : Value} {l : List Int} (h : w.ownsRow lo I 1 c l.length (ints1 l)) (hI : ∀ x ∈ l, I64 x) : Rep.rep true w [c] l c.ownBlock.toList := by
  rcases h.2 with ⟨rfl, h0⟩ | ⟨g, cap, cur, rfl, hbb, hh, h3, h4, h5, h6⟩
  · exact ⟨_, rfl, none, 0, 0, rfl, h0, Nat.le_refl _, by simp [maxLen], fun _ => rfl, .inl ⟨rfl, rfl⟩⟩
  · refine ⟨_, rfl, some ⟨g, 0, none⟩, l.length, cap, rfl, rfl, h3, h4, (fun h => by cases h), .inr ⟨g, 0, _, _, rfl, (h.lt g rfl).2, ?_, rep_ints l hI, ?_, ?_⟩⟩
    · rw [flat_nils]; rfl
    · rw [flat1]
      intro j u hj
      have := h.cells (g := g) rfl j u hj
      by_cases hj0 : j = 0
      · subst hj0; simpa [Addr.add] using this
      · simpa [Addr.add, hj0] using this
    · intro _ o
      simp [World.frozen?, hh]
theorem zip_rows : ∀ {cs : List Value} {ls : List (List Int)}, cs.length = ls.length → (∀ (i : Nat) (c : Value) (l : List Int), cs[i]? = some c → ls[i]? = some l → Rep.rep true w [c] l c.ownBlock.toList) → Zip (Rep.rep true w) (cs.map fun c => [c]) ls (cs.map fun c => c.ownBlock.toList)
  | [], [], _, _ => trivial
  | [], _ :: _, h, _ => by simp at h
  | _ :: _, [], h, _ => by simp at h
  | c :: cs, l :: ls, h, k => ⟨k 0 c l rfl rfl, zip_rows (by simpa using h) fun i c' l' h1 h2 => k (i + 1) c' l' (by simpa using h1) (by simpa using h2)⟩
theorem nodup_blocks : ∀ {cs : List Value}, (∀ (i j : Nat) (ci cj : Value) (g : Nat), cs[i]? = some ci → cs[j]? = some cj → ci.ownBlock = some g → cj.ownBlock = some g → i = j) → ((cs.map fun c => c.ownBlock.toList).flatten).Nodup
  | [], _ => by simp
  | c :: cs, h => by
    rw [List.map_cons, List.flatten_cons]
    refine List.nodup_append.2 ⟨by cases c.ownBlock <;> simp, nodup_blocks fun i j ci cj g h1 h2 h3 h4 => by have := h (i + 1) (j + 1) ci cj g (by simpa using h1) (by simpa using h2) h3 h4; omega, fun a ha b hb => ?_⟩
    intro e
    subst e
    have ha' : c.ownBlock = some a := by simpa [eq_comm] using ha
    obtain ⟨x, hx, hb2⟩ := List.mem_flatten.1 hb
    obtain ⟨d, hd, rfl⟩ := List.mem_map.1 hx
    obtain ⟨j, hj, e⟩ := List.getElem_of_mem hd
    have hb' : d.ownBlock = some a := by simpa [eq_comm] using hb2
    have := h 0 (j + 1) c d a rfl (by simp [List.getElem?_eq_getElem hj, e]) ha' hb'
    omega
theorem GLL.ow (h : GLL T I lo w v ls) : Ow lo w.heap.size w [v] ls := by
  obtain ⟨cs, h1, h2, h3⟩ := h
  have hcl : cs.length = ls.length := by simpa using h1.1
  have hz := zip_rows (w := w) hcl fun i c l hc hl => rep_row (h2 i c l hc hl).1 (h2 i c l hc hl).2
  have hin : ∀ b ∈ (cs.map fun c => c.ownBlock.toList).flatten, ∃ (i : Nat) (c : Value), cs[i]? = some c ∧ c.ownBlock = some b := by
    intro b hb
    obtain ⟨x, hx, hb2⟩ := List.mem_flatten.1 hb
    obtain ⟨d, hd, rfl⟩ := List.mem_map.1 hx
    obtain ⟨j, hj, e⟩ := List.getElem_of_mem hd
    exact ⟨j, d, by rw [List.getElem?_eq_getElem hj, e], by simpa [eq_comm] using hb2⟩
  rcases h1.2 with ⟨rfl, h0⟩ | ⟨g, cap, cur, rfl, hbb, hh, h4, h5, h6, h7⟩
  · exact ⟨[], ⟨_, rfl, none, 0, 0, rfl, h0, Nat.le_refl _, by simp [maxLen], fun _ => rfl, .inl ⟨rfl, rfl⟩⟩, (fun _ h => by cases h), List.nodup_nil⟩
  · refine ⟨g :: (cs.map fun c => c.ownBlock.toList).flatten, ⟨_, rfl, some ⟨g, 0, none⟩, ls.length, cap, rfl, rfl, h4, h5, (fun h => by cases h), .inr ⟨g, 0, _, _, rfl, (h1.lt g rfl).2, rfl, hz, ?_, ?_⟩⟩, ?_, List.nodup_cons.2 ⟨fun hm => ?_, nodup_blocks h3.each⟩⟩
    · rw [flat1]
      intro j u hj
      have := h1.cells (g := g) rfl j u hj
      by_cases hj0 : j = 0
      · subst hj0; simpa [Addr.add] using this
      · simpa [Addr.add, hj0] using this
    · intro _ o
      simp [World.frozen?, hh]
    · intro b hb
      rcases List.mem_cons.1 hb with rfl | hb
      · exact h1.lt b rfl
      · obtain ⟨i, c, hc, hcb⟩ := hin b hb
        obtain ⟨l, hl⟩ := cs_ls h1 hc
        exact (h2 i c l hc hl).1.lt b hcb
    · obtain ⟨i, c, hc, hcb⟩ := hin g hm
      exact h3.row i c g hc hcb rfl
end
section
variable {P : Program} {w : World}
/-- append(s, x) at a row of cells that the call owns. -/
theorem wpList_vpush {ops : Array Oper} {rest : List Oper} {o : Oper} {a : Act} {Q : Exit → Act → World → Prop} (hgd : o.guard = none) {s x : Operand} {t : TypeId}
    (ho : o.op = .call { callee := .builtin .append, args := #[s, x], argTypes := #[t, t] })
    {e : TypeId} {z0 : Value} {bytes : Nat} (hT : SlTy P t e z0 1 bytes) {lo : Nat} {v : Value} {n : Nat} {xs : List Value} (hown : w.ownsRow lo e 1 v n xs) (hs : a.eval s = v)
    {ad : Addr} {c : Nat} (hx : a.eval x = .slice (some ad) 1 c) {u : Value} (hcell : w.cell? ad = some u) (hone : u.oneCell' = true) (h63 : n + 1 ≤ maxLen) (hbytes : (n + 1) * bytes ≤ 140737488355328) (hlo : lo ≤ w.heap.size)
    (h : ∀ v' w', w'.ownsRow lo e 1 v' (n + 1) (xs ++ [u]) → w.grownBy w' v.ownBlock → (v'.ownBlock = v.ownBlock ∨ v'.ownBlock = some w.heap.size) → wpList P ops Q rest (a.put o.dst v') w') : wpList P ops Q (o :: rest) a w := by
  obtain ⟨v', w', hrun, h1, h2, h3⟩ := run_app (P := P) w (t := t) (ty := o.type) hT (by decide) hown (ao := some ad) (m := 1) (c := c) (news := [u]) rfl (fun h => by cases h)
    (fun a' e' j y hj => by
      simp only [Option.some.injEq] at e'; subst e'
      match j, hj with
      | 0, hj => simp at hj; subst hj; simpa [Addr.add] using hcell) (fun y hy => by rw [List.mem_singleton] at hy; rw [hy]; exact hone) h63 hbytes hlo
  refine wpList_plain hgd fun K hK => ?_
  unfold Oper.wp execOp
  simp only [ho, resolve, invoke, builtin, Sem.run_bind, Sem.run_pure, Result.andThen_ok, List.map_toArray, List.map_cons, List.map_nil, hs, hx]
  rw [hrun]
  exact hK _ _ (h v' w' h1 h2 h3)
/-- A new empty list behind the others. -/
theorem GLL.snoc {T I : TypeId} {lo : Nat} {w w' : World} {v v' : Value} {ls : List (List Int)} {cs : List Value} (h2 : ∀ (i : Nat) (c : Value) (l : List Int), cs[i]? = some c → ls[i]? = some l → w.ownsRow lo I 1 c l.length (ints1 l) ∧ ∀ x ∈ l, I64 x) (h3 : Apart v cs) (hcl : cs.length = ls.length)
    (h1 : w'.ownsRow lo T 1 v' (ls.length + 1) (cs ++ [.slice none 0 0])) (hg : w.grownBy w' v.ownBlock) (ho : v'.ownBlock = v.ownBlock ∨ v'.ownBlock = some w.heap.size) : GLL T I lo w' v' (ls ++ [[]]) := by
  have hlt : ∀ (i : Nat) (c : Value) (g : Nat), cs[i]? = some c → c.ownBlock = some g → g < w.heap.size := fun i c g hc hb => by
    have hi := (List.getElem?_eq_some_iff.1 hc).1
    exact ((h2 i c ls[i] hc (List.getElem?_eq_getElem (by omega))).1.lt g hb).2
  have split : ∀ {i : Nat} {c : Value} {g : Nat}, (cs ++ [Value.slice none 0 0])[i]? = some c → c.ownBlock = some g → cs[i]? = some c := by
    intro i c g hc hb
    by_cases hi : i < cs.length
    · rwa [List.getElem?_append_left hi] at hc
    · rw [List.getElem?_append_right (by omega)] at hc
      cases hk : i - cs.length with
      | zero => rw [hk] at hc; simp at hc; subst hc; simp [Value.ownBlock] at hb
      | succ k => rw [hk] at hc; simp at hc
  refine ⟨cs ++ [.slice none 0 0], by rw [List.length_append]; exact h1, ?_, ?_, ?_⟩
  · intro i c l hc hl
    by_cases hi : i < cs.length
    · rw [List.getElem?_append_left hi] at hc
      rw [List.getElem?_append_left (by omega)] at hl
      have hr := h2 i c l hc hl
      refine ⟨row_keep hr.1 fun g e => hg.block g (hlt i c g hc e) (fun e2 => h3.row i c g hc e e2.symm), hr.2⟩
    · rw [List.getElem?_append_right (by omega)] at hc hl
      cases hk : i - cs.length with
      | zero =>
        rw [hk] at hc
        rw [← hcl, hk] at hl
        simp at hc hl
        subst hc hl
        exact ⟨by simpa [ints1] using World.ownsRow_nil w' lo I 1, fun x hx => by cases hx⟩
      | succ k => rw [hk] at hc; simp at hc
  · intro i c g hc hb
    have hc' := split hc hb
    rcases ho with ho | ho
    · rw [ho]; exact h3.row i c g hc' hb
    · rw [ho]; intro e; have := hlt i c g hc' hb; simp at e; omega
  · intro i j ci cj g hi hj hbi hbj
    exact h3.each i j ci cj g (split hi hbi) (split hj hbj) hbi hbj
end
end Go.Proofs.Ytefbbbhidnnchaa
