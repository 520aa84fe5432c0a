/- Texts laid one behind the other (merge.py): Grp2, Reg. -/
import Derived.Test.YtlnhhfebmeekhaaLPut
import Derived.Test.YtlnhhfebmeekhaaZ10C
import Derived.Test.YtlnhhfebmeekhaaZ10B
namespace Go.Proofs.Ytlnhhfebmeekhaa
set_option linter.unusedVariables false
set_option linter.unusedSimpArgs false
open Go.RowKit

/-! ### Grp2 -/
section

theorem lput_lsrt (o : Pms) (p : List Int) : lput (lsrt o) p = lsrt (gAdd o p) := by
  unfold lput gAdd
  by_cases h : p ∈ o
  · rw [if_pos (lsrt_mem.2 h), if_pos h]
  · rw [if_neg (fun k => h (lsrt_mem.1 k)), if_neg h, lsrt_snoc]
/-- All are lists of n numbers below n. -/
def GOk (n : Nat) (o : Pms) : Prop := ∀ q ∈ o, q.length = n ∧ InRange n q
theorem comp_ok {n : Nat} {q p : List Int} (hq : q.length = n ∧ InRange n q) (hp : p.length = n ∧ InRange n p) : (comp q p).length = n ∧ InRange n (comp q p) := by
  refine ⟨by rw [comp_len]; exact hq.1, fun x hx => ?_⟩
  unfold comp at hx
  obtain ⟨y, hy, rfl⟩ := List.mem_map.1 hx
  have h1 := hq.2 y hy
  refine hp.2 _ ?_
  have hlt : y.toNat < p.length := by rw [hp.1]; omega
  rw [List.getD_eq_getElem?_getD, List.getElem?_eq_getElem hlt]
  exact List.getElem_mem hlt
theorem GOk.add {n : Nat} {o : Pms} {p : List Int} (h : GOk n o) (hp : p.length = n ∧ InRange n p) : GOk n (gAdd o p) := by
  unfold gAdd
  split
  · exact h
  · intro q hq
    rcases List.mem_append.1 hq with hq | hq
    · exact h q hq
    · rw [List.mem_singleton] at hq; subst hq; exact hp
theorem GOk.round {n : Nat} {c : Cls} {o : Pms} {q : List Int} (h : GOk n o) (h1 : c.1.length = n ∧ InRange n c.1) (h2 : c.2.length = n ∧ InRange n c.2) (hq : q ∈ o) : GOk n (gRound c o q) :=
  (h.add (comp_ok (h q hq) h1)).add (comp_ok (h q hq) h2)
theorem idL_ok (n : Nat) : (idL n).length = n ∧ InRange n (idL n) := by
  refine ⟨idL_len n, fun x hx => ?_⟩
  unfold idL at hx
  obtain ⟨i, hi, rfl⟩ := List.mem_map.1 hx
  have := List.mem_range.1 hi
  omega
theorem isCls_ok {c : Cls} (h : isCls c = true) : (1 ≤ c.1.length ∧ c.1.length ≤ 8) ∧ InRange c.1.length c.1 ∧ (c.2.length = c.1.length ∧ InRange c.1.length c.2) := by
  unfold isCls at h
  simp only [Bool.and_eq_true, decide_eq_true_eq] at h
  have h2 := isPerm_range h.2
  rw [h.1.1.2.2] at h2
  exact ⟨⟨h.1.1.1, h.1.1.2.1⟩, isPerm_range h.1.2, h.1.1.2.2, h2⟩
/-- A literal of one item that others share. -/
theorem GL.litr {α : Type} [Rep α] (lo : Nat) (w : World) (E : TypeId) {v : Value} {y : α} (h : lo ≤ w.heap.size) (hr : Rd false 0 w.heap.size w [v] y) : GL false lo 0 (w.heap.size + 1) (w.alloc (.cells #[v] E)) E (.slice (some ⟨w.heap.size, 0, none⟩) 1 1) [y] := by
  obtain ⟨fp, h1, h2⟩ := hr
  have hs' : 1 = Rep.sz α := Rep.len h1
  refine ⟨[[v]], [fp], ?_, ⟨Rep.keep h1 fun b hb => Below.heap_alloc w _ b (h2 b hb).2, trivial⟩, ?_, by simp [Value.ownBlock], fun e => by cases e⟩
  · exact ⟨by simp [← hs'], .inr ⟨w.heap.size, 1, #[v], rfl, h, heap_alloc_new w _, Nat.le_refl _, by simp [maxLen], by simp [← hs'], by simp [← hs']⟩⟩
  · intro b hb
    have hb2 : b ∈ fp := by simpa using hb
    have := (h2 b hb2).2
    exact ⟨Nat.zero_le _, by omega, by simp [Value.ownBlock]; omega⟩
/-- .. with what it takes. -/
theorem RdS.litr {S : Nat → Prop} (w : World) (E : TypeId) {v : Value} {y : List Int} (hr : RdS S w [v] y) (hS : S w.heap.size) : RdS S (w.alloc (.cells #[v] E)) [.slice (some ⟨w.heap.size, 0, none⟩) 1 1] [y] := by
  obtain ⟨fp, h1, h2⟩ := hr
  refine ⟨w.heap.size :: fp, ⟨_, rfl, some ⟨w.heap.size, 0, none⟩, 1, 1, rfl, rfl, Nat.le_refl _, by simp [maxLen], (fun h => by cases h), .inr ⟨w.heap.size, 0, [[v]], [fp], rfl, by simp, by simp, ⟨Rep.keep h1 fun b hb => Below.heap_alloc w _ b (h2 b hb).1, trivial⟩, ?_, (fun h => by cases h)⟩⟩, ?_⟩
  · intro j c hj
    match j, hj with
    | 0, hj => simp at hj; subst hj; simp [go_sem]
  · intro b hb
    rcases List.mem_cons.1 hb with rfl | hb
    · exact ⟨by simp, hS⟩
    · exact ⟨by have := (h2 b hb).1; simp; omega, (h2 b hb).2⟩
section
variable {P : Program} {α : Type} [Rep α] {nd : Bool} {lo lo' hi : Nat} {w : World} {E : TypeId} {v : Value} {xs : List α}
/-- As wpList_push; besides, where the row lies then. -/
theorem wpList_push_o {ops : Array Oper} {rest : List Oper} {o : Oper} {a : Act} {Q : Exit → Act → World → Prop} (hgd : o.guard = none) {s x : Operand} {t : TypeId}
    (ho : o.op = .call { callee := .builtin .append, args := #[s, x], argTypes := #[t, t] })
    {z0 : Value} {bytes : Nat} (hT : SlTy P t E z0 (Rep.sz α) bytes) (hsz : 0 < Rep.sz α) (hG : GL nd lo lo' hi w E v xs) (hs : a.eval s = v)
    {ad : Addr} {c : Nat} (hx : a.eval x = .slice (some ad) 1 c) {cs : List Value} {y : α} {lx hx' : Nat} (hcells : ∀ j u, cs[j]? = some u → w.cell? (ad.add j) = some u)
    (hy : It nd lx hx' w cs y) (hl : lo' ≤ lx) (hd : hi ≤ lx ∨ (hx' ≤ lo ∧ (nd = true → hx' ≤ lo'))) (h63 : xs.length + 1 ≤ maxLen) (hbytes : (xs.length + 1) * bytes ≤ 140737488355328) (hlo : lo ≤ w.heap.size)
    (h : ∀ v' w', GL nd lo lo' w'.heap.size w' E v' (xs ++ [y]) → w.grownBy w' v.ownBlock → Below lo w w' → (v'.ownBlock = v.ownBlock ∨ v'.ownBlock = some w.heap.size) → wpList P ops Q rest (a.put o.dst v') w') : wpList P ops Q (o :: rest) a w := by
  obtain ⟨fp, hr, hz, hn⟩ := hy
  have hG' := hG
  obtain ⟨css, fps, hown, _, hf, hg, _⟩ := hG'
  obtain ⟨v', w', hrun, h2, h3, hv, h5⟩ := run_push (P := P) (t := t) (ty := o.type) hT hsz hG (ao := some ad) (c := c) (css' := [cs]) (ys := [y]) (fps' := [fp]) ⟨hr, trivial⟩ (fun h => by cases h)
    (fun a e => by simp only [Option.some.injEq] at e; subst e; simpa using hcells)
    (fun b hb => by
      have hb' : b ∈ fp := by simpa using hb
      refine ⟨Nat.le_trans hl (hz b hb').1, fun e => ?_⟩
      have h1 := hg b e.symm
      have h2 := (hown.lt b e.symm).1
      have h3 := hz b hb'
      omega)
    (fun hnd => ⟨by simpa using hn hnd, fun b hb => by
      have hb' : b ∈ fp := by simpa using hb
      have h3 := hz b hb'
      rcases hd with hd | ⟨_, hd⟩
      · left; omega
      · right; have := hd hnd; omega⟩) (by simpa using h63) (by simpa using hbytes) hlo
  refine wpList_plain hgd fun K hK => ?_
  unfold Oper.wp execOp
  simp only [ho, resolve, invoke, builtin, Sem.run_bind, Sem.run_pure, Result.andThen_ok, List.map_toArray, List.map_cons, List.map_nil, hs, hx]
  simp only [List.length_cons, List.length_nil, Nat.zero_add] at hrun
  rw [hrun]
  exact hK _ _ (h v' w' h2 h3 h5 hv)
end

end

/-! ### Reg -/
section

def colI (l : Pms) (i : Nat) : List Int := l.map fun p => p.getD i 0
/-- Each of the first columns is a permutation. -/
def regTo (l : Pms) (i : Nat) : Bool := (List.range i).all fun k => isPerm (colI l k)
def isRegR (n : Nat) : Option Pms → Bool
  | none => false
  | some o => decide (o.length = n) && regTo (lsrt o) n
def isReg (c : Cls) : Bool := isCls c && isRegR c.1.length (gLoop c c.1.length (c.1.length + 2) 0 [idL c.1.length])
theorem colI_len (l : Pms) (i : Nat) : (colI l i).length = l.length := by simp [colI]
theorem regTo_succ (l : Pms) (i : Nat) : regTo l (i + 1) = (regTo l i && isPerm (colI l i)) := by
  unfold regTo
  rw [List.range_succ, List.all_append]
  simp
theorem regTo_no {l : Pms} {i n : Nat} (h : i < n) (h1 : regTo l (i + 1) = false) : regTo l n = false := by
  unfold regTo at *
  rw [List.all_eq_false] at *
  obtain ⟨k, hk, h2⟩ := h1
  exact ⟨k, List.mem_range.2 (by have := List.mem_range.1 hk; omega), h2⟩
theorem colI_drop {l : Pms} {i j : Nat} {p : List Int} {x : Int} (h : l[j]? = some p) (hx : p[i]? = some x) : (colI l i).drop j = x :: (colI l i).drop (j + 1) := by
  refine drop_cons ?_
  unfold colI
  rw [List.getElem?_map, h]
  simp [hx]
theorem gLoop_ok {c : Cls} {n : Nat} (h1 : InRange n c.1) (h2 : c.2.length = n ∧ InRange n c.2) (hl : c.1.length = n) : ∀ {most f i : Nat} {o o' : Pms}, GOk n o → o.length ≤ most → gLoop c most f i o = some o' → GOk n o' ∧ o'.length ≤ most
  | _, 0, _, _, _, _, _, h => by cases h
  | most, f + 1, i, o, o', ho, hm, h => by
    cases hq : o[i]? with
    | none =>
      rw [gLoop_none hq] at h
      obtain rfl := Option.some.inj h
      exact ⟨ho, hm⟩
    | some q =>
      by_cases hb : most < (gRound c o q).length
      · rw [gLoop_big hq hb] at h; cases h
      · rw [gLoop_go hq hb] at h
        exact gLoop_ok h1 h2 hl (ho.round ⟨hl, h1⟩ h2 (List.mem_of_getElem? hq)) (by omega) h

end

end Go.Proofs.Ytlnhhfebmeekhaa
