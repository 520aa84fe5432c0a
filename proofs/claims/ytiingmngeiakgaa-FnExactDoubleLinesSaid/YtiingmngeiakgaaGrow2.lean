/- Ours: more laws on growing slices: append at a step of a region that draws its order. -/
import Derived.Test.YtiingmngeiakgaaRel2
import Derived.Deep.AppendLies
import Derived.Deep.RegionHeldLaw
namespace Go.Proofs.Ytiingmngeiakgaa
set_option linter.unusedVariables false
set_option linter.unusedSimpArgs false
open Go.RowKit

section
variable {P : Program} {α : Type} [Rep α] {nd : Bool} {lo lo' hi : Nat} {w : World} {E : TypeId} {v : Value} {xs : List α}
theorem GL.form (h : GL nd lo lo' hi w E v xs) (hn : 0 < xs.length) : ∃ g cap, v = .slice (some ⟨g, 0, none⟩) xs.length cap ∧ lo ≤ g ∧ g < w.heap.size := by
  obtain ⟨css, fps, ho, _⟩ := h
  exact ho.form hn

theorem step_push {ops : Array Oper} {o : Oper} {a : Act} {K : Act → World → Prop} {Q : Exit → Act → World → Prop} {EE : Prop} (hgd : o.guard = none) {s x : Operand} {t : TypeId}
    (ho : o.op = .call { callee := .builtin .append, args := #[s, x], argTypes := #[t, t] })
    {z0 : Value} {bytes : Nat} (hT : SlTy P t E z0 (Rep.sz α) bytes) (hsz : 0 < Rep.sz α) (hG : GL nd lo lo' hi w E v xs) (hs : a.eval s = v)
    {ad : Addr} {c : Nat} (hx : a.eval x = .slice (some ad) 1 c) {cs : List Value} {y : α} {lx hx' : Nat} (hcells : ∀ j u, cs[j]? = some u → w.cell? (ad.add j) = some u)
    (hy : It nd lx hx' w cs y) (hl : lo' ≤ lx) (hd : hi ≤ lx ∨ (hx' ≤ lo ∧ (nd = true → hx' ≤ lo'))) (h63 : xs.length + 1 ≤ maxLen) (hbytes : (xs.length + 1) * bytes ≤ 140737488355328) (hlo : lo ≤ w.heap.size) {H : Nat} (hH : w.heap.size = H) {n : Nat} (hn : xs.length + 1 = n)
    (h : ∀ g cap w', GL nd lo lo' w'.heap.size w' E (.slice (some ⟨g, 0, none⟩) n cap) (xs ++ [y]) → w.grownBy w' v.ownBlock → (v.ownBlock = some g ∨ g = H) → lo ≤ g → g < w'.heap.size → Below lo w w' → K (a.put o.dst (.slice (some ⟨g, 0, none⟩) n cap)) w') :
    if Region.wanted o (yielded ops a.tmps) = true then Oper.wp P o a w K Q else EE := by
  have hw : Region.wanted o (yielded ops a.tmps) = true := by simp [Region.wanted, hgd]
  rw [if_pos hw]
  subst hH hn
  obtain ⟨fp, hr, hz, hnd⟩ := hy
  have hG' := hG
  obtain ⟨css, fps, hown, _, hf, hg, _⟩ := hG'
  obtain ⟨v', w', hrun, h2, h3, hv, h5⟩ := run_push (P := P) (t := t) (ty := o.type) hT hsz hG (ao := some ad) (c := c) (css' := [cs]) (ys := [y]) (fps' := [fp]) ⟨hr, trivial⟩ (fun h => by cases h)
    (fun a e => by simp only [Option.some.injEq] at e; subst e; simpa using hcells)
    (fun b hb => by
      have hb' : b ∈ fp := by simpa using hb
      refine ⟨Nat.le_trans hl (hz b hb').1, fun e => ?_⟩
      have h1 := hg b e.symm
      have h2 := (hown.lt b e.symm).1
      have h3 := hz b hb'
      omega)
    (fun hnd' => ⟨by simpa using hnd hnd', fun b hb => by
      have hb' : b ∈ fp := by simpa using hb
      have h3 := hz b hb'
      rcases hd with hd | ⟨_, hd⟩
      · left; omega
      · right; have := hd hnd'; omega⟩) (by simpa using h63) (by simpa using hbytes) hlo
  unfold Oper.wp execOp
  simp only [ho, resolve, invoke, builtin, Sem.run_bind, Sem.run_pure, Result.andThen_ok, List.map_toArray, List.map_cons, List.map_nil, hs, hx]
  simp only [List.length_cons, List.length_nil, Nat.zero_add] at hrun
  rw [hrun]
  obtain ⟨g, cap, e, hlg, hgw⟩ := h2.form (by simp)
  simp only [List.length_append, List.length_cons, List.length_nil, Nat.zero_add] at e
  subst e
  refine h g cap w' h2 h3 ?_ hlg hgw h5
  rcases hv with hv | hv
  · exact .inl (by rw [← hv]; rfl)
  · right; simpa [Value.ownBlock] using hv
end

/-- A list of flat items lies in its own row alone. -/
theorem GL.far {α : Type} [FlatRep α] {nd : Bool} {lo lo' hi : Nat} {w w' : World} {E : TypeId} {v : Value} {xs : List α} (h : GL nd lo lo' hi w E v xs) {row : Option Nat} (hg : w.grownBy w' row) (hr : ∀ g, v.ownBlock = some g → some g ≠ row) : GL nd lo lo' w'.heap.size w' E v xs := by
  obtain ⟨css, fps, ho, hz, hf, hgg, hn⟩ := h
  obtain ⟨hfl, hall⟩ := flats hz
  refine ⟨css, fps, ⟨ho.1, ?_⟩, hall _ _, (fun b (hb : b ∈ fps.flatten) => by rw [hfl] at hb; cases hb), fun g h => Nat.lt_of_lt_of_le (ho.lt g h).2 hg.size, hn⟩
  rcases ho.2 with h | ⟨g, cap, cur, rfl, hb, hh, r⟩
  · exact .inl h
  · exact .inr ⟨g, cap, cur, rfl, hb, by rw [hg.block g (ho.lt g rfl).2 (hr g rfl)]; exact hh, r⟩
theorem offF_drewN {fp : List Nat} {a w : World} (h : OffF fp a w) (n : Nat) : OffF fp a (w.drewN n) := ⟨h.os, h.tape, h.output, h.size, h.block⟩
theorem zone_drewN {lo hi : Nat} {a w : World} (h : Zone lo hi a w) (n : Nat) : Zone lo hi a (w.drewN n) := h
end Go.Proofs.Ytiingmngeiakgaa
