/- Contracts of the laws' helpers on lists of lists of numbers: compare, mark, held. -/
import Derived.Test.YtdjnogcljmaapaaCls
namespace Go.Proofs.Ytdjnogcljmaapaa
set_option linter.unusedVariables false
set_option linter.unusedSimpArgs false
open Go.RowKit

theorem Rd.lists_at {z : Bool} {lo hi : Nat} {w : World} {xs : List (List Int)} {ao : Option Addr} {n cap : Nat} (h : Rd z lo hi w [.slice ao n cap] xs) {i : Nat} (hi' : i < n) :
    ∃ b off p v, ao = some ⟨b, off, none⟩ ∧ Hid (xs[i]? = some p) ∧ w.cell? ⟨b, off + i, none⟩ = some v ∧ Rd z lo hi w [v] p ∧ lo ≤ b ∧ b < hi ∧ b < w.heap.size := by
  obtain ⟨b, off, p, cs, e, hx, hr, hl, h1, h2, h3, hc, hf⟩ := h.at hi'
  obtain ⟨v, rfl⟩ : ∃ v, cs = [v] := by
    match cs, hl with
    | [v], _ => exact ⟨v, rfl⟩
  exact ⟨b, off, p, v, e, hx, by have := hc 0 v rfl; simpa [Rep.sz] using this, hr, h1, h2, h3⟩


/-- The marks laid from k on, list by list. -/
def marksSS (k : Int) : List (List Int) → List (List Int)
  | [] => []
  | p :: ps => marks k p.length :: marksSS (k + p.length) ps
def lenSS : List (List Int) → Nat
  | [] => 0
  | p :: ps => p.length + lenSS ps
theorem lenSS_app : ∀ a b : List (List Int), lenSS (a ++ b) = lenSS a + lenSS b
  | [], b => by simp [lenSS]
  | p :: a, b => by rw [List.cons_append, lenSS, lenSS, lenSS_app a b]; omega
theorem lenSS_take {ps : List (List Int)} {k : Nat} {p : List Int} (h : ps[k]? = some p) : lenSS (ps.take (k + 1)) = lenSS (ps.take k) + p.length := by
  rw [take_snoc h, lenSS_app]; simp [lenSS]
theorem lenSS_le (ps : List (List Int)) (k : Nat) : lenSS (ps.take k) ≤ lenSS ps := by
  have := lenSS_app (ps.take k) (ps.drop k)
  rw [List.take_append_drop] at this; omega
theorem marksSS_len : ∀ (k : Int) (ps : List (List Int)), (marksSS k ps).length = ps.length
  | _, [] => rfl
  | k, p :: ps => by rw [marksSS, List.length_cons, marksSS_len, List.length_cons]
theorem marksSS_at : ∀ {ps : List (List Int)} {i : Nat} {p : List Int} (k : Int), ps[i]? = some p → (marksSS k ps)[i]? = some (marks (k + lenSS (ps.take i)) p.length)
  | [], i, p, _, h => by simp at h
  | q :: ps, 0, p, k, h => by simp at h; subst h; simp [marksSS, lenSS]
  | q :: ps, i + 1, p, k, h => by
    rw [marksSS, List.getElem?_cons_succ, marksSS_at (k + q.length) (by simpa using h)]
    simp only [List.take_succ_cons, lenSS]
    congr 2; push_cast; omega

section
variable {α : Type} [Rep α]
/-- One item has turned, in its own memory. -/
theorem Zip.mark {z : Bool} {w w' : World} : ∀ {cs : List (List Value)} {xs : List α} {fs : List (List Nat)} {i : Nat} {c : List Value} {f : List Nat} {y : α}, Zip (Rep.rep z w) cs xs fs → fs.flatten.Nodup → cs[i]? = some c → fs[i]? = some f → Rep.rep z w' c y f →
    (∀ b, b < w.heap.size → b ∉ f → w'.heap[b]? = w.heap[b]?) → Zip (Rep.rep z w') cs (xs.set i y) fs
  | [], [], [], i, c, f, y, _, _, hc, _, _, _ => by simp at hc
  | c0 :: cs, x0 :: xs, f0 :: fs, 0, c, f, y, h, hn, hc, hf, hy, hk => by
    simp at hc hf; subst hc hf
    rw [List.flatten_cons, List.nodup_append] at hn
    exact ⟨hy, h.2.keep fun b hb => hk b (h.2.lt b hb) (fun hm => hn.2.2 b hm b hb rfl)⟩
  | c0 :: cs, x0 :: xs, f0 :: fs, i + 1, c, f, y, h, hn, hc, hf, hy, hk => by
    rw [List.flatten_cons, List.nodup_append] at hn
    refine ⟨Rep.keep h.1 fun b hb => hk b (Rep.lt h.1 b hb) (fun hm => ?_), Zip.mark h.2 hn.2.1 (by simpa using hc) (by simpa using hf) hy hk⟩
    exact hn.2.2 b hb b (List.mem_flatten.2 ⟨f, List.mem_of_getElem? (by simpa using hf), hm⟩) rfl
  | [], [], _ :: _, _, _, _, _, h, _, _, _, _, _ | [], _ :: _, _, _, _, _, _, h, _, _, _, _, _ | _ :: _, [], _, _, _, _, _, h, _, _, _, _, _ | _ :: _, _ :: _, [], _, _, _, _, h, _, _, _, _, _ => h.elim

/-- Item i of an owned list of one-cell items, and the way back when that item has turned in its own memory. -/
theorem rep_item {w : World} {ao : Option Addr} {n cap : Nat} {xs : List α} {fp : List Nat} (h : Rep.rep true w [.slice ao n cap] xs fp) (hn : fp.Nodup) {i : Nat} (hi' : i < n) :
    ∃ b off x cs f, ao = some ⟨b, off, none⟩ ∧ Hid (xs[i]? = some x) ∧ Rep.rep true w cs x f ∧ f.Nodup ∧ cs.length = Rep.sz α ∧ b < w.heap.size ∧ (∀ j c, cs[j]? = some c → w.cell? ⟨b, off + (i * Rep.sz α + j), none⟩ = some c) ∧ (∀ k ∈ f, k ∈ fp) ∧
      Hid (∀ (w' : World) (y : α), Rep.rep true w' cs y f → OffF f w w' → Rep.rep true w' [.slice ao n cap] (xs.set i y) fp) := by
  obtain ⟨v', hv, ao', n', cap', rfl, h1, h2, h3, h4, h⟩ := h
  simp at hv; obtain ⟨rfl, rfl, rfl⟩ := hv
  rcases h with ⟨rfl, _⟩ | ⟨b, off, css, fps, rfl, hb, rfl, hzip, hc, hf⟩
  · omega
  · have hx : xs[i]? = some xs[i] := List.getElem?_eq_getElem (by omega)
    obtain ⟨cs, f, e1, e2, r⟩ := hzip.get hx
    rw [List.nodup_cons] at hn
    have hfm : ∀ k ∈ f, k ∈ fps.flatten := fun k hk => List.mem_flatten.2 ⟨f, List.mem_of_getElem? e2, hk⟩
    have hbf : b ∉ f := fun hm => hn.1 (hfm b hm)
    refine ⟨b, off, xs[i], cs, f, rfl, hx, r, ?_, Rep.len r, hb, fun j c hj => hc _ c ?_, fun k hk => List.mem_cons_of_mem _ (hfm k hk), ?_⟩
    · exact hn.2.sublist (List.sublist_flatten_of_mem (List.mem_of_getElem? e2))
    · rw [cellsAt_flat hzip.sizes e1 j (by rw [← Rep.len r]; exact (List.getElem?_eq_some_iff.1 hj).1)]; exact hj
    · intro w' y hy ho
      have hbk : w'.heap[b]? = w.heap[b]? := ho.block b hb hbf
      refine ⟨_, rfl, some ⟨b, off, none⟩, n, cap, rfl, by simpa using h1, h2, h3, h4, .inr ⟨b, off, css, fps, rfl, Nat.lt_of_lt_of_le hb ho.size, rfl, hzip.mark hn.2 e1 e2 hy (fun k hk hkf => ho.block k hk hkf), ?_, ?_⟩⟩
      · intro j c hj
        rw [World.cell?_of_block (w := w) (a := ⟨b, off + j, none⟩) hbk]; exact hc j c hj
      · intro hz o
        rw [World.frozen?_of_block (w := w) (a := ⟨b, o, none⟩) hbk]; exact hf hz o
end


end Go.Proofs.Ytdjnogcljmaapaa
