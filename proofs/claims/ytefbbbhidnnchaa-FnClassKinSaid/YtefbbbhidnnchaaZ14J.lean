/- Texts laid one behind the other (merge.py): Put, MkfC, MkfW, ParI. -/
import Derived.Test.YtefbbbhidnnchaaZ14I
import Derived.Test.YtefbbbhidnnchaaMkfB
import Derived.Test.YtefbbbhidnnchaaZ14B
namespace Go.Proofs.Ytefbbbhidnnchaa
set_option linter.unusedVariables false
set_option linter.unusedSimpArgs false
open Go.RowKit

/-! ### Put -/
section

/-- w' is w but for cells of block b from o on, n of them. -/
structure Wr (b o n : Nat) (w w' : World) : Prop where
  size : w'.heap.size = w.heap.size
  other : ∀ k, k ≠ b → w'.heap[k]? = w.heap[k]?
  cell : ∀ p, (p < o ∨ o + n ≤ p) → ∀ c, w.cell? ⟨b, p, none⟩ = some c → w'.cell? ⟨b, p, none⟩ = some c
  has : ∀ p c, w.cell? ⟨b, p, none⟩ = some c → ∃ d, w'.cell? ⟨b, p, none⟩ = some d
  frozen : ∀ p, w.frozen? ⟨b, p, none⟩ = false → w'.frozen? ⟨b, p, none⟩ = false
theorem Wr.refl (b o n : Nat) (w : World) : Wr b o n w w := ⟨rfl, fun _ _ => rfl, fun _ _ _ h => h, fun _ c h => ⟨c, h⟩, fun _ h => h⟩
theorem Wr.setCell {b o n : Nat} {w0 w : World} (h : Wr b o n w0 w) {p : Nat} (h1 : o ≤ p) (h2 : p < o + n) (u : Value) : Wr b o n w0 (w.setCell ⟨b, p, none⟩ u) := by
  refine ⟨by rw [← h.size]; simp, fun k hk => (Below.heap_setCell w ⟨b, p, none⟩ u k hk).trans (h.other k hk), fun q hq c hc => ?_, fun q c hc => ?_, fun q hq => frozen_setCell _ _ _ _ _ (h.frozen q hq)⟩
  · rw [cell_setCell w b p q u c (h.cell q hq c hc), if_neg (by omega)]
  · obtain ⟨d, hd⟩ := h.has q c hc
    exact ⟨_, cell_setCell w b p q u d hd⟩
/-- A cell that is written reads so. -/
theorem cell_here {w : World} {b p : Nat} {u c : Value} (h : w.cell? ⟨b, p, none⟩ = some c) : (w.setCell ⟨b, p, none⟩ u).cell? ⟨b, p, none⟩ = some u := by
  rw [cell_setCell w b p p u c h, if_pos rfl]
theorem cell_there {w : World} {b p q : Nat} {u c : Value} (h : w.cell? ⟨b, q, none⟩ = some c) (hne : p ≠ q) : (w.setCell ⟨b, p, none⟩ u).cell? ⟨b, q, none⟩ = some c := by
  rw [cell_setCell w b p q u c h, if_neg hne]

section
variable {α : Type} [Rep α]
theorem Zip.put {z : Bool} {w w' : World} : ∀ {cs : List (List Value)} {xs : List α} {fs : List (List Nat)} {i : Nat} {c : List Value} {f : List Nat} {y : α}, Zip (Rep.rep z w) cs xs fs → (∀ k ∈ fs.flatten, w'.heap[k]? = w.heap[k]?) → Rep.rep z w' c y f → Zip (Rep.rep z w') (cs.set i c) (xs.set i y) (fs.set i f)
  | [], [], [], i, c, f, y, _, _, _ => trivial
  | c0 :: cs, x0 :: xs, f0 :: fs, 0, c, f, y, h, hk, hy => ⟨hy, h.2.keep fun b hb => hk b (by simp only [List.flatten_cons, List.mem_append]; exact .inr hb)⟩
  | c0 :: cs, x0 :: xs, f0 :: fs, i + 1, c, f, y, h, hk, hy => ⟨Rep.keep h.1 fun b hb => hk b (by simp only [List.flatten_cons, List.mem_append]; exact .inl hb), Zip.put h.2 (fun b hb => hk b (by simp only [List.flatten_cons, List.mem_append]; exact .inr hb)) hy⟩
  | [], [], _ :: _, _, _, _, _, h, _, _ | [], _ :: _, _, _, _, _, _, h, _, _ | _ :: _, [], _, _, _, _, _, h, _, _ | _ :: _, _ :: _, [], _, _, _, _, h, _, _ => h.elim

theorem set_self {β : Type} : ∀ {l : List β} {i : Nat} {x : β}, l[i]? = some x → l.set i x = l
  | [], _, _, h => by simp at h
  | y :: l, 0, x, h => by simp at h; subst h; rfl
  | y :: l, i + 1, x, h => by rw [List.set_cons_succ, set_self (by simpa using h)]

/-- One cell of item i is written, the item's memory stays. -/
theorem rep_setd {w : World} {b off n cap : Nat} {xs : List α} {fp : List Nat} (h : Rep.rep true w [.slice (some ⟨b, off, none⟩) n cap] xs fp) (hn : fp.Nodup) {i j : Nat} {x y : α} {u : Value}
    (hx : xs[i]? = some x) (hj : j < Rep.sz α) (hy : ∀ cs f, Rep.rep true w cs x f → Rep.rep true w (cs.set j u) y f) :
    Rep.rep true (w.setCell ⟨b, off + (i * Rep.sz α + j), none⟩ u) [.slice (some ⟨b, off, none⟩) n cap] (xs.set i y) fp := by
  obtain ⟨v1, hv1, ao, n', cap', rfl, e1, e2, e3, e4, hr⟩ := h
  simp at hv1; obtain ⟨rfl, rfl, rfl⟩ := hv1
  have hil : i < xs.length := (List.getElem?_eq_some_iff.1 hx).1
  rcases hr with ⟨h0, _⟩ | ⟨b', off', css, fps, hb', hb, rfl, hzip, hcells, hf⟩
  · omega
  · simp only [Option.some.injEq, Addr.mk.injEq, and_true] at hb'
    obtain ⟨rfl, rfl⟩ := hb'
    rw [List.nodup_cons] at hn
    obtain ⟨c, f, q1, q2, q3⟩ := hzip.get hx
    have hbf : ∀ k ∈ fps.flatten, k ≠ b := fun k hk e => hn.1 (e ▸ hk)
    have hff : ∀ k ∈ f, k ≠ b := fun k hk => hbf k (List.mem_flatten.2 ⟨f, List.mem_of_getElem? q2, hk⟩)
    have hW : Wr b (off + i * Rep.sz α) (Rep.sz α) w (w.setCell ⟨b, off + (i * Rep.sz α + j), none⟩ u) := (Wr.refl _ _ _ _).setCell (by omega) (by omega) u
    have hset : css.flatten.set (i * Rep.sz α + j) u = (css.set i (c.set j u)).flatten := flat_set hzip.sizes q1 hj
    have hzs := hzip.put (i := i) (w' := w.setCell ⟨b, off + (i * Rep.sz α + j), none⟩ u) (fun k hk => hW.other k (hbf k hk)) (Rep.keep (hy c f q3) fun k hk => hW.other k (hff k hk))
    rw [set_self q2] at hzs
    refine ⟨_, rfl, _, _, _, rfl, by simpa using e1, e2, e3, e4, .inr ⟨b, off, _, _, rfl, by rw [hW.size]; exact hb, rfl, hzs, ?_, fun ht o => hW.frozen o (hf ht o)⟩⟩
    intro k d hk
    rw [← hset] at hk
    have hk' : k < css.flatten.length := by have := (List.getElem?_eq_some_iff.1 hk).1; simpa using this
    have hold := hcells k css.flatten[k] (List.getElem?_eq_getElem hk')
    rw [cell_setCell _ _ _ _ _ _ hold]
    rw [List.getElem?_set] at hk
    by_cases hkk : i * Rep.sz α + j = k
    · subst hkk
      rw [if_pos rfl, if_pos (by simpa using hk')] at hk
      simp at hk; subst hk; simp
    · rw [if_neg hkk, List.getElem?_eq_getElem hk'] at hk
      rw [if_neg (by omega)]; exact hk
end

section
variable {α : Type} [Rep α]
end
theorem Ow.flat0 {α : Type} [FlatRep α] {x : α} {cs : List Value} {z : Bool} {w0 : World} {fp : List Nat} (h : Rep.rep z w0 cs x fp) (lo : Nat) (w : World) : Ow lo lo w cs x := (It.flat (nd := true) h).ow
/-! ### what is laid item by item -/
section
variable {α : Type}
def lenBy (cnt : α → Nat) : List α → Nat
  | [] => 0
  | x :: xs => cnt x + lenBy cnt xs
def marksBy (cnt : α → Nat) (mk : Int → α → α) : Int → List α → List α
  | _, [] => []
  | k, x :: xs => mk k x :: marksBy cnt mk (k + cnt x) xs
end

end

/-! ### MkfC -/
section

theorem keep_set {W : World} {Q j : Nat} {u : Value} : ∀ b, b ≠ Q → (W.setCell ⟨Q, j, none⟩ u).heap[b]? = W.heap[b]? := fun b h => Below.heap_setCell W ⟨Q, j, none⟩ u b (by first | exact h | exact Ne.symm h)
theorem cell_far {W W' : World} {b o : Nat} {v : Value} (h : W'.heap[b]? = W.heap[b]?) (hv : W.cell? ⟨b, o, none⟩ = some v) : W'.cell? ⟨b, o, none⟩ = some v := (World.cell?_of_block (a := ⟨b, o, none⟩) h).trans hv
theorem frz_far {W W' : World} {b : Nat} (h : W'.heap[b]? = W.heap[b]?) (hv : ∀ o, W.frozen? ⟨b, o, none⟩ = false) : ∀ o, W'.frozen? ⟨b, o, none⟩ = false := fun o => (World.frozen?_of_block (a := ⟨b, o, none⟩) h).trans (hv o)
/-- The family in a box F (and an empty one in R), while the cursor p goes on; Q is no block of it. -/
structure FamBox (p R F Q : Nat) (w0 : World) (ps : List Per) (v : Value) (W : World) : Prop where
  q0 : W.cell? ⟨F, 0, none⟩ = some v
  q1 : W.cell? ⟨F, 1, none⟩ = some (.slice none 0 0)
  fF : ∀ o, W.frozen? ⟨F, o, none⟩ = false
  r0 : W.cell? ⟨R, 0, none⟩ = some (.slice none 0 0)
  r1 : W.cell? ⟨R, 1, none⟩ = some (.slice none 0 0)
  fR : ∀ o, W.frozen? ⟨R, o, none⟩ = false
  own : GX (fun b => F < b ∧ b ≠ Q) W 56 v ps
  cur : CurOk p W
  off : OffF [p] w0 W
  lF : F < W.heap.size
  pR : p < R
  RF : R < F
  h0 : w0.heap.size ≤ R
theorem FamBox.drew {p R F Q : Nat} {w0 W W' : World} {ps : List Per} {v : Value} (h : FamBox p R F Q w0 ps v W) (hO : OffF [p] W W') (hC : CurOk p W') : FamBox p R F Q w0 ps v W' := by
  have h1 := h.pR
  have h2 := h.RF
  have h3 := h.lF
  exact ⟨offq hO (by omega) h3 h.q0, offq hO (by omega) h3 h.q1, offfr hO (by omega) h3 h.fF, offq hO (by omega) (by omega) h.r0, offq hO (by omega) (by omega) h.r1, offfr hO (by omega) (by omega) h.fR,
    h.own.keep (fun b hl hS => hO.block b hl (by simp; omega)), hC, h.off.trans hO, Nat.lt_of_lt_of_le h3 hO.size, h1, h2, h.h0⟩
theorem FamBox.grow {p R F Q : Nat} {w0 W W' : World} {ps : List Per} {v : Value} (h : FamBox p R F Q w0 ps v W) (hb : Below W.heap.size W W') : FamBox p R F Q w0 ps v W' := h.drew (OffF.below (OffF.refl [p] W) hb) (h.cur.grow hb)
theorem FamBox.opens {p R F : Nat} {w0 W : World} {ps : List Per} {v : Value} (h : FamBox p R F 0 w0 ps v W) (o : Obj) : FamBox p R F W.heap.size w0 ps v (W.alloc o) := by
  have g := h.grow ((Below.refl W.heap.size W).alloc (Nat.le_refl _) o)
  exact { g with own := (h.own.mono (S' := fun b => F < b ∧ b ≠ W.heap.size) (fun b hl hS => ⟨hS.1, by omega⟩)).alloc o }
theorem FamBox.shuts {p R F Q : Nat} {w0 W : World} {ps : List Per} {v : Value} (h : FamBox p R F Q w0 ps v W) : FamBox p R F 0 w0 ps v W :=
  { h with own := h.own.mono (fun b _ hS => ⟨hS.1, by omega⟩) }
theorem FamBox.far {p R F Q : Nat} {w0 W W' : World} {ps : List Per} {v : Value} (h : FamBox p R F Q w0 ps v W) (hQ : F < Q) (hB : Below Q W W') (hk : ∀ b, b ≠ Q → W'.heap[b]? = W.heap[b]? ∨ W.heap.size ≤ b) : FamBox p R F Q w0 ps v W' := by
  have h1 := h.pR
  have h2 := h.RF
  have h3 := h.lF
  have h4 := h.h0
  have k : ∀ b, b ≠ Q → b < W.heap.size → W'.heap[b]? = W.heap[b]? := fun b hb hl => (hk b hb).resolve_right (by omega)
  exact ⟨cell_far (k F (by omega) h3) h.q0, cell_far (k F (by omega) h3) h.q1, frz_far (k F (by omega) h3) h.fF, cell_far (k R (by omega) (by omega)) h.r0, cell_far (k R (by omega) (by omega)) h.r1, frz_far (k R (by omega) (by omega)) h.fR,
    h.own.keep (fun b hl hS => k b hS.2 hl), h.cur.below (hB.mono (by omega)), h.off.belowA (hB.mono (by omega)), Nat.lt_of_lt_of_le h3 hB.size, h1, h2, h4⟩
theorem FamBox.setQ {p R F Q : Nat} {w0 W : World} {ps : List Per} {v : Value} (h : FamBox p R F Q w0 ps v W) (hQ : F < Q) (j : Nat) (u : Value) : FamBox p R F Q w0 ps v (W.setCell ⟨Q, j, none⟩ u) :=
  h.far hQ bwT (fun b hb => .inl (keep_set b hb))
/-- A person in a box. -/
structure QB (Q : Nat) (nm : ByteArray) (sx fa mo bo : Int) (W : World) : Prop where
  c0 : W.cell? ⟨Q, 0, none⟩ = some (.string nm)
  c1 : W.cell? ⟨Q, 1, none⟩ = some (.int .i64 sx)
  c2 : W.cell? ⟨Q, 2, none⟩ = some (.int .i64 fa)
  c3 : W.cell? ⟨Q, 3, none⟩ = some (.int .i64 mo)
  c4 : W.cell? ⟨Q, 4, none⟩ = some (.int .i64 bo)
  c5 : W.cell? ⟨Q, 5, none⟩ = some (.int .i64 (-1))
  fQ : ∀ o, W.frozen? ⟨Q, o, none⟩ = false
  lQ : Q < W.heap.size
theorem QB.far {Q : Nat} {nm : ByteArray} {sx fa mo bo : Int} {W W' : World} (h : QB Q nm sx fa mo bo W) (hk : W'.heap[Q]? = W.heap[Q]?) (hs : W.heap.size ≤ W'.heap.size) : QB Q nm sx fa mo bo W' :=
  ⟨cell_far hk h.c0, cell_far hk h.c1, cell_far hk h.c2, cell_far hk h.c3, cell_far hk h.c4, cell_far hk h.c5, frz_far hk h.fQ, Nat.lt_of_lt_of_le h.lQ hs⟩
theorem QB.drew {p Q : Nat} {nm : ByteArray} {sx fa mo bo : Int} {W W' : World} (h : QB Q nm sx fa mo bo W) (hO : OffF [p] W W') (hp : Q ≠ p) : QB Q nm sx fa mo bo W' := h.far (hO.block Q h.lQ (by simpa using hp)) hO.size
theorem QB.grow {Q : Nat} {nm : ByteArray} {sx fa mo bo : Int} {W W' : World} (h : QB Q nm sx fa mo bo W) (hb : Below W.heap.size W W') : QB Q nm sx fa mo bo W' := h.far (hb.block Q h.lQ) hb.size
theorem QB.new (W : World) (nm : ByteArray) (sx fa mo bo : Int) (t : TypeId) : QB W.heap.size nm sx fa mo bo (W.alloc (.cells #[.string nm, .int .i64 sx, .int .i64 fa, .int .i64 mo, .int .i64 bo, .int .i64 (-1)] t)) := by
  constructor <;> simp [go_sem]
theorem QB.put2 {Q : Nat} {nm : ByteArray} {sx fa mo bo : Int} {W : World} (h : QB Q nm sx fa mo bo W) (x : Int) : QB Q nm sx x mo bo (W.setCell ⟨Q, 2, none⟩ (.int .i64 x)) :=
  ⟨cell_there h.c0 (by omega), cell_there h.c1 (by omega), cell_here h.c2, cell_there h.c3 (by omega), cell_there h.c4 (by omega), cell_there h.c5 (by omega), fun o => frozen_setCell _ _ _ _ _ (h.fQ o), by simp; exact h.lQ⟩
theorem QB.put3 {Q : Nat} {nm : ByteArray} {sx fa mo bo : Int} {W : World} (h : QB Q nm sx fa mo bo W) (x : Int) : QB Q nm sx fa x bo (W.setCell ⟨Q, 3, none⟩ (.int .i64 x)) :=
  ⟨cell_there h.c0 (by omega), cell_there h.c1 (by omega), cell_there h.c2 (by omega), cell_here h.c3, cell_there h.c4 (by omega), cell_there h.c5 (by omega), fun o => frozen_setCell _ _ _ _ _ (h.fQ o), by simp; exact h.lQ⟩
theorem QB.put4 {Q : Nat} {nm : ByteArray} {sx fa mo bo : Int} {W : World} (h : QB Q nm sx fa mo bo W) (x : Int) : QB Q nm sx fa mo x (W.setCell ⟨Q, 4, none⟩ (.int .i64 x)) :=
  ⟨cell_there h.c0 (by omega), cell_there h.c1 (by omega), cell_there h.c2 (by omega), cell_there h.c3 (by omega), cell_here h.c4, cell_there h.c5 (by omega), fun o => frozen_setCell _ _ _ _ _ (h.fQ o), by simp; exact h.lQ⟩
/-- A slice of one person that is written out. -/
theorem Ow.per1 (w : World) (E : TypeId) {nm : ByteArray} {sx fa mo bo di : Int} (h0 : nm.size ≤ maxLen) (h1 : I64 sx) (h2 : I64 fa) (h3 : I64 mo) (h4 : I64 bo) (h5 : I64 di) :
    Ow w.heap.size (w.heap.size + 1) (w.alloc (.cells #[.string nm, .int .i64 sx, .int .i64 fa, .int .i64 mo, .int .i64 bo, .int .i64 di] E)) [.slice (some ⟨w.heap.size, 0, none⟩) 1 1] ([(nm, sx, fa, mo, bo, di)] : List Per) := by
  refine ⟨[w.heap.size], ⟨_, rfl, _, _, _, rfl, rfl, Nat.le_refl _, by simp [maxLen], (fun h => by cases h), .inr ⟨w.heap.size, 0, [[.string nm, .int .i64 sx, .int .i64 fa, .int .i64 mo, .int .i64 bo, .int .i64 di]], [[]], rfl, by simp, by simp, ⟨repPer_mk h0 h1 h2 h3 h4 h5, trivial⟩, ?_, ?_⟩⟩, fun b hb => by simp at hb; omega, by simp⟩
  · intro j c hj
    simp only [Nat.zero_add]
    rw [World.cell?_alloc_new]
    simpa using hj
  · intro _ o
    simp [go_sem]
theorem cells_per (w : World) (nm : ByteArray) (sx fa mo bo di : Int) (t : TypeId) : ∀ (j : Nat) (c : Value), [Value.string nm, .int .i64 sx, .int .i64 fa, .int .i64 mo, .int .i64 bo, .int .i64 di][j]? = some c → (w.alloc (.cells #[.string nm, .int .i64 sx, .int .i64 fa, .int .i64 mo, .int .i64 bo, .int .i64 di] t)).cell? ((⟨w.heap.size, 0, none⟩ : Addr).add j) = some c := by
  intro j c hj
  match j, hj with
  | 0, hj => simp at hj; subst hj; simp [Addr.add, go_sem]
  | 1, hj => simp at hj; subst hj; simp [Addr.add, go_sem]
  | 2, hj => simp at hj; subst hj; simp [Addr.add, go_sem]
  | 3, hj => simp at hj; subst hj; simp [Addr.add, go_sem]
  | 4, hj => simp at hj; subst hj; simp [Addr.add, go_sem]
  | 5, hj => simp at hj; subst hj; simp [Addr.add, go_sem]
/-- The list behind a push, stored in its box. -/
theorem FamBox.push {p R F Q : Nat} {w0 W W' : World} {ps : List Per} {x : Per} {v v' : Value} (h : FamBox p R F Q w0 ps v W) (hQ : F < Q) (hx : GX (fun b => F < b ∧ b ≠ Q) W' 56 v' (ps ++ [x])) (hg : W.grownBy W' v.ownBlock) : FamBox p R F Q w0 (ps ++ [x]) v' (W'.setCell ⟨F, 0, none⟩ v') := by
  have h1 := h.pR
  have h2 := h.RF
  have h3 := h.lF
  have h4 := h.h0
  have hz := hg.size
  have kk : ∀ b, b ≤ F → W'.heap[b]? = W.heap[b]? := fun b hb => hg.block b (by omega) (fun e => by have := (h.own.lt e.symm).2.1; omega)
  have hB : Below F W (W'.setCell ⟨F, 0, none⟩ v') := by
    refine ⟨?_, ?_, ?_, ?_, ?_⟩
    · exact hg.os
    · exact hg.tape
    · exact hg.output
    · simp; exact hz
    · intro b hb; rw [keep_set b (by omega)]; exact kk b (by omega)
  have c0 : W'.cell? ⟨F, 0, none⟩ = some v := cell_far (kk F (Nat.le_refl _)) h.q0
  have c1 : W'.cell? ⟨F, 1, none⟩ = some (.slice none 0 0) := cell_far (kk F (Nat.le_refl _)) h.q1
  exact ⟨cell_here c0, cell_there c1 (by omega), fun o => frozen_setCell _ _ _ _ _ (frz_far (kk F (Nat.le_refl _)) h.fF o), oldc hB (by omega) h.r0, oldc hB (by omega) h.r1, fun o => (hB.frozen (p := ⟨R, o, none⟩) (by show R < F; omega)).trans (h.fR o),
    hx.keep (fun b _ hS => keep_set b (by omega)), h.cur.below (hB.mono (by omega)), h.off.belowA (hB.mono (by omega)), by simp; omega, h1, h2, h4⟩

end

/-! ### MkfW -/
section

def PostFam (p most : Nat) (w : World) (e : Ending) (w' : World) : Prop := ∃ (a b : Value) (f : Fam), e = .returned (.agg #[a, b]) ∧ Rd false w.heap.size w'.heap.size w' [a, b] f ∧ Hid (famB f = true ∧ f.1.length ≤ most) ∧ CurOk p w' ∧ OffF [p] w w'
def PostFamL (lo p most : Nat) (w : World) (e : Ending) (w' : World) : Prop := ∃ (a b : Value) (f : Fam), e = .returned (.agg #[a, b]) ∧ Rd false lo w'.heap.size w' [a, b] f ∧ Hid (famB f = true ∧ f.1.length ≤ most) ∧ CurOk p w' ∧ OffF [p] w w'

end

/-! ### ParI -/
section

set_option maxRecDepth 20000 in
set_option maxHeartbeats 4000000 in
theorem parI_b {z : Bool} {lo hi : Nat} (w : World) (v : Value) (ps : List Per) (h : Rd z lo hi w [v] ps) (k : Nat) (hP : PplTo ps k) {nm : ByteArray} {sx fa mo born di : Int} (hk : ps[k]? = some (nm, sx, fa, mo, born, di)) (q : Int) (sex late : Int) (hl0 : 0 ≤ late) (hl1 : late ≤ 1)
    (r : Bool) (hr : r = upOk ps k born q sex late) :
    Calls Try.prog 61 #[v, .int .i64 k, .int .i64 q, .int .i64 sex, .int .i64 late] w (PostB w r) := by
  obtain ⟨ao, n, cap, rfl, rfl, hnc, hcm, hnone⟩ := h.shape
  unfold maxLen at *
  have hkl : k < ps.length := (List.getElem?_eq_some_iff.1 hk).1
  have HR := Lib.hid hr
  clear hr
  by_cases h1 : q = -1
  · obtain rfl : r = true := by rw [HR.out, upOk]; simp [h1]
    subst h1
    clear h hP
    go_enter Try.func61, Try.ntmps61
    go_wp2
    go_ret
    exact ⟨rfl, bwT⟩
  have h1' : (q == -1) = false := by simpa using h1
  by_cases h2 : 0 ≤ q ∧ q < k
  · obtain ⟨m, rfl⟩ := Int.eq_ofNat_of_zero_le h2.1
    have hm : m < k := by omega
    obtain ⟨b, off, nm0, sx0, fa0, mo0, bo0, di0, rfl, hx, p0, p1, p2, p3, p4, p5, g0, g1, g2, g3, g4, g5, -, -, hbl, -⟩ := h.per_at (show m < ps.length by omega)
    obtain ⟨_, _, nm1, sx1, fa1, mo1, bo1, di1, ee, hy, -, -, -, -, c4, -, -, -, -, -, -, -, -, -, -, -⟩ := h.per_at hkl
    simp only [Option.some.injEq, Addr.mk.injEq, and_true] at ee
    obtain ⟨rfl, rfl⟩ := ee
    obtain ⟨rfl, rfl, rfl, rfl, rfl, rfl⟩ : nm = nm1 ∧ sx = sx1 ∧ fa = fa1 ∧ mo = mo1 ∧ born = bo1 ∧ di = di1 := by
      have := hk.symm.trans hy.out
      simpa using this
    obtain ⟨-, f2, f3, -⟩ := hP.at hm hx.out
    have HB := Lib.hid (show r = (decide (sx0 = sex) && (decide (bo0 < born) && (decide (di0 = -1) || decide (born ≤ di0 + late)))) by
      rw [HR.out, upOk, upC, Int.toNat_natCast, hx.out]
      have e1 : ¬ ((m : Nat) : Int) = -1 := by omega
      have e2 : (0 : Int) ≤ ((m : Nat) : Int) ∧ ((m : Nat) : Int) < (k : Int) := by omega
      simp only [e1, e2, decide_false, decide_true, and_self, Bool.false_or, Bool.true_and]
      rw [Bool.decide_or])
    have hI1 : ¬ ((m : Nat) : Int) < 0 := by omega
    have hI2 : ¬ ((k : Nat) : Int) ≤ ((m : Nat) : Int) := by omega
    have hI3 : ((m : Nat) : Int) < (ps.length : Int) := by omega
    have hI4 : ((k : Nat) : Int) < (ps.length : Int) := by omega
    have hwr : IntKind.i64.wrap (di0 + late) = di0 + late := IntWalk.i64_in _ (by omega)
    have nb1 : ¬ b = w.heap.size := by omega
    have nb2 : ¬ w.heap.size = b := by omega
    clear h hP hx hy hk HR h2 f2 f3
    by_cases q1 : sx0 = sex
    · have q1' : (sx0 == sex) = true := by simpa using q1
      by_cases q2 : bo0 < born
      · by_cases q3 : di0 = -1
        · have q3' : (di0 == -1) = true := by simpa using q3
          obtain rfl : r = true := by rw [HB.out]; simp [*]
          clear HB
          go_enter Try.func61, Try.ntmps61
          go_wp2_with fail
          go_quiet (fail)
          go_wp2
          go_ret
          exact ⟨rfl, bwT⟩
        · have q3' : (di0 == -1) = false := by simpa using q3
          by_cases q4 : born ≤ di0 + late
          · obtain rfl : r = true := by rw [HB.out]; simp [*]
            clear HB
            go_enter Try.func61, Try.ntmps61
            go_wp2_with fail
            go_quiet (fail)
            go_wp2
            go_ret
            exact ⟨rfl, bwT⟩
          · have q4' : decide (born ≤ di0 + late) = false := by simpa using q4
            obtain rfl : r = false := by rw [HB.out]; simp [q1, q2, q3, q4]
            clear HB
            go_enter Try.func61, Try.ntmps61
            go_wp2_with fail
            go_quiet (fail)
            go_wp2
            go_ret
            exact ⟨rfl, bwT⟩
      · have q2' : decide (bo0 < born) = false := by simpa using q2
        obtain rfl : r = false := by rw [HB.out]; simp [q1, q2]
        clear HB
        go_enter Try.func61, Try.ntmps61
        go_wp2_with fail
        go_quiet (fail)
        go_wp2
        go_ret
        exact ⟨rfl, bwT⟩
    · have q1' : (sx0 == sex) = false := by simpa using q1
      obtain rfl : r = false := by rw [HB.out]; simp [q1]
      clear HB
      go_enter Try.func61, Try.ntmps61
      go_wp2_with fail
      go_quiet (fail)
      go_wp2
      go_ret
      exact ⟨rfl, bwT⟩
  · obtain rfl : r = false := by rw [HR.out, upOk]; simp [h1]; omega
    clear h hP HR
    go_enter Try.func61, Try.ntmps61
    go_wp2
    all_goals first
      | (exfalso; omega)
      | (go_ret; exact ⟨rfl, bwT⟩)

end

end Go.Proofs.Ytefbbbhidnnchaa
