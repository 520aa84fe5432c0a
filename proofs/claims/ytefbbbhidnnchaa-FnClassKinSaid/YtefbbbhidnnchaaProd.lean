/- Lemmas for ProductClasses. -/
import Derived.Test.YtefbbbhidnnchaaZ14D
namespace Go.Proofs.Ytefbbbhidnnchaa
set_option linter.unusedVariables false
set_option linter.unusedSimpArgs false
open Go.RowKit

def prodL (m : Int) (f g : List Int) : List Int := f.flatMap fun x => g.map fun y => x * m + y
def prodV (c d : Cls) : Bool := isCls c && isCls d && decide (c.1.length * d.1.length ≤ 8)
def prodC (c d : Cls) : Cls := if prodV c d = true then (prodL d.1.length c.1 d.1, prodL d.1.length c.2 d.2) else ([], [])

theorem prodL_len (m : Int) (f g : List Int) : (prodL m f g).length = f.length * g.length := by
  induction f with
  | nil => simp [prodL]
  | cons x f ih => simp only [prodL, List.flatMap_cons, List.length_append, List.length_map, List.length_cons] at ih ⊢; rw [ih, Nat.add_mul]; omega

theorem prodL_row {m : Int} {f g : List Int} {i : Nat} {x : Int} (h : f[i]? = some x) : prodL m (f.take (i + 1)) g = prodL m (f.take i) g ++ g.map fun y => x * m + y := by
  rw [take_snoc h]; simp [prodL]

/-- The two growing lists of a product. -/
structure Grows (G : Nat) (wb wr : World) (E : TypeId) (l1 l2 : List Int) : Prop where
  at_ : ∃ v1 v2, wr.cell? ⟨G, 0, none⟩ = some v1 ∧ wr.cell? ⟨G, 1, none⟩ = some v2 ∧ GL true (G + 1) (G + 1) wr.heap.size wr E v1 l1 ∧ GL true (G + 1) (G + 1) wr.heap.size wr E v2 l2 ∧ (∀ g, v1.ownBlock = some g → v2.ownBlock ≠ some g)
  fr : ∀ o, wr.frozen? ⟨G, o, none⟩ = false
  lt : G < wr.heap.size
  below : Below G wb wr

theorem GL.own1 {α : Type} [FlatRep α] {lo lo' hi : Nat} {w : World} {E : TypeId} {v : Value} {xs : List α} (h : GL true lo lo' hi w E v xs) (hn : 0 < xs.length) :
    ∃ g cap, v = .slice (some ⟨g, 0, none⟩) xs.length cap ∧ lo ≤ g ∧ g < w.heap.size ∧ Ow g (g + 1) w [.slice (some ⟨g, 0, none⟩) xs.length cap] xs := by
  obtain ⟨g, cap, rfl, h1, h2⟩ := h.form hn
  obtain ⟨css, fps, ho, hz, hf, hgg, hnd⟩ := h
  obtain ⟨hfl, hall⟩ := flats hz
  refine ⟨g, cap, rfl, h1, h2, (GL.ow (lo := g) (lo' := g) (hi := g + 1) (E := E) ⟨css, fps, ⟨ho.1, ?_⟩, hz, (fun b (hb : b ∈ fps.flatten) => by rw [hfl] at hb; cases hb), (fun k hk => by simp [Value.ownBlock] at hk; omega), hnd⟩ (Nat.le_refl _) (Nat.le_refl _))⟩
  rcases ho.2 with ⟨e, _⟩ | ⟨g', cap', cur, e, hb, hh, r⟩
  · cases e
  · simp only [Value.slice.injEq, Option.some.injEq, Addr.mk.injEq, and_true, true_and] at e
    obtain ⟨rfl, rfl⟩ := e
    exact .inr ⟨g, cap, cur, rfl, Nat.le_refl _, hh, r⟩

theorem Grows.fin {G : Nat} {wb wr : World} {E : TypeId} {l1 l2 : List Int} (h : Grows G wb wr E l1 l2) (h1 : 0 < l1.length) (h2 : 0 < l2.length) :
    ∃ g1 c1 g2 c2, wr.cell? ⟨G, 0, none⟩ = some (.slice (some ⟨g1, 0, none⟩) l1.length c1) ∧ wr.cell? ⟨G, 1, none⟩ = some (.slice (some ⟨g2, 0, none⟩) l2.length c2) ∧ Ow (G + 1) wr.heap.size wr [.slice (some ⟨g1, 0, none⟩) l1.length c1, .slice (some ⟨g2, 0, none⟩) l2.length c2] ((l1, l2) : Cls) := by
  obtain ⟨⟨v1, v2, q1, q2, hG1, hG2, hne⟩, _⟩ := h
  obtain ⟨g1, c1, rfl, a1, a2, o1⟩ := hG1.own1 h1
  obtain ⟨g2, c2, rfl, b1, b2, o2⟩ := hG2.own1 h2
  have : g2 ≠ g1 := fun e => hne g1 rfl (by simp [Value.ownBlock, e])
  exact ⟨g1, c1, g2, c2, q1, q2, Ow.pair o1 o2 (by omega) (by omega) (by omega) (by omega) (by omega)⟩

theorem GL.olt {α : Type} [Rep α] {nd : Bool} {lo lo' hi : Nat} {w : World} {E : TypeId} {v : Value} {xs : List α} (h : GL nd lo lo' hi w E v xs) {g : Nat} (hg : v.ownBlock = some g) : lo ≤ g ∧ g < w.heap.size := by
  obtain ⟨css, fps, ho, _⟩ := h
  exact ho.lt g hg

theorem laid1 {w : World} {B : Nat} {u : Value} (h : w.cell? ⟨B, 0, none⟩ = some u) : ∀ j c, [u][j]? = some c → w.cell? ((⟨B, 0, none⟩ : Addr).add j) = some c := by
  intro j c hj
  match j, hj with
  | 0, hj => simp at hj; subst hj; simpa [Addr.add] using h

theorem Grows.mk1 {G : Nat} {wb W w5 : World} {E : TypeId} {l1 l2 : List Int} {v1 v2 u : Value} {g n c : Nat} (hb : Below G wb W) (q1 : W.cell? ⟨G, 0, none⟩ = some u) (q2 : W.cell? ⟨G, 1, none⟩ = some v2) (hfr : ∀ o, W.frozen? ⟨G, o, none⟩ = false) (hl : G < W.heap.size)
    (hG2 : GL true (G + 1) (G + 1) W.heap.size W E v2 l2) (hne : ∀ g, v1.ownBlock = some g → v2.ownBlock ≠ some g)
    (hG5 : GL true (G + 1) (G + 1) w5.heap.size w5 E (.slice (some ⟨g, 0, none⟩) n c) l1) (hg5 : W.grownBy w5 v1.ownBlock) (hat : v1.ownBlock = some g ∨ g = W.heap.size) (hb5 : Below (G + 1) W w5) :
    Grows G wb (w5.setCell ⟨G, 0, none⟩ (.slice (some ⟨g, 0, none⟩) n c)) E l1 l2 := by
  have q1' := oldc hb5 (Nat.lt_succ_self _) q1
  have q2' := oldc hb5 (Nat.lt_succ_self _) q2
  refine ⟨⟨_, v2, ?_, ?_, (hG5.keep znT znT).top, ((hG2.far hg5 (fun k hk e => hne k e.symm hk)).keep znT znT).top, ?_⟩, fun o => ?_, ?_, ?_⟩
  · rw [cell_setCell _ _ _ _ _ _ q1']; simp
  · rw [cell_setCell _ _ _ _ _ _ q2']; simp
  · intro k hk e
    have hkg : k = g := by simpa [Value.ownBlock, eq_comm] using hk
    subst hkg
    rcases hat with hat | hat
    · exact hne _ hat e
    · have := (hG2.olt e).2; omega
  · exact frozen_setCell _ _ _ _ _ ((hb5.frozen (p := ⟨G, o, none⟩) (Nat.lt_succ_self _)).trans (hfr o))
  · have := hb5.size; simp; omega
  · exact (hb.trans (hb5.mono (Nat.le_succ _))).setCell (Nat.le_refl _) _

theorem Grows.mk2 {G : Nat} {wb W w5 : World} {E : TypeId} {l1 l2 : List Int} {v1 v2 u : Value} {g n c : Nat} (hb : Below G wb W) (q2 : W.cell? ⟨G, 1, none⟩ = some u) (q1 : W.cell? ⟨G, 0, none⟩ = some v1) (hfr : ∀ o, W.frozen? ⟨G, o, none⟩ = false) (hl : G < W.heap.size)
    (hG1 : GL true (G + 1) (G + 1) W.heap.size W E v1 l1) (hne : ∀ g, v1.ownBlock = some g → v2.ownBlock ≠ some g)
    (hG5 : GL true (G + 1) (G + 1) w5.heap.size w5 E (.slice (some ⟨g, 0, none⟩) n c) l2) (hg5 : W.grownBy w5 v2.ownBlock) (hat : v2.ownBlock = some g ∨ g = W.heap.size) (hb5 : Below (G + 1) W w5) :
    Grows G wb (w5.setCell ⟨G, 1, none⟩ (.slice (some ⟨g, 0, none⟩) n c)) E l1 l2 := by
  have q1' := oldc hb5 (Nat.lt_succ_self _) q1
  have q2' := oldc hb5 (Nat.lt_succ_self _) q2
  refine ⟨⟨v1, _, ?_, ?_, ((hG1.far hg5 (fun k hk e => hne k hk e.symm)).keep znT znT).top, (hG5.keep znT znT).top, ?_⟩, fun o => ?_, ?_, ?_⟩
  · rw [cell_setCell _ _ _ _ _ _ q1']; simp
  · rw [cell_setCell _ _ _ _ _ _ q2']; simp
  · intro k hk e
    have hkg : k = g := by simpa [Value.ownBlock, eq_comm] using e
    subst hkg
    rcases hat with hat | hat
    · exact hne _ hk hat
    · have := (hG1.olt hk).2; omega
  · exact frozen_setCell _ _ _ _ _ ((hb5.frozen (p := ⟨G, o, none⟩) (Nat.lt_succ_self _)).trans (hfr o))
  · have := hb5.size; simp; omega
  · exact (hb.trans (hb5.mono (Nat.le_succ _))).setCell (Nat.le_refl _) _

/-- What is known of two systems that are valid. -/
def SpecFact (f1 f2 g1 g2 : List Int) : Prop := InRange f1.length f1 ∧ InRange f1.length f2 ∧ InRange g1.length g1 ∧ InRange g1.length g2 ∧ f2.length = f1.length ∧ g2.length = g1.length

end Go.Proofs.Ytefbbbhidnnchaa
