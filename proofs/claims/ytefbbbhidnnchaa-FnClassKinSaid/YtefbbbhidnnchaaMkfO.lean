/- A family in a box whose persons are written in place. -/
import Derived.Test.YtefbbbhidnnchaaMkfU
namespace Go.Proofs.Ytefbbbhidnnchaa
set_option linter.unusedVariables false
set_option linter.unusedSimpArgs false
open Go.RowKit

structure FamO (p R F : Nat) (w0 : World) (ps : List Per) (v : Value) (W : World) : Prop where
  q0 : W.cell? ⟨F, 0, none⟩ = some v
  q1 : W.cell? ⟨F, 1, none⟩ = some (.slice none 0 0)
  fF : ∀ o, W.frozen? ⟨F, o, none⟩ = false
  r0 : W.cell? ⟨R, 0, none⟩ = some (.slice none 0 0)
  r1 : W.cell? ⟨R, 1, none⟩ = some (.slice none 0 0)
  fR : ∀ o, W.frozen? ⟨R, o, none⟩ = false
  own : Ow (F + 1) W.heap.size W [v] ps
  cur : CurOk p W
  off : OffF [p] w0 W
  lF : F < W.heap.size
  pR : p < R
  RF : R < F
  h0 : w0.heap.size ≤ R
theorem FamBox.toO {p R F Q : Nat} {w0 W : World} {ps : List Per} {v : Value} (h : FamBox p R F Q w0 ps v W) : FamO p R F w0 ps v W :=
  ⟨h.q0, h.q1, h.fF, h.r0, h.r1, h.fR, h.own.ow (fun b hl hS => ⟨hS.1, hl⟩), h.cur, h.off, h.lF, h.pR, h.RF, h.h0⟩
theorem FamO.drew {p R F : Nat} {w0 W W' : World} {ps : List Per} {v : Value} (h : FamO p R F w0 ps v W) (hO : OffF [p] W W') (hC : CurOk p W') : FamO p R F w0 ps v W' := by
  have h1 := h.pR
  have h2 := h.RF
  have h3 := h.lF
  exact ⟨offq hO (by omega) h3 h.q0, offq hO (by omega) h3 h.q1, offfr hO (by omega) h3 h.fF, offq hO (by omega) (by omega) h.r0, offq hO (by omega) (by omega) h.r1, offfr hO (by omega) (by omega) h.fR,
    (h.own.keep (offzn hO (.inl (by omega)) (Nat.le_refl _))).mono (Nat.le_refl _) hO.size, hC, h.off.trans hO, Nat.lt_of_lt_of_le h3 hO.size, h1, h2, h.h0⟩
theorem FamO.grow {p R F : Nat} {w0 W W' : World} {ps : List Per} {v : Value} (h : FamO p R F w0 ps v W) (hb : Below W.heap.size W W') : FamO p R F w0 ps v W' := h.drew (OffF.below (OffF.refl [p] W) hb) (h.cur.grow hb)
theorem FamO.die {p R F : Nat} {w0 W : World} {ps : List Per} {b off n cap : Nat} {i : Nat} {nm : ByteArray} {sx fa mo bo di d : Int} (h : FamO p R F w0 ps (.slice (some ⟨b, off, none⟩) n cap) W) (hi : i < n) (hx : ps[i]? = some (nm, sx, fa, mo, bo, di)) (hd : I64 d) : FamO p R F w0 (setDie ps i d) (.slice (some ⟨b, off, none⟩) n cap) (W.setCell ⟨b, off + i * 6 + 5, none⟩ (.int .i64 d)) := by
  have h1 := h.pR
  have h2 := h.RF
  have h3 := h.lF
  have h4 := h.h0
  obtain ⟨_, _, _, _, _, _, _, _, e, -, -, -, -, -, -, x5, -, -, -, -, -, -, hbl, -, hbs, -⟩ := h.own.rd.per_at hi
  simp only [Option.some.injEq, Addr.mk.injEq, and_true] at e
  obtain ⟨rfl, rfl⟩ := e
  have hB : Below (F + 1) W (W.setCell ⟨b, off + i * 6 + 5, none⟩ (.int .i64 d)) := bwT
  have kk : ∀ q, q ≠ b → (W.setCell ⟨b, off + i * 6 + 5, none⟩ (.int .i64 d)).heap[q]? = W.heap[q]? := keep_set
  refine ⟨cell_far (kk F (by omega)) h.q0, cell_far (kk F (by omega)) h.q1, frz_far (kk F (by omega)) h.fF, cell_far (kk R (by omega)) h.r0, cell_far (kk R (by omega)) h.r1, frz_far (kk R (by omega)) h.fR, ?_, h.cur.below (hB.mono (by omega)), h.off.belowA (hB.mono (by omega)), by simp; exact h3, h1, h2, h4⟩
  obtain ⟨fp, hr, hz, hn⟩ := h.own
  rw [setDie_at hx]
  refine ⟨fp, ?_, fun q hq => ?_, hn⟩
  · have := rep_setd hr hn (i := i) (j := 5) (x := (nm, sx, fa, mo, bo, di)) (y := (nm, sx, fa, mo, bo, d)) (u := .int .i64 d) hx (by show 5 < 6; omega) (fun cs f hcf => by
      obtain ⟨rfl, g0, g1, g2, g3, g4, g5, rfl⟩ := repPer_inv hcf
      exact repPer_mk g0 g1 g2 g3 g4 hd)
    simpa [Rep.sz, Nat.add_assoc] using this
  · have := hz q hq
    simp; exact this
theorem setDie_bo {ps : List Per} {i : Nat} {d lim : Int} (h : ∀ (k : Nat) (x : Per), ps[k]? = some x → 0 ≤ x.2.2.2.2.1 ∧ x.2.2.2.2.1 ≤ lim) {k : Nat} {x : Per} (hx : (setDie ps i d)[k]? = some x) : 0 ≤ x.2.2.2.2.1 ∧ x.2.2.2.2.1 ≤ lim := by
  unfold setDie at hx
  split at hx
  · rename_i nm sx fa mo bo di hi
    rw [List.getElem?_set] at hx
    split at hx
    · split at hx
      · obtain rfl := Option.some.inj hx
        have := h i _ hi
        exact this
      · cases hx
    · exact h k x hx
  · exact h k x hx
end Go.Proofs.Ytefbbbhidnnchaa
