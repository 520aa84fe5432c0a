/- Contracts of the laws' helpers on kin types: size, copy, compare, mark, held. -/
import Derived.Test.YtdjnogcljmaapaaTyStep
import Derived.Test.YtdjnogcljmaapaaCls
namespace Go.Proofs.Ytdjnogcljmaapaa
set_option linter.unusedVariables false
set_option linter.unusedSimpArgs false
open Go.RowKit

theorem Rd.kin {z : Bool} {lo hi : Nat} {w : World} {a b : Value} {t : Kin} (h : Rd z lo hi w [a, b] t) : a = .int .i64 t.1 ∧ I64 t.1 ∧ Rd z lo hi w [b] t.2 := by
  obtain ⟨fp, ⟨c1, c2, f1, f2, e, rfl, ⟨rfl, hI, rfl⟩, h2⟩, hz⟩ := h
  simp only [List.cons_append, List.nil_append, List.cons.injEq] at e
  obtain ⟨rfl, rfl⟩ := e
  exact ⟨rfl, hI, f2, h2, by simpa using hz⟩
theorem shapeKin {z : Bool} {lo hi : Nat} {w : World} {a b : Value} {t : Kin} (h : Rd z lo hi w [a, b] t) : ∃ e ao n cap, a = .int .i64 e ∧ b = .slice ao n cap := by
  obtain ⟨rfl, -, h2⟩ := h.kin
  obtain ⟨ao, n, cap, rfl, -⟩ := h2.shape
  exact ⟨_, ao, n, cap, rfl, rfl⟩
theorem Ow.kin_mk {lo hi : Nat} {w : World} {e : Int} {b : Value} {l : List Stp} (hI : I64 e) (h : Ow lo hi w [b] l) : Ow lo hi w [.int .i64 e, b] ((e, l) : Kin) := by
  obtain ⟨fp, h1, hz, hn⟩ := h
  exact ⟨fp, ⟨[_], [b], [], fp, rfl, rfl, ⟨rfl, hI, rfl⟩, h1⟩, hz, hn⟩
theorem Rd.kin_mk {z : Bool} {lo hi : Nat} {w : World} {e : Int} {b : Value} {l : List Stp} (hI : I64 e) (h : Rd z lo hi w [b] l) : Rd z lo hi w [.int .i64 e, b] ((e, l) : Kin) := by
  obtain ⟨fp, h1, hz⟩ := h
  exact ⟨fp, ⟨[_], [b], [], fp, rfl, rfl, ⟨rfl, hI, rfl⟩, h1⟩, hz⟩

theorem szStepS_any {z : Bool} {lo hi : Nat} (w : World) (v : Value) (xs : List Stp) (h : Rd z lo hi w [v] xs) (left : Int) (h0 : 0 ≤ left) (h1 : left ≤ 1048576) :
    Calls Try.prog 68 #[v, .int .i64 left] w (PostI w (if left < xs.length then -1 else left - xs.length)) := by
  obtain ⟨ao, n, cap, rfl, rfl, hnc, hcm, hnone⟩ := h.shape
  clear h
  unfold maxLen at *
  by_cases hlt : left < xs.length
  · go_enter Try.func68, Try.ntmps68
    go_wp2
    go_ret
    exact ⟨by first | rfl | exact ret_int (if_pos hlt).symm, Below.refl _ _⟩
  · go_enter Try.func68, Try.ntmps68
    go_wp2
    go_ret
    exact ⟨by first | rfl | exact ret_int (if_neg hlt).symm, Below.refl _ _⟩
theorem szKinType_any {z : Bool} {lo hi : Nat} (w : World) (a b : Value) (t : Kin) (h : Rd z lo hi w [a, b] t) (left : Int) (h0 : 0 ≤ left) (h1 : left ≤ 1048576) :
    Calls Try.prog 16 #[.agg #[a, b], .int .i64 left] w (PostI w (if left < t.2.length then -1 else left - t.2.length)) := by
  obtain ⟨rfl, -, hb⟩ := h.kin
  clear h
  by_cases hlt : left < t.2.length
  · go_enter Try.func16, Try.ntmps16
    go_wp2_with fail
    refine (szStepS_any _ _ t.2 (hb.below (by repeat' (first | (with_reducible exact Below.refl _ _) | (with_reducible assumption) | (with_reducible refine Below.alloc ?_ (by first | omega | (simp; omega) | simp) _) | (with_reducible refine Below.setCell ?_ (by first | omega | (simp; omega) | simp) _) | (with_reducible refine Below.drew ?_) | (with_reducible refine below_drewN ?_ _)))) left h0 h1).mono ?_
    rintro e1 w1 ⟨rfl, hbw1⟩
    have hpw1 : Below w.heap.size w w1 := Below.after (by repeat' (first | (with_reducible exact Below.refl _ _) | (with_reducible assumption) | (with_reducible refine Below.alloc ?_ (by first | omega | (simp; omega) | simp) _) | (with_reducible refine Below.setCell ?_ (by first | omega | (simp; omega) | simp) _) | (with_reducible refine Below.drew ?_) | (with_reducible refine below_drewN ?_ _))) hbw1 (by first | omega | (simp only [World.size_alloc, World.size_setCell, World.size_drew] at *; omega) | (simp; omega) | simp)
    have sw1 := hpw1.size
    have hBw1 : Below w.heap.size w w1 := hpw1
    have l_a : w.heap.size < w1.heap.size := by have := hbw1.size; simp at this; omega
    have q_a0 : w1.cell? ⟨w.heap.size, 0, none⟩ = some (.int .i64 t.1) := oldc hbw1 (by first | omega | (simp; omega) | (simp; done)) (by simp [go_sem])
    have q_a1 : w1.cell? ⟨w.heap.size, 1, none⟩ = some (b) := oldc hbw1 (by first | omega | (simp; omega) | (simp; done)) (by simp [go_sem])
    clear hbw1 hpw1
    rw [if_pos hlt]
    clear hb
    go_wp2
    go_ret
    exact ⟨rfl, hBw1⟩
  · have hge : ¬ left - (t.2.length : Int) < 0 := by omega
    go_enter Try.func16, Try.ntmps16
    go_wp2_with fail
    refine (szStepS_any _ _ t.2 (hb.below (by repeat' (first | (with_reducible exact Below.refl _ _) | (with_reducible assumption) | (with_reducible refine Below.alloc ?_ (by first | omega | (simp; omega) | simp) _) | (with_reducible refine Below.setCell ?_ (by first | omega | (simp; omega) | simp) _) | (with_reducible refine Below.drew ?_) | (with_reducible refine below_drewN ?_ _)))) left h0 h1).mono ?_
    rintro e2 w2 ⟨rfl, hbw2⟩
    have hpw2 : Below w.heap.size w w2 := Below.after (by repeat' (first | (with_reducible exact Below.refl _ _) | (with_reducible assumption) | (with_reducible refine Below.alloc ?_ (by first | omega | (simp; omega) | simp) _) | (with_reducible refine Below.setCell ?_ (by first | omega | (simp; omega) | simp) _) | (with_reducible refine Below.drew ?_) | (with_reducible refine below_drewN ?_ _))) hbw2 (by first | omega | (simp only [World.size_alloc, World.size_setCell, World.size_drew] at *; omega) | (simp; omega) | simp)
    have sw2 := hpw2.size
    have hBw2 : Below w.heap.size w w2 := hpw2
    have l_a : w.heap.size < w2.heap.size := by have := hbw2.size; simp at this; omega
    have q_a0 : w2.cell? ⟨w.heap.size, 0, none⟩ = some (.int .i64 t.1) := oldc hbw2 (by first | omega | (simp; omega) | (simp; done)) (by simp [go_sem])
    have q_a1 : w2.cell? ⟨w.heap.size, 1, none⟩ = some (b) := oldc hbw2 (by first | omega | (simp; omega) | (simp; done)) (by simp [go_sem])
    clear hbw2 hpw2
    rw [if_neg (show ¬ left < (t.2.length : Int) by omega)]
    clear hb
    go_wp2
    go_ret
    exact ⟨rfl, hBw2⟩
set_option maxHeartbeats 1000000 in
theorem toKinType_any {z : Bool} {lo hi : Nat} (w : World) (a b : Value) (t : Kin) (h : Rd z lo hi w [a, b] t) (h1 : t.2.length ≤ 1048576) :
    Calls Try.prog 19 #[.agg #[a, b]] w (PostOw2 w t) := by
  obtain ⟨rfl, hI, hb⟩ := h.kin
  have HI := Lib.hid hI
  clear h hI
  go_enter Try.func19, Try.ntmps19
  go_wp2_with fail
  refine (toStepS_any _ _ _ (hb.below (by go_grown)) h1).mono ?_
  rintro e w1 ⟨u, rfl, how1, hb1⟩
  have hB1 : Below w.heap.size w w1 := Below.after (by go_grown) hb1 (by simp; omega)
  have s1 := hb1.size
  obtain ⟨hc, hf⟩ := bcell hb1
  simp only [World.size_alloc, World.size_setCell] at how1 s1 hc hf
  obtain ⟨ao1, n1, cap1, rfl, -⟩ := how1.rd.shape
  obtain ⟨l0, l1, l2⟩ : w.heap.size < w1.heap.size ∧ w.heap.size + 1 < w1.heap.size ∧ w.heap.size + 1 + 1 < w1.heap.size := by omega
  have HO := Lib.hid (Ow.kin_mk HI.out how1)
  clear how1 hb hb1
  go_wp2
  exact bodyPost_ret (v := .agg #[.int .i64 t.1, .slice ao1 n1 cap1]) (by simp [results, Try.results19, go_sem, hc, l0, l1, l2]) rfl ⟨_, _, rfl, (HO.out.keep (by repeat' (first | (with_reducible exact Zone.refl _ _ _) | (with_reducible refine Zone.setCell ?_ (Or.inl (by first | omega | (simp; omega) | simp)) _) | (with_reducible refine Zone.alloc ?_ (by first | omega | (simp; omega) | simp) _) | (with_reducible refine Zone.drew ?_)))).top.mono (by omega) (by simp), (by repeat' (first | (with_reducible exact Below.refl _ _) | (with_reducible assumption) | (with_reducible refine Below.alloc ?_ (by first | omega | (simp; omega) | simp) _) | (with_reducible refine Below.setCell ?_ (by first | omega | (simp; omega) | simp) _) | (with_reducible refine Below.drew ?_) | (with_reducible refine below_drewN ?_ _)))⟩
set_option maxHeartbeats 1000000 in
theorem eqKinType_b {z z' : Bool} {lo hi lo' hi' : Nat} (w : World) (u1 u2 v1 v2 : Value) (x y : Kin) (h : Rd z lo hi w [u1, u2] x) (h' : Rd z' lo' hi' w [v1, v2] y) (r : Bool) (hr : r = decide (x = y)) :
    Calls Try.prog 23 #[.agg #[u1, u2], .agg #[v1, v2]] w (PostB w r) := by
  obtain ⟨rfl, -, hx2⟩ := h.kin
  obtain ⟨rfl, -, hy2⟩ := h'.kin
  obtain ⟨x1, x2⟩ := x
  obtain ⟨y1, y2⟩ := y
  obtain ⟨r1, hlet_r1⟩ : ∃ r, r = decide (x1 = y1) := ⟨_, rfl⟩
  have H1 := Lib.hid hlet_r1
  clear hlet_r1
  obtain ⟨r2, hlet_r2⟩ : ∃ r, r = decide (x2 = y2) := ⟨_, rfl⟩
  have H2 := Lib.hid hlet_r2
  clear hlet_r2
  have HR := Lib.hid (show r = (r1 && r2) by rw [hr, H1.out, H2.out]; simp [Prod.mk.injEq])
  clear hr h h'
  dsimp only at hx2 hy2
  cases r1
  · have q : (x1 != y1) = true := by have := H1.out; simp at this ⊢; exact this
    clear hx2 hy2
    go_enter Try.func23, Try.ntmps23
    go_wp2
    go_ret
    exact ⟨ret_bool (by rw [HR.out]; rfl), (by repeat' (first | (with_reducible exact Below.refl _ _) | (with_reducible assumption) | (with_reducible refine Below.alloc ?_ (by first | omega | (simp; omega) | simp) _) | (with_reducible refine Below.setCell ?_ (by first | omega | (simp; omega) | simp) _) | (with_reducible refine Below.drew ?_) | (with_reducible refine below_drewN ?_ _)))⟩
  · have q : (x1 != y1) = false := by have := H1.out; simp at this ⊢; exact this
    go_enter Try.func23, Try.ntmps23
    go_wp2_with fail
    refine (eqStepS_b _ _ _ x2 y2 (hx2.below (by repeat' (first | (with_reducible exact Below.refl _ _) | (with_reducible assumption) | (with_reducible refine Below.alloc ?_ (by first | omega | (simp; omega) | simp) _) | (with_reducible refine Below.setCell ?_ (by first | omega | (simp; omega) | simp) _) | (with_reducible refine Below.drew ?_) | (with_reducible refine below_drewN ?_ _)))) (hy2.below (by repeat' (first | (with_reducible exact Below.refl _ _) | (with_reducible assumption) | (with_reducible refine Below.alloc ?_ (by first | omega | (simp; omega) | simp) _) | (with_reducible refine Below.setCell ?_ (by first | omega | (simp; omega) | simp) _) | (with_reducible refine Below.drew ?_) | (with_reducible refine below_drewN ?_ _)))) _ H2.out).mono ?_
    rintro e3 w3 ⟨rfl, hbw3⟩
    have hpw3 : Below w.heap.size w w3 := Below.after (by repeat' (first | (with_reducible exact Below.refl _ _) | (with_reducible assumption) | (with_reducible refine Below.alloc ?_ (by first | omega | (simp; omega) | simp) _) | (with_reducible refine Below.setCell ?_ (by first | omega | (simp; omega) | simp) _) | (with_reducible refine Below.drew ?_) | (with_reducible refine below_drewN ?_ _))) hbw3 (by first | omega | (simp only [World.size_alloc, World.size_setCell, World.size_drew] at *; omega) | (simp; omega) | simp)
    have sw3 := hpw3.size
    have hBw3 : Below w.heap.size w w3 := hpw3
    have l_a : w.heap.size < w3.heap.size := by have := hbw3.size; simp at this; omega
    have q_a0 : w3.cell? ⟨w.heap.size, 0, none⟩ = some (.int .i64 x1) := oldc hbw3 (by first | omega | (simp; omega) | (simp; done)) (by simp [go_sem])
    have q_a1 : w3.cell? ⟨w.heap.size, 1, none⟩ = some (u2) := oldc hbw3 (by first | omega | (simp; omega) | (simp; done)) (by simp [go_sem])
    have l_b : w.heap.size + 1 < w3.heap.size := by have := hbw3.size; simp at this; omega
    have q_b0 : w3.cell? ⟨w.heap.size + 1, 0, none⟩ = some (.int .i64 y1) := oldc hbw3 (by first | omega | (simp; omega) | (simp; done)) (by simp [go_sem])
    have q_b1 : w3.cell? ⟨w.heap.size + 1, 1, none⟩ = some (v2) := oldc hbw3 (by first | omega | (simp; omega) | (simp; done)) (by simp [go_sem])
    clear hbw3 hpw3
    cases r2
    · go_wp2
      go_ret
      exact ⟨ret_bool (by rw [HR.out]; rfl), hBw3⟩
    go_wp2
    go_ret
    exact ⟨ret_bool (by rw [HR.out]; rfl), hBw3⟩
end Go.Proofs.Ytdjnogcljmaapaa
