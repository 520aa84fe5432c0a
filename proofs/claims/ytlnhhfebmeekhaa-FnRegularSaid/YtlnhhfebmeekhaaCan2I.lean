/- Contracts of CanonicalClasses and SameClasses (impl). -/
import Derived.Test.YtlnhhfebmeekhaaCanI
namespace Go.Proofs.Ytlnhhfebmeekhaa
set_option linter.unusedVariables false
set_option linter.unusedSimpArgs false
open Go.RowKit

section
variable {z z' : Bool} {lo hi lo' hi' : Nat} (w : World) (u v u' v' : Value) (c d : Cls)
set_option maxHeartbeats 2000000 in
theorem canonicalI_any (h : Rd z lo hi w [u, v] c) :
    Calls Try.prog 13 #[.agg #[u, v]] w (PostOw2B w (canonR c) (canonV c)) := by
  obtain ⟨f, q⟩ := c
  obtain ⟨ao, n, cap, bo, n2, dap, rfl, rfl⟩ := shapeCls h
  obtain rfl : n = f.length := by
    obtain ⟨_, _, _, e, e2, -⟩ := (h.two rfl).1.shape
    simp only [Value.slice.injEq] at e; dsimp only at e2; omega
  obtain ⟨r1, hlet_r1⟩ : ∃ r, r = isCls (f, q) := ⟨_, rfl⟩
  have H1 := Lib.hid hlet_r1
  clear hlet_r1
  obtain ⟨r2, hlet_r2⟩ : ∃ r, r = decide (f.length ≤ 5) := ⟨_, rfl⟩
  have H2 := Lib.hid hlet_r2
  clear hlet_r2
  obtain ⟨V, hV⟩ : ∃ V, V = canonV (f, q) := ⟨_, rfl⟩
  obtain ⟨C, hC⟩ : ∃ C, C = canonR (f, q) := ⟨_, rfl⟩
  rw [← hV, ← hC]
  have HV := Lib.hid (show V = (r1 && r2) by rw [hV, canonV, H1.out, H2.out])
  have HC := Lib.hid (show C = if (r1 && r2) = true then canonC (f, q) else ([], []) by rw [hC, canonR, ← hV, HV.out])
  clear hV hC
  go_enter Try.func13, Try.ntmps13
  go_wp2_with fail
  refine (isClsI_b _ _ _ _ (h.below bwT) _ H1.out).mono ?_
  rintro e1 w1 ⟨rfl, hbw1⟩
  have hpw1 : Below w.heap.size w w1 := Below.after bwT hbw1 szT
  have sw1 := hpw1.size
  have hBw1 : Below w.heap.size w w1 := hpw1
  have l_a : w.heap.size < w1.heap.size := by have := hbw1.size; simp at this; omega
  have q_a0 : w1.cell? ⟨w.heap.size, 0, none⟩ = some (.slice ao f.length cap) := oldc hbw1 ltT (by simp [go_sem])
  have q_a1 : w1.cell? ⟨w.heap.size, 1, none⟩ = some (.slice bo n2 dap) := oldc hbw1 ltT (by simp [go_sem])
  have l_r : w.heap.size + 1 < w1.heap.size := by have := hbw1.size; simp at this; omega
  have q_r0 : w1.cell? ⟨w.heap.size + 1, 0, none⟩ = some (.slice none 0 0) := oldc hbw1 ltT (by simp [go_sem])
  have q_r1 : w1.cell? ⟨w.heap.size + 1, 1, none⟩ = some (.slice none 0 0) := oldc hbw1 ltT (by simp [go_sem])
  have f_r : ∀ o, w1.frozen? ⟨w.heap.size + 1, o, none⟩ = false := fun o => (hbw1.frozen (p := ⟨w.heap.size + 1, o, none⟩) ltT).trans (by simp [go_sem])
  clear hbw1 hpw1
  cases r1
  · go_wp2
    exact bodyPost_ret (v := .tuple #[.agg #[.slice none 0 0, .slice none 0 0], .bool false]) (by simp [results, go_sem, q_r0, q_r1]) rfl ⟨_, _, (by rw [HV.out]; rfl), (by rw [HC.out]; exact Ow.nil2 _ _ _), bwT⟩
  by_cases h5 : f.length ≤ 5
  · have h5' : ¬ (5 : Int) < (f.length : Int) := by omega
    obtain rfl : r2 = true := by rw [H2.out]; simp; omega
    go_wp2_with fail
    refine (canonI_any _ _ _ (f, q) (h.below bwT) H1.out.symm h5).mono ?_
    rintro e2 w2 ⟨x, y, rfl, ho, hbw2⟩
    have hpw2 : Below w1.heap.size w1 w2 := Below.after bwT hbw2 szT
    have sw2 := hpw2.size
    have hBw2 : Below w.heap.size w w2 := Below.trans hBw1 (Below.mono hpw2 hBw1.size)
    have q_a0 := oldc hpw2 l_a q_a0
    have q_a1 := oldc hpw2 l_a q_a1
    have q_r0 := oldc hpw2 l_r q_r0
    have q_r1 := oldc hpw2 l_r q_r1
    have f_r : ∀ o, w2.frozen? ⟨w.heap.size + 1, o, none⟩ = false := fun o => (hpw2.frozen (p := ⟨w.heap.size + 1, o, none⟩) l_r).trans (f_r o)
    have l_a := Nat.lt_of_lt_of_le l_a sw2
    have l_r := Nat.lt_of_lt_of_le l_r sw2
    clear hbw2 hpw2
    obtain ⟨xo, xn, xc, yo, yn, yc, rfl, rfl⟩ := shapeCls ho.rd
    have sN := hBw2.size
    have HO := Lib.hid ho
    clear ho
    go_wp2
    exact bodyPost_ret (v := .tuple #[.agg #[.slice xo xn xc, .slice yo yn yc], .bool true]) (by simp [results, go_sem, q_r0, q_r1]) rfl ⟨_, _, (by rw [HV.out]; rfl), (by rw [HC.out]; exact (HO.out.keep zmT).top.mono (by omega) (Nat.le_refl _)), bwT⟩
  · have h5' : (5 : Int) < (f.length : Int) := by omega
    obtain rfl : r2 = false := by rw [H2.out]; simp; omega
    go_wp2
    exact bodyPost_ret (v := .tuple #[.agg #[.slice none 0 0, .slice none 0 0], .bool false]) (by simp [results, go_sem, q_r0, q_r1]) rfl ⟨_, _, (by rw [HV.out]; rfl), (by rw [HC.out]; exact Ow.nil2 _ _ _), bwT⟩

set_option maxHeartbeats 2000000 in
theorem sameI_b (h : Rd z lo hi w [u, v] c) (h' : Rd z' lo' hi' w [u', v'] d) (r : Bool) (hr : r = (canonV c && canonV d && decide (canonR c = canonR d))) :
    Calls Try.prog 25 #[.agg #[u, v], .agg #[u', v']] w (PostB w r) := by
  obtain ⟨r1, hlet_r1⟩ : ∃ r, r = canonV c := ⟨_, rfl⟩
  have H1 := Lib.hid hlet_r1
  clear hlet_r1
  obtain ⟨r2, hlet_r2⟩ : ∃ r, r = canonV d := ⟨_, rfl⟩
  have H2 := Lib.hid hlet_r2
  clear hlet_r2
  obtain ⟨X, hlet_X⟩ : ∃ r, r = canonR c := ⟨_, rfl⟩
  have HX := Lib.hid hlet_X
  clear hlet_X
  obtain ⟨Y, hlet_Y⟩ : ∃ r, r = canonR d := ⟨_, rfl⟩
  have HY := Lib.hid hlet_Y
  clear hlet_Y
  obtain ⟨r3, hlet_r3⟩ : ∃ r, r = decide (X = Y) := ⟨_, rfl⟩
  have H3 := Lib.hid hlet_r3
  clear hlet_r3
  have HR := Lib.hid (show r = (r1 && r2 && r3) by rw [hr, H1.out, H2.out, H3.out, HX.out, HY.out])
  clear hr
  go_enter Try.func25, Try.ntmps25
  go_wp2_with fail
  refine (canonicalI_any _ _ _ c (h.below bwT)).mono ?_
  rintro e3 w3 ⟨x, y, rfl, ho, hbw3⟩
  have hpw3 : Below w.heap.size w w3 := Below.after bwT hbw3 szT
  have sw3 := hpw3.size
  have hBw3 : Below w.heap.size w w3 := hpw3
  have l_a : w.heap.size < w3.heap.size := by have := hbw3.size; simp at this; omega
  have q_a0 : w3.cell? ⟨w.heap.size, 0, none⟩ = some (u) := oldc hbw3 ltT (by simp [go_sem])
  have q_a1 : w3.cell? ⟨w.heap.size, 1, none⟩ = some (v) := oldc hbw3 ltT (by simp [go_sem])
  have l_b : w.heap.size + 1 < w3.heap.size := by have := hbw3.size; simp at this; omega
  have q_b0 : w3.cell? ⟨w.heap.size + 1, 0, none⟩ = some (u') := oldc hbw3 ltT (by simp [go_sem])
  have q_b1 : w3.cell? ⟨w.heap.size + 1, 1, none⟩ = some (v') := oldc hbw3 ltT (by simp [go_sem])
  clear hbw3 hpw3
  obtain ⟨xo, xn, xc, yo, yn, yc, rfl, rfl⟩ := shapeCls ho.rd
  rw [← HX.out] at ho
  rw [← H1.out]
  go_wp2_with fail
  refine (canonicalI_any _ _ _ d (h'.below bwT)).mono ?_
  rintro e4 w4 ⟨x', y', rfl, ho', hbw4⟩
  have hpw4 : Below w3.heap.size w3 w4 := Below.after bwT hbw4 szT
  have sw4 := hpw4.size
  have hBw4 : Below w.heap.size w w4 := Below.trans hBw3 (Below.mono hpw4 hBw3.size)
  have q_a0 := oldc hpw4 l_a q_a0
  have q_a1 := oldc hpw4 l_a q_a1
  have q_b0 := oldc hpw4 l_b q_b0
  have q_b1 := oldc hpw4 l_b q_b1
  have l_a := Nat.lt_of_lt_of_le l_a sw4
  have l_b := Nat.lt_of_lt_of_le l_b sw4
  have l_x : w3.heap.size < w4.heap.size := by have := hbw4.size; simp at this; omega
  have q_x0 : w4.cell? ⟨w3.heap.size, 0, none⟩ = some (.slice xo xn xc) := oldc hbw4 ltT (by simp [go_sem])
  have q_x1 : w4.cell? ⟨w3.heap.size, 1, none⟩ = some (.slice yo yn yc) := oldc hbw4 ltT (by simp [go_sem])
  have ho := Ow.below ho hpw4
  clear hbw4 hpw4
  obtain ⟨xo', xn', xc', yo', yn', yc', rfl, rfl⟩ := shapeCls ho'.rd
  rw [← HY.out] at ho'
  rw [← H2.out]
  cases r1
  · go_wp2
    go_ret
    exact ⟨ret_bool (by rw [HR.out]; rfl), bwT⟩
  cases r2
  · go_wp2
    go_ret
    exact ⟨ret_bool (by rw [HR.out]; rfl), bwT⟩
  go_wp2_with fail
  refine (equalClasses_b _ _ _ _ _ X Y (ho.rd.below bwT) (ho'.rd.below bwT) r3 H3.out).mono ?_
  rintro e5 w5 ⟨rfl, hbw5⟩
  have hpw5 : Below w4.heap.size w4 w5 := Below.after bwT hbw5 szT
  have sw5 := hpw5.size
  have hBw5 : Below w.heap.size w w5 := Below.trans hBw4 (Below.mono hpw5 hBw4.size)
  have q_a0 := oldc hpw5 l_a q_a0
  have q_a1 := oldc hpw5 l_a q_a1
  have q_b0 := oldc hpw5 l_b q_b0
  have q_b1 := oldc hpw5 l_b q_b1
  have q_x0 := oldc hpw5 l_x q_x0
  have q_x1 := oldc hpw5 l_x q_x1
  have l_a := Nat.lt_of_lt_of_le l_a sw5
  have l_b := Nat.lt_of_lt_of_le l_b sw5
  have l_x := Nat.lt_of_lt_of_le l_x sw5
  have l_y : w4.heap.size < w5.heap.size := by have := hbw5.size; simp at this; omega
  have q_y0 : w5.cell? ⟨w4.heap.size, 0, none⟩ = some (.slice xo' xn' xc') := oldc hbw5 ltT (by simp [go_sem])
  have q_y1 : w5.cell? ⟨w4.heap.size, 1, none⟩ = some (.slice yo' yn' yc') := oldc hbw5 ltT (by simp [go_sem])
  have ho := Ow.below ho hpw5
  have ho' := Ow.below ho' hpw5
  clear hbw5 hpw5
  go_wp2
  go_ret
  exact ⟨ret_bool (by rw [HR.out]; simp), bwT⟩
end
end Go.Proofs.Ytlnhhfebmeekhaa
