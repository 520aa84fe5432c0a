/- Contract of l1Person. -/
import Derived.Test.YtiingmngeiakgaaParS
namespace Go.Proofs.Ytiingmngeiakgaa
set_option linter.unusedVariables false
set_option linter.unusedSimpArgs false
open Go.RowKit

set_option maxRecDepth 20000 in
set_option maxHeartbeats 4000000 in
theorem perS_b {z : Bool} {lo hi : Nat} (w : World) (v v2 : Value) (ps : List Per) (h : Rd z lo hi w [v] ps) (i : Nat) (hil : i < ps.length) (hP : PplTo ps i) (r : Bool) (hr : r = perOk ps i) :
    Calls Try.prog 51 #[.agg #[v, v2], .int .i64 i] w (PostB w r) := by
  obtain ⟨ao, n, cap, rfl, rfl, hnc, hcm, hnone⟩ := h.shape
  unfold maxLen at *
  obtain ⟨b, off, nm, sx, fa, mo, bo, di, rfl, hx, p0, p1, p2, p3, p4, p5, g0, g1, g2, g3, g4, g5, -, -, hbl, -⟩ := h.per_at hil
  rw [perOk_at hx.out] at hr
  have hR : Rd z lo hi w [.slice (some ⟨b, off, none⟩) ps.length cap] ps := h
  obtain ⟨r1, hlet_r1⟩ : ∃ r, r = nameOk nm := ⟨_, rfl⟩
  have H1 := Lib.hid hlet_r1
  clear hlet_r1
  obtain ⟨r2, hr2⟩ : ∃ r, r = decide ((1 : Int) ≤ sx ∧ sx ≤ 2) := ⟨_, rfl⟩
  have H2 := Lib.hid hr2
  have H2b := Lib.hid (show decide (sx = 1 ∨ sx = 2) = r2 by rw [hr2]; congr 1; apply propext; omega)
  clear hr2
  obtain ⟨r3, hlet_r3⟩ : ∃ r, r = decide ((0 : Int) ≤ bo ∧ bo ≤ 9999) := ⟨_, rfl⟩
  have H3 := Lib.hid hlet_r3
  clear hlet_r3
  obtain ⟨r4, hlet_r4⟩ : ∃ r, r = decide (di = -1 ∨ (bo ≤ di ∧ di ≤ 9999)) := ⟨_, rfl⟩
  have H4 := Lib.hid hlet_r4
  clear hlet_r4
  obtain ⟨dup, hlet_dup⟩ : ∃ r, r = decide (nm ∈ (ps.take i).map (·.1)) := ⟨_, rfl⟩
  have H5 := Lib.hid hlet_dup
  clear hlet_dup
  obtain ⟨r6, hlet_r6⟩ : ∃ r, r = upOk ps i bo fa 1 1 := ⟨_, rfl⟩
  have H6 := Lib.hid hlet_r6
  clear hlet_r6
  obtain ⟨r7, hlet_r7⟩ : ∃ r, r = upOk ps i bo mo 2 0 := ⟨_, rfl⟩
  have H7 := Lib.hid hlet_r7
  clear hlet_r7
  have HR := Lib.hid (show r = (r1 && (r2 && (r3 && (r4 && (!dup && (r6 && r7)))))) by rw [hr, perC, H1.out, H2b.out, H3.out, H4.out, H5.out, H6.out, H7.out])
  clear hr H2b
  have hI : (i : Int) < (ps.length : Int) := by omega
  go_enter Try.func51, Try.ntmps51
  go_wp2_with fail
  refine (isNameS_b _ nm g0 r1 H1.out).mono ?_
  rintro e1 w1 ⟨rfl, hbw1⟩
  have hpw1 : Below w.heap.size w w1 := Below.after bwT hbw1 szT
  have sw1 := hpw1.size
  have hBw1 : Below w.heap.size w w1 := hpw1
  have l_f : w.heap.size < w1.heap.size := by have := hbw1.size; simp at this; omega
  have q_f0 : w1.cell? ⟨w.heap.size, 0, none⟩ = some (.slice (some ⟨b, off, none⟩) ps.length cap) := oldc hbw1 ltT (by simp [go_sem])
  have q_f1 : w1.cell? ⟨w.heap.size, 1, none⟩ = some (v2) := oldc hbw1 ltT (by simp [go_sem])
  have l_p : w.heap.size + 1 < w1.heap.size := by have := hbw1.size; simp at this; omega
  have q_p0 : w1.cell? ⟨w.heap.size + 1, 0, none⟩ = some (.string nm) := oldc hbw1 ltT (by simp [go_sem])
  have q_p1 : w1.cell? ⟨w.heap.size + 1, 1, none⟩ = some (.int .i64 sx) := oldc hbw1 ltT (by simp [go_sem])
  have q_p2 : w1.cell? ⟨w.heap.size + 1, 2, none⟩ = some (.int .i64 fa) := oldc hbw1 ltT (by simp [go_sem])
  have q_p3 : w1.cell? ⟨w.heap.size + 1, 3, none⟩ = some (.int .i64 mo) := oldc hbw1 ltT (by simp [go_sem])
  have q_p4 : w1.cell? ⟨w.heap.size + 1, 4, none⟩ = some (.int .i64 bo) := oldc hbw1 ltT (by simp [go_sem])
  have q_p5 : w1.cell? ⟨w.heap.size + 1, 5, none⟩ = some (.int .i64 di) := oldc hbw1 ltT (by simp [go_sem])
  clear hbw1 hpw1
  cases r1
  · go_wp2
    go_ret
    exact ⟨ret_bool (by rw [HR.out]; rfl), bwT⟩
  go_wp2_with fail
  refine (l1In_b _ _ _ _ r2 H2.out).mono ?_
  rintro e2 w2 ⟨rfl, hbw2⟩
  have hpw2 : Below w1.heap.size w1 w2 := Below.after bwT hbw2 szT
  have sw2 := hpw2.size
  have hBw2 : Below w.heap.size w w2 := Below.trans hBw1 (Below.mono hpw2 hBw1.size)
  have q_f0 := oldc hpw2 l_f q_f0
  have q_f1 := oldc hpw2 l_f q_f1
  have q_p0 := oldc hpw2 l_p q_p0
  have q_p1 := oldc hpw2 l_p q_p1
  have q_p2 := oldc hpw2 l_p q_p2
  have q_p3 := oldc hpw2 l_p q_p3
  have q_p4 := oldc hpw2 l_p q_p4
  have q_p5 := oldc hpw2 l_p q_p5
  have l_f := Nat.lt_of_lt_of_le l_f sw2
  have l_p := Nat.lt_of_lt_of_le l_p sw2
  clear hbw2 hpw2
  cases r2
  · go_wp2
    go_ret
    exact ⟨ret_bool (by rw [HR.out]; rfl), bwT⟩
  go_wp2_with fail
  refine (l1In_b _ _ _ _ r3 H3.out).mono ?_
  rintro e3 w3 ⟨rfl, hbw3⟩
  have hpw3 : Below w2.heap.size w2 w3 := Below.after bwT hbw3 szT
  have sw3 := hpw3.size
  have hBw3 : Below w.heap.size w w3 := Below.trans hBw2 (Below.mono hpw3 hBw2.size)
  have q_f0 := oldc hpw3 l_f q_f0
  have q_f1 := oldc hpw3 l_f q_f1
  have q_p0 := oldc hpw3 l_p q_p0
  have q_p1 := oldc hpw3 l_p q_p1
  have q_p2 := oldc hpw3 l_p q_p2
  have q_p3 := oldc hpw3 l_p q_p3
  have q_p4 := oldc hpw3 l_p q_p4
  have q_p5 := oldc hpw3 l_p q_p5
  have l_f := Nat.lt_of_lt_of_le l_f sw3
  have l_p := Nat.lt_of_lt_of_le l_p sw3
  clear hbw3 hpw3
  cases r3
  · go_wp2
    go_ret
    exact ⟨ret_bool (by rw [HR.out]; rfl), bwT⟩
  have hBX := hBw3
  clear p0 p1 p2 p3 p4 p5
  by_cases s4 : di = -1
  case' pos =>
    have s4' : (di != -1) = false := by simpa using s4
    obtain ⟨WY, hWY⟩ : ∃ W : World, W = w3 := ⟨_, rfl⟩
    subst hWY
    have hBY : Below w.heap.size w WY := hBw3
    obtain rfl : r4 = true := by rw [H4.out]; simp [s4]
  case' neg =>
    have s4' : (di != -1) = true := by simpa using s4
    have H4c := Lib.hid (show r4 = decide (bo ≤ di ∧ di ≤ 9999) by rw [H4.out]; simp [s4])
    go_wp2_with fail
    refine (l1In_b _ _ _ _ r4 H4c.out).mono ?_
    rintro e WY ⟨rfl, hXY⟩
    have hBY : Below w.heap.size w WY := Below.after hBX hXY hBX.size
    have sXY := hXY.size
    have q_f0 := oldc hXY l_f q_f0
    have q_f1 := oldc hXY l_f q_f1
    have q_p0 := oldc hXY l_p q_p0
    have q_p1 := oldc hXY l_p q_p1
    have q_p2 := oldc hXY l_p q_p2
    have q_p3 := oldc hXY l_p q_p3
    have q_p4 := oldc hXY l_p q_p4
    have q_p5 := oldc hXY l_p q_p5
    have l_f := Nat.lt_of_lt_of_le l_f sXY
    have l_p := Nat.lt_of_lt_of_le l_p sXY
    cases r4
    · go_wp2
      go_ret
      exact ⟨ret_bool (by rw [HR.out]; rfl), bwT⟩
  all_goals
    clear hBX
    go_wp2
    go_loopw [6] (fun s6 wr => ∃ j : Nat, j ≤ i ∧ s6 = .int .i64 j ∧ Hid (dup = decide (nm ∈ ((ps.take i).drop j).map (·.1))) ∧ Below WY.heap.size WY wr) (fun s6 _ => i - (intOf s6).toNat)
    case atStart => exact ⟨0, Nat.zero_le _, rfl, Lib.hid (by simpa using H5.out), Below.refl _ _⟩
    case round =>
      rename_i wr
      obtain ⟨j, hj, rfl, hd, hb⟩ := hrel
      have sW := hb.size
      have hbw : Below w.heap.size w wr := Below.trans hBY (hb.mono hBY.size)
      have q_f0 := oldc hb l_f q_f0
      have q_f1 := oldc hb l_f q_f1
      have q_p0 := oldc hb l_p q_p0
      have q_p2 := oldc hb l_p q_p2
      have q_p3 := oldc hb l_p q_p3
      have l_f := Nat.lt_of_lt_of_le l_f sW
      have l_p := Nat.lt_of_lt_of_le l_p sW
      clear H5
      by_cases hlt : j < i
      · obtain ⟨_, _, nm2, sx2, fa2, mo2, bo2, di2, ee, hy, c0, c1, c2, c3, c4, c5, -, -, -, -, -, -, -, -, hbl2, -⟩ := (h.below hbw).per_at (show j < ps.length by omega)
        simp only [Option.some.injEq, Addr.mk.injEq, and_true] at ee
        obtain ⟨rfl, rfl⟩ := ee
        have hjI : (j : Int) < (i : Int) := by omega
        have hjn : (j : Int) < (ps.length : Int) := by omega
        have hy2 : (ps.take i)[j]? = some (nm2, sx2, fa2, mo2, bo2, di2) := by rw [List.getElem?_take, if_pos hlt]; exact hy.out
        have HS := Lib.hid (drop_cons hy2)
        clear hy hy2 h hP hR
        by_cases m1 : nm2 = nm
        · have m1' : (nm2.toList == nm.toList) = true := by rw [text_eq]; simpa using m1
          have HX := Lib.hid (show false = r by rw [HR.out, hd.out, HS.out]; simp [m1])
          clear hd HS HR
          go_wp2_with fail
          go_quiet (fail)
          go_wp2
          go_ret
          exact ⟨ret_bool HX.out, bwT⟩
        · have m1' : (nm2.toList == nm.toList) = false := by rw [text_eq]; simpa using m1
          have HN := Lib.hid (show dup = decide (nm ∈ ((ps.take i).drop (j + 1)).map (·.1)) by
            rw [hd.out, HS.out]
            have : ¬ nm = nm2 := fun e => m1 e.symm
            simp [this])
          clear hd HS
          go_wp2_with fail
          go_quiet (fail)
          go_wp2
          go_roundw
          case rel => exact ⟨j + 1, by omega, by go_num, HN, bwT⟩
          case measure => simp [intOf]; omega
      · have HD := Lib.hid (show dup = false by rw [hd.out, List.drop_eq_nil_of_le (by simp; omega)]; rfl)
        clear hd
        have hjI : ¬ (j : Int) < (i : Int) := by omega
        go_wp2_with fail
        refine (parS_b _ _ v2 ps (hR.below bwT) i hP hx.out fa 1 1 (by omega) (by omega) r6 H6.out).mono ?_
        rintro e w8 ⟨rfl, hb8⟩
        have hB8 : Below w.heap.size w w8 := Below.after hbw hb8 hbw.size
        have q_f0 := oldc hb8 l_f q_f0
        have q_f1 := oldc hb8 l_f q_f1
        have q_p3 := oldc hb8 l_p q_p3
        cases r6
        · go_wp2
          go_ret
          exact ⟨ret_bool (by rw [HR.out, HD.out]; rfl), hB8⟩
        go_wp2_with fail
        refine (parS_b _ _ v2 ps (hR.below bwT) i hP hx.out mo 2 0 (by omega) (by omega) r7 H7.out).mono ?_
        rintro e w9 ⟨rfl, hb9⟩
        have hB9 : Below w.heap.size w w9 := Below.after hB8 hb9 hB8.size
        go_wp2
        go_ret
        exact ⟨ret_bool (by rw [HR.out, HD.out]; rfl), hB9⟩
end Go.Proofs.Ytiingmngeiakgaa
