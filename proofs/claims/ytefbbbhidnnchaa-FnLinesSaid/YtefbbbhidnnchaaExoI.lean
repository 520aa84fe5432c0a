/- Contract of IsExogamous (impl). -/
import Derived.Test.YtefbbbhidnnchaaZ14F
import Derived.Test.YtefbbbhidnnchaaZ14K
namespace Go.Proofs.Ytefbbbhidnnchaa
set_option linter.unusedVariables false
set_option linter.unusedSimpArgs false
open Go.RowKit

set_option maxRecDepth 20000 in
set_option maxHeartbeats 4000000 in
theorem exoI_b {z z' : Bool} {lo hi lo' hi' : Nat} (w : World) (v v2 v3 : Value) (f : Fam) (g : List Int) (h : Rd z lo hi w [v, v2] f) (h' : Rd z' lo' hi' w [v3] g) (r : Bool) (hr : r = exoB f g) :
    Calls Try.prog 18 #[.agg #[v, v2], v3] w (PostB w r) := by
  obtain ⟨ha, hb⟩ := h.fam
  obtain ⟨ao, n, cap, rfl, hn, hnc, hcm, hnone⟩ := ha.shape
  obtain ⟨bo, n2, dap, rfl, hn2, hnc', hcm', hnone'⟩ := hb.shape
  obtain ⟨go, n3, gap, rfl, hn3, hnc3, hcm3, hnone3⟩ := h'.shape
  subst hn hn2 hn3
  unfold maxLen at *
  obtain ⟨r1, hlet_r1⟩ : ∃ r, r = famB f := ⟨_, rfl⟩
  have H1 := Lib.hid hlet_r1
  clear hlet_r1
  obtain ⟨r2, hlet_r2⟩ : ∃ r, r = decide (g.length = f.1.length) := ⟨_, rfl⟩
  have H2 := Lib.hid hlet_r2
  clear hlet_r2
  obtain ⟨r3, hlet_r3⟩ : ∃ r, r = f.2.all (exoU g) := ⟨_, rfl⟩
  have H3 := Lib.hid hlet_r3
  clear hlet_r3
  have HR := Lib.hid (show r = (r1 && (r2 && r3)) by rw [hr, exoB, H1.out, H2.out, H3.out])
  clear hr
  go_enter Try.func18, Try.ntmps18
  go_wp2_with fail
  refine (isFamI_b _ _ _ f (h.below bwT) r1 H1.out).mono ?_
  rintro e1 w1 ⟨rfl, hbw1⟩
  have hpw1 : Below w.heap.size w w1 := Below.after bwT hbw1 szT
  have sw1 := hpw1.size
  have hBw1 : Below w.heap.size w w1 := hpw1
  have l_f : w.heap.size < w1.heap.size := by have := hbw1.size; simp at this; omega
  have q_f0 : w1.cell? ⟨w.heap.size, 0, none⟩ = some (.slice ao f.1.length cap) := oldc hbw1 ltT (by simp [go_sem])
  have q_f1 : w1.cell? ⟨w.heap.size, 1, none⟩ = some (.slice bo f.2.length dap) := oldc hbw1 ltT (by simp [go_sem])
  clear hbw1 hpw1
  cases r1
  · go_wp2
    go_ret
    exact ⟨ret_bool (by rw [HR.out]; rfl), bwT⟩
  obtain ⟨h40, h60, hP, hU⟩ := famB_facts H1.out.symm
  have HU := Lib.hid hU
  clear hU hP H1
  by_cases hl : g.length = f.1.length
  rotate_left
  · have hbne : (((g.length : Int)) != (f.1.length : Int)) = true := by simp; omega
    obtain rfl : r2 = false := by rw [H2.out]; simp [hl]
    go_wp2
    go_ret
    exact ⟨ret_bool (by rw [HR.out]; rfl), bwT⟩
  have hbne : (((g.length : Int)) != (f.1.length : Int)) = false := by simp [hl]
  obtain rfl : r2 = true := by rw [H2.out]; simp [hl]
  have hl1 : ¬ g.length < f.1.length := by omega
  have hl2 : ¬ f.1.length < g.length := by omega
  have HL := Lib.hid hl
  clear hl H2
  obtain ⟨W0, hW0⟩ : ∃ W : World, W = w1 := ⟨_, rfl⟩
  subst hW0
  have hB0 : Below w.heap.size w W0 := hBw1
  go_wp2
  go_loopw [6, 21] (fun _ s21 wr => ∃ k : Nat, k ≤ f.2.length ∧ s21 = .int .i64 k ∧ Hid (r3 = (f.2.drop k).all (exoU g)) ∧ Below W0.heap.size W0 wr) (fun _ s21 _ => f.2.length - (intOf s21).toNat)
  case atStart => exact ⟨0, Nat.zero_le _, rfl, H3, Below.refl _ _⟩
  case round =>
    rename_i wr
    clear H3
    obtain ⟨k, hk, rfl, hd, hb2⟩ := hrel
    have hbw : Below w.heap.size w wr := Below.trans hB0 (hb2.mono hB0.size)
    have s2 := hb2.size
    have s3 := hbw.size
    by_cases hlt : k < f.2.length
    · have hI : (k : Int) < (f.2.length : Int) := by omega
      obtain ⟨b, off, m, wo, fr, tl, rfl, hu, p0, p1, p2, p3, g0, g1, g2, g3, -, -, hbl, -⟩ := (hb.below hbw).uni_at hlt
      obtain ⟨⟨um1, um2⟩, ⟨uw1, uw2⟩⟩ := uniOk_facts (HU.out k hlt) hu.out
      obtain ⟨mi, rfl⟩ := Int.eq_ofNat_of_zero_le um1
      obtain ⟨wi, rfl⟩ := Int.eq_ofNat_of_zero_le uw1
      have hlg := HL.out
      obtain ⟨gb, goff, x, rfl, hx, hcx, hx1, hx2, -, -, hgl, -⟩ := (h'.below hbw).int_at (show mi < g.length by omega)
      obtain ⟨_, _, y, ee, hy, hcy, hy1, hy2, -⟩ := (h'.below hbw).int_at (show wi < g.length by omega)
      simp only [Option.some.injEq, Addr.mk.injEq, and_true] at ee
      obtain ⟨rfl, rfl⟩ := ee
      have mI : ((mi : Nat) : Int) < (g.length : Int) := by omega
      have wI : ((wi : Nat) : Int) < (g.length : Int) := by omega
      have m0 : (0 : Int) ≤ ((mi : Nat) : Int) := by omega
      have w0 : (0 : Int) ≤ ((wi : Nat) : Int) := by omega
      have gn : ¬ gb = wr.heap.size := by omega
      have gm : ¬ wr.heap.size = gb := by omega
      have HS := Lib.hid (show (f.2.drop k).all (exoU g) = (!decide (x = y) && (f.2.drop (k + 1)).all (exoU g)) by
        rw [drop_cons hu.out, List.all_cons, exoU, getD_at hx.out, getD_at hy.out])
      clear hu hx hy hlg ha hb h h' hl1 hl2
      by_cases e : x = y
      · have e' : (x == y) = true := by simpa using e
        have HX := Lib.hid (show false = r by rw [HR.out, hd.out, HS.out]; simp [e])
        clear hd HS
        go_wp2_with fail
        go_quiet (fail)
        go_wp2
        go_ret
        exact ⟨ret_bool HX.out, bwT⟩
      · have e' : (x == y) = false := by simpa using e
        have HN := Lib.hid (show r3 = (f.2.drop (k + 1)).all (exoU g) by rw [hd.out, HS.out]; simp [e])
        clear hd HS
        go_wp2_with fail
        go_quiet (fail)
        go_wp2
        go_roundw
        case rel => exact ⟨k + 1, by omega, by go_num, HN, bwT⟩
        case measure => simp [intOf]; omega
    · have HX := Lib.hid (show true = r by rw [HR.out, hd.out, List.drop_eq_nil_of_le (by omega)]; rfl)
      have hI : ¬ (k : Int) < (f.2.length : Int) := by omega
      clear hd
      go_wp2
      go_ret
      exact ⟨ret_bool HX.out, hbw⟩
end Go.Proofs.Ytefbbbhidnnchaa
