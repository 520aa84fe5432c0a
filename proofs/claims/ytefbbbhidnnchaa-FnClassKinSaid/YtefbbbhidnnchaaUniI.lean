/- Contract of unionFits. -/
import Derived.Test.YtefbbbhidnnchaaZ14B
import Derived.Test.YtefbbbhidnnchaaZ14E
namespace Go.Proofs.Ytefbbbhidnnchaa
set_option linter.unusedVariables false
set_option linter.unusedSimpArgs false
open Go.RowKit

theorem uniOk_at2 {f : Fam} {k : Nat} {u : Uni} (h : f.2[k]? = some u) : uniOk f k = uniC f k u := by unfold uniOk; rw [h]

set_option maxRecDepth 20000 in
set_option maxHeartbeats 8000000 in
theorem uniI_b {z z' : Bool} {lo hi lo' hi' : Nat} (w : World) (v v2 : Value) (f : Fam) (h : Rd z lo hi w [v] f.1) (h' : Rd z' lo' hi' w [v2] f.2) (hl : f.1.length ≤ 40) (hP : PplTo f.1 f.1.length) (k : Nat) (hk : k < f.2.length) (hl2 : f.2.length ≤ 60) (r : Bool) (hr : r = uniOk f k) :
    Calls Try.prog 63 #[.agg #[v, v2], .int .i64 k] w (PostB w r) := by
  obtain ⟨ps, us⟩ := f
  dsimp only at h h' hl hP hk hl2
  obtain ⟨ao, n, cap, rfl, rfl, hnc, hcm, hnone⟩ := h.shape
  obtain ⟨bo, n2, dap, rfl, rfl, hnc', hcm', hnone'⟩ := h'.shape
  unfold maxLen at *
  obtain ⟨b, off, m, wo, fr, tl, rfl, hu, p0, p1, p2, p3, g0, g1, g2, g3, -, -, hbl, -⟩ := h'.uni_at hk
  rw [uniOk_at2 hu.out, uniC] at hr
  have HR := Lib.hid hr
  clear hr hu
  have hkI : (k : Int) < (us.length : Int) := by omega
  by_cases hin : (0 ≤ m ∧ m < (ps.length : Int)) ∧ (0 ≤ wo ∧ wo < (ps.length : Int))
  rotate_left
  · have HX := Lib.hid (show false = r by rw [HR.out, show decide ((0 ≤ m ∧ m < (ps.length : Int)) ∧ (0 ≤ wo ∧ wo < (ps.length : Int))) = false by simpa using hin]; rfl)
    clear h h' HR hP
    go_enter Try.func63, Try.ntmps63
    go_wp2
    all_goals first
      | (exfalso; omega)
      | (go_ret; exact ⟨ret_bool HX.out, bwT⟩)
  obtain ⟨mi, rfl⟩ := Int.eq_ofNat_of_zero_le hin.1.1
  obtain ⟨wi, rfl⟩ := Int.eq_ofNat_of_zero_le hin.2.1
  have hmi : mi < ps.length := by omega
  have hwi : wi < ps.length := by omega
  obtain ⟨pb, poff, na, sa, fa, ma, ba, da, rfl, hxa, a0, a1, a2, a3, a4, a5, ga0, ga1, ga2, ga3, ga4, ga5, -, -, hpb, -⟩ := h.per_at hmi
  obtain ⟨_, _, nb, sb, fb, mb, bb, db, ee, hxb, b0, b1, b2, b3, b4, b5, gb0, gb1, gb2, gb3, gb4, gb5, -, -, -, -⟩ := h.per_at hwi
  simp only [Option.some.injEq, Addr.mk.injEq, and_true] at ee
  obtain ⟨rfl, rfl⟩ := ee
  obtain ⟨-, fba, fda, -⟩ := hP.at hmi hxa.out
  obtain ⟨-, fbb, fdb, -⟩ := hP.at hwi hxb.out
  obtain ⟨dup, hlet_dup⟩ : ∃ r, r = decide (((mi : Int), (wi : Int)) ∈ (us.take k).map fun v => (v.1, v.2.1)) := ⟨_, rfl⟩
  have HD := Lib.hid hlet_dup
  clear hlet_dup
  have HB := Lib.hid (show r = (decide (sa = 1 ∧ sb = 2) && (decide (fr ≤ 9999 ∧ ba ≤ fr ∧ bb ≤ fr) && (decide (tl = -1 ∨ (fr ≤ tl ∧ tl ≤ 9999)) && (liveOk da fr tl && liveOk db fr tl))) && !dup) by
    rw [HR.out, Int.toNat_natCast, Int.toNat_natCast, hxa.out, hxb.out, HD.out]
    rw [show decide ((0 ≤ (mi : Int) ∧ (mi : Int) < (ps.length : Int)) ∧ (0 ≤ (wi : Int) ∧ (wi : Int) < (ps.length : Int))) = true by simp; omega]
    rfl)
  have HFail := Lib.hid (show ¬ ((sa = 1 ∧ sb = 2) ∧ (fr ≤ 9999 ∧ ba ≤ fr ∧ bb ≤ fr) ∧ (tl = -1 ∨ (fr ≤ tl ∧ tl ≤ 9999)) ∧ (da = -1 ∨ (fr ≤ da ∧ (tl = -1 ∨ tl ≤ da))) ∧ (db = -1 ∨ (fr ≤ db ∧ (tl = -1 ∨ tl ≤ db)))) → false = r by
    intro e
    rw [HB.out]
    cases hh : (decide (sa = 1 ∧ sb = 2) && (decide (fr ≤ 9999 ∧ ba ≤ fr ∧ bb ≤ fr) && (decide (tl = -1 ∨ (fr ≤ tl ∧ tl ≤ 9999)) && (liveOk da fr tl && liveOk db fr tl))))
    · rfl
    · simp only [liveOk, Bool.and_eq_true, decide_eq_true_eq] at hh
      exact absurd ⟨hh.1, hh.2.1, hh.2.2.1, hh.2.2.2.1, hh.2.2.2.2⟩ e)
  have HOk := Lib.hid (show ((sa = 1 ∧ sb = 2) ∧ (fr ≤ 9999 ∧ ba ≤ fr ∧ bb ≤ fr) ∧ (tl = -1 ∨ (fr ≤ tl ∧ tl ≤ 9999)) ∧ (da = -1 ∨ (fr ≤ da ∧ (tl = -1 ∨ tl ≤ da))) ∧ (db = -1 ∨ (fr ≤ db ∧ (tl = -1 ∨ tl ≤ db)))) → r = !dup by
    intro e
    rw [HB.out]
    simp [liveOk, e])
  have hmI : ((mi : Nat) : Int) < (ps.length : Int) := by omega
  have hwI : ((wi : Nat) : Int) < (ps.length : Int) := by omega
  have hm0 : (0 : Int) ≤ ((mi : Nat) : Int) := by omega
  have hw0 : (0 : Int) ≤ ((wi : Nat) : Int) := by omega
  clear HB HR hxa hxb hin hP h
  have v1 : ¬ w.heap.size = w.heap.size + 1 + 1 := by omega
  have v2 : ¬ w.heap.size + 1 + 1 = w.heap.size := by omega
  have v3 : ¬ w.heap.size + 1 = w.heap.size + 1 + 1 := by omega
  have v4 : ¬ w.heap.size + 1 + 1 = w.heap.size + 1 := by omega
  have v5 : ¬ pb = w.heap.size := by omega
  have v6 : ¬ w.heap.size = pb := by omega
  have v7 : ¬ pb = w.heap.size + 1 := by omega
  have v8 : ¬ w.heap.size + 1 = pb := by omega
  have v9 : ¬ pb = w.heap.size + 1 + 1 := by omega
  have v10 : ¬ w.heap.size + 1 + 1 = pb := by omega
  have v11 : ¬ pb = w.heap.size + 1 + 1 + 1 := by omega
  have v12 : ¬ w.heap.size + 1 + 1 + 1 = pb := by omega
  have u1 : w.heap.size < w.heap.size + 1 + 1 := by omega
  have u2 : w.heap.size < w.heap.size + 1 + 1 + 1 := by omega
  have u3 : w.heap.size + 1 < w.heap.size + 1 + 1 + 1 := by omega
  have u4 : pb < w.heap.size + 1 := by omega
  have u5 : pb < w.heap.size + 1 + 1 := by omega
  have u6 : pb < w.heap.size + 1 + 1 + 1 := by omega
  go_enter Try.func63, Try.ntmps63
  go_upto_region 4 with fail
  go_cut [6, 7] (fun s6 s7 wx => ∃ (ga gb : Nat), s6 = .pointer (some ⟨ga, 0, none⟩) ∧ s7 = .pointer (some ⟨gb, 0, none⟩) ∧ wx.cell? ⟨ga, 0, none⟩ = some (.string na) ∧ wx.cell? ⟨ga, 1, none⟩ = some (.int .i64 sa) ∧ wx.cell? ⟨ga, 2, none⟩ = some (.int .i64 fa) ∧ wx.cell? ⟨ga, 3, none⟩ = some (.int .i64 ma) ∧ wx.cell? ⟨ga, 4, none⟩ = some (.int .i64 ba) ∧ wx.cell? ⟨ga, 5, none⟩ = some (.int .i64 da) ∧ wx.cell? ⟨gb, 0, none⟩ = some (.string nb) ∧ wx.cell? ⟨gb, 1, none⟩ = some (.int .i64 sb) ∧ wx.cell? ⟨gb, 2, none⟩ = some (.int .i64 fb) ∧ wx.cell? ⟨gb, 3, none⟩ = some (.int .i64 mb) ∧ wx.cell? ⟨gb, 4, none⟩ = some (.int .i64 bb) ∧ wx.cell? ⟨gb, 5, none⟩ = some (.int .i64 db) ∧ ga < wx.heap.size ∧ gb < wx.heap.size ∧ wx.cell? ⟨w.heap.size, 0, none⟩ = some (.slice (some ⟨pb, poff, none⟩) ps.length cap) ∧ wx.cell? ⟨w.heap.size, 1, none⟩ = some (.slice (some ⟨b, off, none⟩) us.length dap) ∧ wx.cell? ⟨w.heap.size + 1, 0, none⟩ = some (.int .i64 (mi : Nat)) ∧ wx.cell? ⟨w.heap.size + 1, 1, none⟩ = some (.int .i64 (wi : Nat)) ∧ wx.cell? ⟨w.heap.size + 1, 2, none⟩ = some (.int .i64 fr) ∧ wx.cell? ⟨w.heap.size + 1, 3, none⟩ = some (.int .i64 tl) ∧ w.heap.size + 1 < wx.heap.size ∧ Below w.heap.size w wx)
  case first =>
    go_region_held3 (fun w' => w'.cell? ⟨w.heap.size, 0, none⟩ = some (.slice (some ⟨pb, poff, none⟩) ps.length cap) ∧ w'.cell? ⟨w.heap.size + 1, 0, none⟩ = some (.int .i64 (mi : Nat)) ∧ w'.cell? ⟨w.heap.size + 1, 1, none⟩ = some (.int .i64 (wi : Nat)) ∧ w'.cell? ⟨pb, poff + mi * 6, none⟩ = some (.string na) ∧ w'.cell? ⟨pb, poff + mi * 6 + 1, none⟩ = some (.int .i64 sa) ∧ w'.cell? ⟨pb, poff + mi * 6 + 2, none⟩ = some (.int .i64 fa) ∧ w'.cell? ⟨pb, poff + mi * 6 + 3, none⟩ = some (.int .i64 ma) ∧ w'.cell? ⟨pb, poff + mi * 6 + 4, none⟩ = some (.int .i64 ba) ∧ w'.cell? ⟨pb, poff + mi * 6 + 5, none⟩ = some (.int .i64 da) ∧ w'.cell? ⟨pb, poff + wi * 6, none⟩ = some (.string nb) ∧ w'.cell? ⟨pb, poff + wi * 6 + 1, none⟩ = some (.int .i64 sb) ∧ w'.cell? ⟨pb, poff + wi * 6 + 2, none⟩ = some (.int .i64 fb) ∧ w'.cell? ⟨pb, poff + wi * 6 + 3, none⟩ = some (.int .i64 mb) ∧ w'.cell? ⟨pb, poff + wi * 6 + 4, none⟩ = some (.int .i64 bb) ∧ w'.cell? ⟨pb, poff + wi * 6 + 5, none⟩ = some (.int .i64 db)) ((first | (go_keep; done) | (simp [go_sem, *]; done))) (fail)
    all_goals
      go_wp2_with fail
      go_meet
    all_goals exact ⟨_, _, rfl, rfl, by simp [go_sem, *], by simp [go_sem, *], by simp [go_sem, *], by simp [go_sem, *], by simp [go_sem, *], by simp [go_sem, *], by simp [go_sem, *], by simp [go_sem, *], by simp [go_sem, *], by simp [go_sem, *], by simp [go_sem, *], by simp [go_sem, *], (by first | omega | (simp; omega) | simp), (by first | omega | (simp; omega) | simp), by simp [go_sem, *], by simp [go_sem, *], by simp [go_sem, *], by simp [go_sem, *], by simp [go_sem, *], by simp [go_sem, *], (by first | omega | (simp; omega) | simp), bwT⟩
  case rest =>
    obtain ⟨ga, gb, rfl, rfl, x0, x1, x2, x3, x4, x5, y0, y1, y2, y3, y4, y5, l_ga, l_gb, q_f0, q_f1, q_u0, q_u1, q_u2, q_u3, l_u, hBX⟩ := hcut
    clear v1 v2 v3 v4 v5 v6 v7 v8 v9 v10 v11 v12 u1 u2 u3 u4 u5 u6 a0 a1 a2 a3 a4 a5 b0 b1 b2 b3 b4 b5
    obtain ⟨WX, hWX⟩ : ∃ W : World, W = wc := ⟨_, rfl⟩
    subst hWX
    have l_f : w.heap.size < WX.heap.size := by omega
    have sX := hBX.size
    by_cases s1 : sa = 1
    rotate_left
    · have s1' : (sa != 1) = true := by simpa using s1
      have HX := Lib.hid (HFail.out (fun e => s1 e.1.1))
      clear HFail HOk HD
      go_wp2
      all_goals first
        | (exfalso; omega)
        | (go_ret; exact ⟨ret_bool HX.out, bwT⟩)
    have s1' : (sa != 1) = false := by simpa using s1
    by_cases s2 : sb = 2
    rotate_left
    · have s2' : (sb != 2) = true := by simpa using s2
      have HX := Lib.hid (HFail.out (fun e => s2 e.1.2))
      clear HFail HOk HD
      go_wp2
      all_goals first
        | (exfalso; omega)
        | (go_ret; exact ⟨ret_bool HX.out, bwT⟩)
    have s2' : (sb != 2) = false := by simpa using s2
    by_cases s3 : fr ≤ 9999
    rotate_left
    · have s3' : 9999 < fr := by omega
      have HX := Lib.hid (HFail.out (fun e => s3 e.2.1.1))
      clear HFail HOk HD
      go_wp2
      all_goals first
        | (exfalso; omega)
        | (go_ret; exact ⟨ret_bool HX.out, bwT⟩)
    have s3' : ¬ 9999 < fr := by omega
    by_cases s3a : ba ≤ fr
    rotate_left
    · have s3a' : fr < ba := by omega
      have HX := Lib.hid (HFail.out (fun e => s3a e.2.1.2.1))
      clear HFail HOk HD
      go_wp2
      all_goals first
        | (exfalso; omega)
        | (go_ret; exact ⟨ret_bool HX.out, bwT⟩)
    have s3a' : ¬ fr < ba := by omega
    by_cases s3b : bb ≤ fr
    rotate_left
    · have s3b' : fr < bb := by omega
      have HX := Lib.hid (HFail.out (fun e => s3b e.2.1.2.2))
      clear HFail HOk HD
      go_wp2
      all_goals first
        | (exfalso; omega)
        | (go_ret; exact ⟨ret_bool HX.out, bwT⟩)
    have s3b' : ¬ fr < bb := by omega
    by_cases s5 : tl = -1 ∨ (fr ≤ tl ∧ tl ≤ 9999)
    rotate_left
    · have s5' : (tl != -1) = true := by (have : ¬ tl = -1 := fun e => s5 (.inl e)); simpa using this
      have HX := Lib.hid (HFail.out (fun e => s5 e.2.2.1))
      clear HFail HOk HD
      go_wp2
      all_goals first
        | (exfalso; omega)
        | (go_ret; exact ⟨ret_bool HX.out, bwT⟩)
    have s5' := s5
    subst s1 s2
    by_cases s4 : tl = -1
    all_goals have s4' : (tl != -1) = !decide (tl = -1) := rfl
    all_goals simp only [s4, decide_true, decide_false, Bool.not_true, Bool.not_false] at s4'
    all_goals
      go_wp2
      all_goals (try (exfalso; omega))
      go_loopw [9, 101] (fun _ s101 wr => ∃ j : Nat, j ≤ 2 ∧ s101 = .int .i64 j ∧ Hid ((1 ≤ j → da = -1 ∨ (fr ≤ da ∧ (tl = -1 ∨ tl ≤ da))) ∧ (2 ≤ j → db = -1 ∨ (fr ≤ db ∧ (tl = -1 ∨ tl ≤ db)))) ∧ Below (WX.heap.size + 1) (WX.alloc (.cells #[.string na, .int .i64 1, .int .i64 fa, .int .i64 ma, .int .i64 ba, .int .i64 da, .string nb, .int .i64 2, .int .i64 fb, .int .i64 mb, .int .i64 bb, .int .i64 db] 56)) wr) (fun _ s101 _ => 2 - (intOf s101).toNat)
      case atStart => exact ⟨0, by omega, rfl, Lib.hid ⟨fun h => absurd h (by omega), fun h => absurd h (by omega)⟩, Below.refl _ _⟩
      case round =>
        rename_i wr
        obtain ⟨j, hj2, rfl, hj, hb⟩ := hrel
        have sW := hb.size
        simp only [World.size_alloc] at sW
        have hbX : Below WX.heap.size WX wr := Below.trans ((Below.refl _ _).alloc (Nat.le_refl _) _) (hb.mono (by omega))
        have hbw : Below w.heap.size w wr := Below.trans hBX (hbX.mono hBX.size)
        have q_f0 := oldc hbX l_f q_f0
        have q_f1 := oldc hbX l_f q_f1
        have q_u0 := oldc hbX l_u q_u0
        have q_u1 := oldc hbX l_u q_u1
        have q_u2 := oldc hbX l_u q_u2
        have q_u3 := oldc hbX l_u q_u3
        have l_f := Nat.lt_of_lt_of_le l_f hbX.size
        have l_u := Nat.lt_of_lt_of_le l_u hbX.size
        have hw0 : WX.heap.size < wr.heap.size := by omega
        have z0 : wr.cell? ⟨WX.heap.size, 0, none⟩ = some (.string na) := oldc hb (by omega) (by simp [go_sem])
        have z1 : wr.cell? ⟨WX.heap.size, 1, none⟩ = some (.int .i64 1) := oldc hb (by omega) (by simp [go_sem])
        have z2 : wr.cell? ⟨WX.heap.size, 2, none⟩ = some (.int .i64 fa) := oldc hb (by omega) (by simp [go_sem])
        have z3 : wr.cell? ⟨WX.heap.size, 3, none⟩ = some (.int .i64 ma) := oldc hb (by omega) (by simp [go_sem])
        have z4 : wr.cell? ⟨WX.heap.size, 4, none⟩ = some (.int .i64 ba) := oldc hb (by omega) (by simp [go_sem])
        have z5 : wr.cell? ⟨WX.heap.size, 5, none⟩ = some (.int .i64 da) := oldc hb (by omega) (by simp [go_sem])
        have z6 : wr.cell? ⟨WX.heap.size, 6, none⟩ = some (.string nb) := oldc hb (by omega) (by simp [go_sem])
        have z7 : wr.cell? ⟨WX.heap.size, 7, none⟩ = some (.int .i64 2) := oldc hb (by omega) (by simp [go_sem])
        have z8 : wr.cell? ⟨WX.heap.size, 8, none⟩ = some (.int .i64 fb) := oldc hb (by omega) (by simp [go_sem])
        have z9 : wr.cell? ⟨WX.heap.size, 9, none⟩ = some (.int .i64 mb) := oldc hb (by omega) (by simp [go_sem])
        have z10 : wr.cell? ⟨WX.heap.size, 10, none⟩ = some (.int .i64 bb) := oldc hb (by omega) (by simp [go_sem])
        have z11 : wr.cell? ⟨WX.heap.size, 11, none⟩ = some (.int .i64 db) := oldc hb (by omega) (by simp [go_sem])
        by_cases hlt : j < 2
        · have hI : (j : Int) < 2 := by omega
          clear h'
          by_cases j0 : j = 0
          · obtain rfl : j = 0 := by omega
            have HN := Lib.hid (show (da = -1 ∨ (fr ≤ da ∧ (tl = -1 ∨ tl ≤ da))) → ((1 ≤ (0 + 1) → da = -1 ∨ (fr ≤ da ∧ (tl = -1 ∨ tl ≤ da))) ∧ (2 ≤ (0 + 1) → db = -1 ∨ (fr ≤ db ∧ (tl = -1 ∨ tl ≤ db)))) by intro e; exact ⟨fun _ => e, fun h => absurd h (by omega)⟩)
            have HZ := Lib.hid (show ¬ (da = -1 ∨ (fr ≤ da ∧ (tl = -1 ∨ tl ≤ da))) → false = r by intro e; exact HFail.out (fun e2 => e e2.2.2.2.1))
            clear HFail HOk hj HD
            by_cases d1 : da = -1
            all_goals have d1' : (da != -1) = !decide (da = -1) := rfl
            all_goals simp only [d1, decide_true, decide_false, Bool.not_true, Bool.not_false] at d1'
            all_goals go_wp2
            all_goals first
              | (exfalso; omega)
              | (go_roundw
                 case rel => exact ⟨0 + 1, by omega, by go_num, Lib.hid (HN.out (by omega)), bwT⟩
                 case measure => simp [intOf])
              | (go_ret; exact ⟨ret_bool (HZ.out (by omega)), bwT⟩)
          · obtain rfl : j = 1 := by omega
            have HN := Lib.hid (show (db = -1 ∨ (fr ≤ db ∧ (tl = -1 ∨ tl ≤ db))) → ((1 ≤ (1 + 1) → da = -1 ∨ (fr ≤ da ∧ (tl = -1 ∨ tl ≤ da))) ∧ (2 ≤ (1 + 1) → db = -1 ∨ (fr ≤ db ∧ (tl = -1 ∨ tl ≤ db)))) by intro e; exact ⟨fun _ => hj.out.1 (by omega), fun _ => e⟩)
            have HZ := Lib.hid (show ¬ (db = -1 ∨ (fr ≤ db ∧ (tl = -1 ∨ tl ≤ db))) → false = r by intro e; exact HFail.out (fun e2 => e e2.2.2.2.2))
            clear HFail HOk hj HD
            by_cases d1 : db = -1
            all_goals have d1' : (db != -1) = !decide (db = -1) := rfl
            all_goals simp only [d1, decide_true, decide_false, Bool.not_true, Bool.not_false] at d1'
            all_goals go_wp2
            all_goals first
              | (exfalso; omega)
              | (go_roundw
                 case rel => exact ⟨1 + 1, by omega, by go_num, Lib.hid (HN.out (by omega)), bwT⟩
                 case measure => simp [intOf])
              | (go_ret; exact ⟨ret_bool (HZ.out (by omega)), bwT⟩)
        · obtain rfl : j = 2 := by omega
          have HR2 := Lib.hid (HOk.out ⟨⟨by trivial, by trivial⟩, ⟨s3, s3a, s3b⟩, s5, hj.out.1 (by omega), hj.out.2 (by omega)⟩)
          clear HOk HFail z0 z1 z2 z3 z4 z5 z6 z7 z8 z9 z10 z11
          have hkl : (k : Int) ≤ (us.length : Int) := by omega
          have hkc : (k : Int) ≤ (dap : Int) := by omega
          obtain ⟨WZ, hWZ⟩ : ∃ W : World, W = wr := ⟨_, rfl⟩
          subst hWZ
          go_wp2
          go_loopw [11, 133] (fun _ s10 wr => ∃ i : Nat, i ≤ k ∧ s10 = .int .i64 i ∧ Hid (dup = decide (((mi : Int), (wi : Int)) ∈ ((us.take k).drop i).map fun v => (v.1, v.2.1))) ∧ Below WZ.heap.size WZ wr) (fun _ s10 _ => k - (intOf s10).toNat)
          case atStart => exact ⟨0, Nat.zero_le _, rfl, Lib.hid (by simpa using HD.out), Below.refl _ _⟩
          case round =>
            clear HD
            obtain ⟨i, hi, rfl, hd, hb3⟩ := hrel
            have hbz : Below w.heap.size w wr := Below.trans hbw (hb3.mono hbw.size)
            have q_f1 := oldc hb3 l_f q_f1
            have q_u0 := oldc hb3 l_u q_u0
            have q_u1 := oldc hb3 l_u q_u1
            have s3z := hb3.size
            have s4z := hbz.size
            have l_f := Nat.lt_of_lt_of_le l_f hb3.size
            have l_u := Nat.lt_of_lt_of_le l_u hb3.size
            by_cases hik : i < k
            · obtain ⟨_, _, um, uw, uf, ut, ee, hux, c0, c1, c2, c3, -, -, -, -, -, -, hub, -⟩ := (h'.below hbz).uni_at (show i < us.length by omega)
              simp only [Option.some.injEq, Addr.mk.injEq, and_true] at ee
              obtain ⟨rfl, rfl⟩ := ee
              have hkI : (i : Int) < (k : Int) := by omega
              have huI : (i : Int) < (us.length : Int) := by omega
              have hux2 : (us.take k)[i]? = some (um, uw, uf, ut) := by rw [List.getElem?_take, if_pos hik]; exact hux.out
              have HS := Lib.hid (drop_cons hux2)
              clear hux hux2 h'
              by_cases m1 : um = (mi : Int)
              · have m1' : (um == (mi : Int)) = true := by simpa using m1
                by_cases m2 : uw = (wi : Int)
                · have m2' : (uw == (wi : Int)) = true := by simpa using m2
                  have HX := Lib.hid (show false = r by rw [HR2.out, hd.out, HS.out]; simp [m1, m2])
                  clear hd HS HR2
                  go_wp2
                  go_ret
                  exact ⟨ret_bool HX.out, bwT⟩
                · have m2' : (uw == (wi : Int)) = false := by simpa using m2
                  have HN := Lib.hid (show dup = decide (((mi : Int), (wi : Int)) ∈ ((us.take k).drop (i + 1)).map fun v => (v.1, v.2.1)) by
                    rw [hd.out, HS.out]
                    have : ¬ (wi : Int) = uw := fun e => m2 e.symm
                    simp [this])
                  clear hd HS
                  go_wp2
                  go_roundw
                  case rel => exact ⟨i + 1, by omega, by go_num, HN, bwT⟩
                  case measure => simp [intOf]; omega
              · have m1' : (um == (mi : Int)) = false := by simpa using m1
                have HN := Lib.hid (show dup = decide (((mi : Int), (wi : Int)) ∈ ((us.take k).drop (i + 1)).map fun v => (v.1, v.2.1)) by
                  rw [hd.out, HS.out]
                  have : ¬ (mi : Int) = um := fun e => m1 e.symm
                  simp [this])
                clear hd HS
                go_wp2
                go_roundw
                case rel => exact ⟨i + 1, by omega, by go_num, HN, bwT⟩
                case measure => simp [intOf]; omega
            · have HX := Lib.hid (show true = r by rw [HR2.out, hd.out, List.drop_eq_nil_of_le (by simp; omega)]; rfl)
              clear hd HR2 h'
              go_wp2
              go_ret
              exact ⟨ret_bool HX.out, bwT⟩
end Go.Proofs.Ytefbbbhidnnchaa
