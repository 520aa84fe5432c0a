/- The walk of the law FnDyads. -/
import Derived.Test.YtmbnhjohmodflaaDyLaw
import Derived.Test.YtmbnhjohmodflaaBytes
import Derived.Test.YtmbnhjohmodflaaPerm2
namespace Go.Proofs.Ytmbnhjohmodflaa
set_option linter.unusedVariables false
set_option linter.unusedSimpArgs false
open Go.RowKit

theorem slDyad : SlTy Try.prog 23 25 (.agg #[.int .i64 0, .int .i64 0]) 2 16 := SlTy.of Try.underlying23 (by kernel_rfl) rfl

theorem Rd.pair_at {z : Bool} {lo hi : Nat} {w : World} {xs : List (Int × Int)} {ao : Option Addr} {n cap : Nat} (h : Rd z lo hi w [.slice ao n cap] xs) {i : Nat} (hi' : i < n) :
    ∃ b off x y, ao = some ⟨b, off, none⟩ ∧ Hid (xs[i]? = some (x, y)) ∧ w.cell? ⟨b, off + 2 * i, none⟩ = some (.int .i64 x) ∧ w.cell? ⟨b, off + (2 * i + 1), none⟩ = some (.int .i64 y) ∧ lo ≤ b ∧ b < hi ∧ b < w.heap.size := by
  obtain ⟨b, off, ⟨x, y⟩, cs, e, hx, ⟨fp, ⟨c1, c2, f1, f2, rfl, rfl, ⟨rfl, _, _⟩, ⟨rfl, _, _⟩⟩, _⟩, _, h1, h2, h3, hc, hf⟩ := h.at hi'
  refine ⟨b, off, x, y, e, hx, ?_, ?_, h1, h2, h3⟩
  · have := hc 0 (.int .i64 x) rfl; simpa [Rep.sz, Nat.mul_comm] using this
  · have := hc 1 (.int .i64 y) rfl; simpa [Rep.sz, Nat.mul_comm] using this

theorem dofI_ok (n e : Int) (w : World) (h0 : 0 ≤ n) (h1 : n ≤ 510) (h2 : 0 ≤ e) (h3 : e ≤ 7) :
    Calls Try.prog 9 #[.int .i64 n, .int .i64 e] w (fun en w' => ∃ d : Int × Int, Hid (Dok 510 d) ∧ en = .returned (.tuple #[.agg #[.int .i64 d.1, .int .i64 d.2], .bool true]) ∧ Below w.heap.size w w') := by
  have hv : dofV n e = true := by simp [dofV]; omega
  refine (dyadOfI_any n e w).mono ?_
  rintro en w' ⟨rfl, hb⟩
  refine ⟨red n e, Lib.hid (dok_of h0 h1 h2 h3), ?_, hb⟩
  rw [hv]; unfold dofD; rw [if_pos hv]
theorem addI_to (an ae bn be : Int) (w : World) (x y : Int) (hV : addV an ae bn be = true) (hD : addD an ae bn be = (x, y)) :
    Calls Try.prog 11 #[.agg #[.int .i64 an, .int .i64 ae], .agg #[.int .i64 bn, .int .i64 be]] w (fun en w' => en = .returned (.tuple #[.agg #[.int .i64 x, .int .i64 y], .bool true]) ∧ Below w.heap.size w w') := by
  refine (addI_any an ae bn be w).mono ?_
  rintro en w' ⟨rfl, hb⟩
  rw [hV, hD]
  exact ⟨rfl, hb⟩

set_option maxRecDepth 20000 in
set_option maxHeartbeats 4000000 in
theorem walk_FnDyads (w : World) (c0a : Value) (code : List UInt8) (h0 : Rd false 0 w.heap.size w [c0a] code) :
    Calls Try.prog 3 #[c0a] w (PostB w true) := by
  obtain ⟨ao0, len0, cap0, hcs0, hln0, hcn0, hcm0, -⟩ := h0.shape
  subst hcs0
  subst hln0
  unfold maxLen at hcm0
  have hle0 : code.length ≤ 9223372036854775807 := by omega
  clear hcm0 hcn0
  by_cases hg0 : 1048576 < code.length
  · go_enter Try.func3, Try.ntmps3
    go_wp2
    go_ret
    exact ⟨rfl, (by repeat' (first | (with_reducible exact Below.refl _ _) | (with_reducible assumption) | (with_reducible refine Below.alloc ?_ (by first | omega | (simp; omega) | simp) _) | (with_reducible refine Below.setCell ?_ (by first | omega | (simp; omega) | simp) _) | (with_reducible refine Below.drew ?_) | (with_reducible refine below_drewN ?_ _)))⟩
  have hq0 : ¬ (1048576 < code.length) := hg0
  have hq1 : code.length ≤ 1048576 := by omega
  go_enter Try.func3, Try.ntmps3
  go_wp2
  go_loopw [3, 4] (fun s3 s4 wr => ∃ (k : Nat) (L : List (Int × Int)), k ≤ 3 ∧ s4 = .int .i64 k ∧ L.length = k ∧ Hid (∀ d ∈ L, Dok 510 d) ∧ GL true w.heap.size w.heap.size wr.heap.size wr 25 s3 L ∧ Below w.heap.size w wr) (fun _ s4 _ => 3 - (intOf s4).toNat)
  case atStart => exact ⟨0, [], by omega, rfl, rfl, Lib.hid (fun d h => by cases h), (GL.lit0 _ _ _ _ _ (Nat.le_refl _)).top, (Below.refl _ _).alloc (Nat.le_refl _) _⟩
  case round =>
    rename_i wr
    obtain ⟨k, L, hk, rfl, hL, hD, hG, hb⟩ := hrel
    have sW := hb.size
    by_cases hlt : k < 3
    · have hkI : (k : Int) < 3 := by omega
      have u1 : wrap64 (2 * (k : Int)) = 2 * (k : Int) := IntWalk.wrap64_in _ (by omega)
      have u2 : wrap64 (2 * (k : Int) + 1) = 2 * (k : Int) + 1 := IntWalk.wrap64_in _ (by omega)
      have u3 : wrap64 ((k : Int) + 7) = (k : Int) + 7 := IntWalk.wrap64_in _ (by omega)
      go_wp2_with fail
      refine (at_any _ _ code (h0.below (by repeat' (first | (with_reducible exact Below.refl _ _) | (with_reducible assumption) | (with_reducible refine Below.alloc ?_ (by first | omega | (simp; omega) | simp) _) | (with_reducible refine Below.setCell ?_ (by first | omega | (simp; omega) | simp) _) | (with_reducible refine Below.drew ?_) | (with_reducible refine below_drewN ?_ _)))) hq1 _ (by omega) (by omega)).mono ?_
      rintro e1 w1 ⟨x1, rfl, hx1, hb1⟩
      have hB1 : Below w.heap.size w w1 := Below.after hb hb1 sW
      have hG := hG.below hb1
      have s1 := hb1.size
      clear hb1
      go_wp2_with fail
      refine (at_any _ _ code (h0.below (by repeat' (first | (with_reducible exact Below.refl _ _) | (with_reducible assumption) | (with_reducible refine Below.alloc ?_ (by first | omega | (simp; omega) | simp) _) | (with_reducible refine Below.setCell ?_ (by first | omega | (simp; omega) | simp) _) | (with_reducible refine Below.drew ?_) | (with_reducible refine below_drewN ?_ _)))) hq1 _ (by omega) (by omega)).mono ?_
      rintro e2 w2 ⟨x2, rfl, hx2, hb2⟩
      have hB2 : Below w.heap.size w w2 := Below.after hB1 hb2 (by omega)
      have hG := hG.top.below hb2
      have s2 := hb2.size
      clear hb2 hB1
      have u4 : wrap64 (x1 + x2) = x1 + x2 := IntWalk.wrap64_in _ (by omega)
      go_wp2_with fail
      refine (at_any _ _ code (h0.below (by repeat' (first | (with_reducible exact Below.refl _ _) | (with_reducible assumption) | (with_reducible refine Below.alloc ?_ (by first | omega | (simp; omega) | simp) _) | (with_reducible refine Below.setCell ?_ (by first | omega | (simp; omega) | simp) _) | (with_reducible refine Below.drew ?_) | (with_reducible refine below_drewN ?_ _)))) hq1 _ (by omega) (by omega)).mono ?_
      rintro e3 w3 ⟨x3, rfl, hx3, hb3⟩
      have hB3 : Below w.heap.size w w3 := Below.after hB2 hb3 (by omega)
      have hG := hG.top.below hb3
      have s3 := hb3.size
      clear hb3 hB2
      have u5 : x3.tmod 8 = x3 % 8 := Int.tmod_eq_emod_of_nonneg hx3.1
      go_wp2_with fail
      refine (dofI_ok _ _ _ (by omega) (by omega) (by omega) (by omega)).mono ?_
      rintro e4 w4 ⟨⟨dn, de⟩, hd, rfl, hb4⟩
      have hB4 : Below w.heap.size w w4 := Below.after hB3 hb4 (by omega)
      have hG := hG.top.below hb4
      have s4 := hb4.size
      have hG := hG.top
      clear hb4 hB3
      have hI : I64 dn ∧ I64 de := by
        obtain ⟨a, b, c, d⟩ := hd.out
        have := d.1; have := d.2.1
        dsimp only at *
        unfold I64; omega
      go_wp2_with (at_builtin; refine wpList_push rfl rfl slDyad (by show (0 : Nat) < 2; omega) (hG.below (by repeat' (first | (with_reducible exact Below.refl _ _) | (with_reducible assumption) | (with_reducible refine Below.alloc ?_ (by first | omega | (simp; omega) | simp) _) | (with_reducible refine Below.setCell ?_ (by first | omega | (simp; omega) | simp) _) | (with_reducible refine Below.drew ?_) | (with_reducible refine below_drewN ?_ _)))) rfl (ad := ⟨w4.heap.size + 1, 0, none⟩) rfl (cs := [.int .i64 dn, .int .i64 de]) (y := (dn, de)) (lx := w4.heap.size) (hx' := w4.heap.size) ?c1 (It.flat (z := true) (w0 := wr) (fp := []) ⟨[_], [_], [], [], rfl, rfl, ⟨rfl, hI.1, rfl⟩, ⟨rfl, hI.2, rfl⟩⟩) (by omega) (.inl (Nat.le_refl _)) (by unfold maxLen; omega) (by omega) ?c2 ?_)
      case c1 =>
        intro j c hj
        match j, hj with
        | 0, hj => simp at hj; subst hj; simp [Addr.add, go_sem]
        | 1, hj => simp at hj; subst hj; simp [Addr.add, go_sem]
      case c2 => simp; omega
      intro v' w5 hG5 _ hb5
      have hB5 : Below w.heap.size w w5 := Below.trans (by repeat' (first | (with_reducible exact Below.refl _ _) | (with_reducible assumption) | (with_reducible refine Below.alloc ?_ (by first | omega | (simp; omega) | simp) _) | (with_reducible refine Below.setCell ?_ (by first | omega | (simp; omega) | simp) _) | (with_reducible refine Below.drew ?_) | (with_reducible refine below_drewN ?_ _))) hb5
      have HD := Lib.hid (show ∀ d ∈ L ++ [(dn, de)], Dok 510 d by
        intro d hd'
        rcases List.mem_append.1 hd' with h | h
        · exact hD.out d h
        · simp at h; subst h; exact hd.out)
      clear hG hb5 hB4 hd hD
      go_wp2
      go_roundw
      case rel => exact ⟨k + 1, _, by omega, by go_num, by simp; omega, HD, hG5, hB5⟩
      case measure => simp [intOf]; omega
    · have hk3 : k = 3 := by omega
      subst hk3
      obtain ⟨ao, cap, rfl, -, -⟩ := hG.len
      have hR := hG.rd (l0 := w.heap.size) (Nat.le_refl _) (Nat.le_refl _)
      obtain ⟨gb, goff, a1, a2, rfl, ha, ca1, ca2, gl, -, gz⟩ := hR.pair_at (i := 0) (by omega)
      obtain ⟨_, _, b1, b2, ee, hb', cb1, cb2, -, -, -⟩ := hR.pair_at (i := 1) (by omega)
      simp only [Option.some.injEq, Addr.mk.injEq, and_true] at ee
      obtain ⟨rfl, rfl⟩ := ee
      obtain ⟨_, _, c1, c2, ee, hc', cc1, cc2, -, -, -⟩ := hR.pair_at (i := 2) (by omega)
      simp only [Option.some.injEq, Addr.mk.injEq, and_true] at ee
      obtain ⟨rfl, rfl⟩ := ee
      obtain ⟨⟨x1, x2⟩, ⟨z1, z2⟩, ⟨u1, u2⟩, V1, E1, V2, E2, V3, E3, V4, E4, V5, E5, V6, E6⟩ := dyads_law (hD.out _ (List.mem_of_getElem? ha.out)) (hD.out _ (List.mem_of_getElem? hb'.out)) (hD.out _ (List.mem_of_getElem? hc'.out))
      dsimp only at V1 E1 V2 E2 V3 E3 V4 E4 V5 E5 V6 E6
      have H1 := Lib.hid (And.intro V1 E1)
      have H2 := Lib.hid (And.intro V2 E2)
      have H3 := Lib.hid (And.intro V3 E3)
      have H4 := Lib.hid (And.intro V4 E4)
      have H5 := Lib.hid (And.intro V5 E5)
      have H6 := Lib.hid (And.intro V6 E6)
      clear V1 E1 V2 E2 V3 E3 V4 E4 V5 E5 V6 E6 hR hG hD ha hb' hc' h0 hk
      rw [hL] at *
      clear hL L
      have ca1 : wr.cell? ⟨gb, goff, none⟩ = some (.int .i64 a1) := by simpa using ca1
      have ca2 : wr.cell? ⟨gb, goff + 1, none⟩ = some (.int .i64 a2) := by simpa using ca2
      have cb1 : wr.cell? ⟨gb, goff + 2, none⟩ = some (.int .i64 b1) := by simpa using cb1
      have cb2 : wr.cell? ⟨gb, goff + 3, none⟩ = some (.int .i64 b2) := by simpa using cb2
      have cc1 : wr.cell? ⟨gb, goff + 4, none⟩ = some (.int .i64 c1) := by simpa using cc1
      have cc2 : wr.cell? ⟨gb, goff + 5, none⟩ = some (.int .i64 c2) := by simpa using cc2
      have lgb := gz
      have y0_gb : gb < wr.heap.size + 1 := by omega
      have m0_gb : ¬ gb = wr.heap.size := by omega
      have n0_gb : ¬ wr.heap.size = gb := by omega
      have hsz0 : w.heap.size ≤ wr.heap.size := hb.size
      go_upto_region 11 with fail
      go_cut [7, 8] (fun s7 s8 wx => ∃ g : Nat, s7 = .pointer (some ⟨g, 0, none⟩) ∧ s8 = .bool true ∧ wx.cell? ⟨g, 0, none⟩ = some (.int .i64 x1) ∧ wx.cell? ⟨g, 1, none⟩ = some (.int .i64 x2) ∧ g < wx.heap.size ∧ wx.cell? ⟨gb, goff, none⟩ = some (.int .i64 a1) ∧ wx.cell? ⟨gb, goff + 1, none⟩ = some (.int .i64 a2) ∧ wx.cell? ⟨gb, goff + 2, none⟩ = some (.int .i64 b1) ∧ wx.cell? ⟨gb, goff + 3, none⟩ = some (.int .i64 b2) ∧ wx.cell? ⟨gb, goff + 4, none⟩ = some (.int .i64 c1) ∧ wx.cell? ⟨gb, goff + 5, none⟩ = some (.int .i64 c2) ∧ gb < wx.heap.size ∧ Below w.heap.size w wx)
      case first =>
        go_region_held3 (fun w' => w'.cell? ⟨gb, goff, none⟩ = some (.int .i64 a1) ∧ w'.cell? ⟨gb, goff + 1, none⟩ = some (.int .i64 a2) ∧ w'.cell? ⟨gb, goff + 2, none⟩ = some (.int .i64 b1) ∧ w'.cell? ⟨gb, goff + 3, none⟩ = some (.int .i64 b2)) (go_keep) (first | (go_at_call 11; refine (addI_to _ _ _ _ _ _ _ H1.out.1 H1.out.2).mono ?_; rintro ep0 p0 ⟨rfl, hbp0⟩; have hBp0 : Below w.heap.size w p0 := Below.after (by repeat' (first | (with_reducible exact Below.refl _ _) | (with_reducible assumption) | (with_reducible refine Below.alloc ?_ (by first | omega | (simp; omega) | simp) _) | (with_reducible refine Below.setCell ?_ (by first | omega | (simp; omega) | simp) _) | (with_reducible refine Below.drew ?_) | (with_reducible refine below_drewN ?_ _))) hbp0 (by first | omega | (simp; omega)); have sp0 := hbp0.size; obtain ⟨hcp0, hfp0⟩ := bcell hbp0; (try simp only [World.size_alloc, World.size_drew, World.size_setCell] at sp0 hcp0 hfp0); have lp0gb : gb < p0.heap.size := (by omega); have mp0gb : gb < p0.heap.size + 1 := (by omega); have np0gb : ¬ gb = p0.heap.size := (by omega); have op0gb : ¬ p0.heap.size = gb := (by omega); (first | (have qp0 : wr.heap.size < p0.heap.size := (by omega)) | skip)))
        all_goals
          go_wp2_with fail
          go_meet
        all_goals exact ⟨_, rfl, rfl, by simp [go_sem, *], by simp [go_sem, *], by simp <;> omega, by simp [go_sem, *], by simp [go_sem, *], by simp [go_sem, *], by simp [go_sem, *], by simp [go_sem, *], by simp [go_sem, *], by simp <;> omega, (by repeat' (first | (with_reducible exact Below.refl _ _) | (with_reducible assumption) | (with_reducible refine Below.alloc ?_ (by first | omega | (simp; omega) | simp) _) | (with_reducible refine Below.setCell ?_ (by first | omega | (simp; omega) | simp) _) | (with_reducible refine Below.drew ?_) | (with_reducible refine below_drewN ?_ _)))⟩
      case rest =>
        obtain ⟨gx, rfl, rfl, qx1, qx2, lgx, ca1, ca2, cb1, cb2, cc1, cc2, lgb, hB0⟩ := hcut
        clear y0_gb m0_gb n0_gb
        obtain ⟨W0, hW0⟩ : ∃ W : World, W = wc := ⟨_, rfl⟩
        subst hW0
        have y1_gb : gb < W0.heap.size + 1 := by omega
        have m1_gb : ¬ gb = W0.heap.size := by omega
        have n1_gb : ¬ W0.heap.size = gb := by omega
        have y1_gx : gx < W0.heap.size + 1 := by omega
        have m1_gx : ¬ gx = W0.heap.size := by omega
        have n1_gx : ¬ W0.heap.size = gx := by omega
        have hsz1 : w.heap.size ≤ W0.heap.size := hB0.size
        go_upto_region 12 with fail
        go_cut [9, 10] (fun s9 s10 wx => ∃ g : Nat, s9 = .pointer (some ⟨g, 0, none⟩) ∧ s10 = .bool true ∧ wx.cell? ⟨g, 0, none⟩ = some (.int .i64 x1) ∧ wx.cell? ⟨g, 1, none⟩ = some (.int .i64 x2) ∧ g < wx.heap.size ∧ wx.cell? ⟨gb, goff, none⟩ = some (.int .i64 a1) ∧ wx.cell? ⟨gb, goff + 1, none⟩ = some (.int .i64 a2) ∧ wx.cell? ⟨gb, goff + 2, none⟩ = some (.int .i64 b1) ∧ wx.cell? ⟨gb, goff + 3, none⟩ = some (.int .i64 b2) ∧ wx.cell? ⟨gb, goff + 4, none⟩ = some (.int .i64 c1) ∧ wx.cell? ⟨gb, goff + 5, none⟩ = some (.int .i64 c2) ∧ wx.cell? ⟨gx, 0, none⟩ = some (.int .i64 x1) ∧ wx.cell? ⟨gx, 1, none⟩ = some (.int .i64 x2) ∧ gb < wx.heap.size ∧ gx < wx.heap.size ∧ Below w.heap.size w wx)
        case first =>
          go_region_held3 (fun w' => w'.cell? ⟨gb, goff + 2, none⟩ = some (.int .i64 b1) ∧ w'.cell? ⟨gb, goff + 3, none⟩ = some (.int .i64 b2) ∧ w'.cell? ⟨gb, goff, none⟩ = some (.int .i64 a1) ∧ w'.cell? ⟨gb, goff + 1, none⟩ = some (.int .i64 a2)) (go_keep) (first | (go_at_call 11; refine (addI_to _ _ _ _ _ _ _ H2.out.1 H2.out.2).mono ?_; rintro ep1 p1 ⟨rfl, hbp1⟩; have hBp1 : Below w.heap.size w p1 := Below.after (by repeat' (first | (with_reducible exact Below.refl _ _) | (with_reducible assumption) | (with_reducible refine Below.alloc ?_ (by first | omega | (simp; omega) | simp) _) | (with_reducible refine Below.setCell ?_ (by first | omega | (simp; omega) | simp) _) | (with_reducible refine Below.drew ?_) | (with_reducible refine below_drewN ?_ _))) hbp1 (by first | omega | (simp; omega)); have sp1 := hbp1.size; obtain ⟨hcp1, hfp1⟩ := bcell hbp1; (try simp only [World.size_alloc, World.size_drew, World.size_setCell] at sp1 hcp1 hfp1); have lp1gb : gb < p1.heap.size := (by omega); have mp1gb : gb < p1.heap.size + 1 := (by omega); have np1gb : ¬ gb = p1.heap.size := (by omega); have op1gb : ¬ p1.heap.size = gb := (by omega); have lp1gx : gx < p1.heap.size := (by omega); have mp1gx : gx < p1.heap.size + 1 := (by omega); have np1gx : ¬ gx = p1.heap.size := (by omega); have op1gx : ¬ p1.heap.size = gx := (by omega); (first | (have qp1 : W0.heap.size < p1.heap.size := (by omega)) | skip)))
          all_goals
            go_wp2_with fail
            go_meet
          all_goals exact ⟨_, rfl, rfl, by simp [go_sem, *], by simp [go_sem, *], by simp <;> omega, by simp [go_sem, *], by simp [go_sem, *], by simp [go_sem, *], by simp [go_sem, *], by simp [go_sem, *], by simp [go_sem, *], by simp [go_sem, *], by simp [go_sem, *], by simp <;> omega, by simp <;> omega, (by repeat' (first | (with_reducible exact Below.refl _ _) | (with_reducible assumption) | (with_reducible refine Below.alloc ?_ (by first | omega | (simp; omega) | simp) _) | (with_reducible refine Below.setCell ?_ (by first | omega | (simp; omega) | simp) _) | (with_reducible refine Below.drew ?_) | (with_reducible refine below_drewN ?_ _)))⟩
        case rest =>
          obtain ⟨gy, rfl, rfl, qy1, qy2, lgy, ca1, ca2, cb1, cb2, cc1, cc2, qx1, qx2, lgb, lgx, hB1⟩ := hcut
          clear y1_gb m1_gb n1_gb y1_gx m1_gx n1_gx
          obtain ⟨W1, hW1⟩ : ∃ W : World, W = wc := ⟨_, rfl⟩
          subst hW1
          have y2_gb : gb < W1.heap.size + 1 := by omega
          have m2_gb : ¬ gb = W1.heap.size := by omega
          have n2_gb : ¬ W1.heap.size = gb := by omega
          have y2_gx : gx < W1.heap.size + 1 := by omega
          have m2_gx : ¬ gx = W1.heap.size := by omega
          have n2_gx : ¬ W1.heap.size = gx := by omega
          have y2_gy : gy < W1.heap.size + 1 := by omega
          have m2_gy : ¬ gy = W1.heap.size := by omega
          have n2_gy : ¬ W1.heap.size = gy := by omega
          have hsz2 : w.heap.size ≤ W1.heap.size := hB1.size
          go_upto_region 13 with fail
          go_cut [11, 12] (fun s11 s12 wx => ∃ g : Nat, s11 = .pointer (some ⟨g, 0, none⟩) ∧ s12 = .bool true ∧ wx.cell? ⟨g, 0, none⟩ = some (.int .i64 z1) ∧ wx.cell? ⟨g, 1, none⟩ = some (.int .i64 z2) ∧ g < wx.heap.size ∧ wx.cell? ⟨gb, goff, none⟩ = some (.int .i64 a1) ∧ wx.cell? ⟨gb, goff + 1, none⟩ = some (.int .i64 a2) ∧ wx.cell? ⟨gb, goff + 2, none⟩ = some (.int .i64 b1) ∧ wx.cell? ⟨gb, goff + 3, none⟩ = some (.int .i64 b2) ∧ wx.cell? ⟨gb, goff + 4, none⟩ = some (.int .i64 c1) ∧ wx.cell? ⟨gb, goff + 5, none⟩ = some (.int .i64 c2) ∧ wx.cell? ⟨gx, 0, none⟩ = some (.int .i64 x1) ∧ wx.cell? ⟨gx, 1, none⟩ = some (.int .i64 x2) ∧ wx.cell? ⟨gy, 0, none⟩ = some (.int .i64 x1) ∧ wx.cell? ⟨gy, 1, none⟩ = some (.int .i64 x2) ∧ gb < wx.heap.size ∧ gx < wx.heap.size ∧ gy < wx.heap.size ∧ Below w.heap.size w wx)
          case first =>
            go_region_held3 (fun w' => w'.cell? ⟨gx, 0, none⟩ = some (.int .i64 x1) ∧ w'.cell? ⟨gx, 1, none⟩ = some (.int .i64 x2) ∧ w'.cell? ⟨gb, goff + 4, none⟩ = some (.int .i64 c1) ∧ w'.cell? ⟨gb, goff + 5, none⟩ = some (.int .i64 c2)) (go_keep) (first | (go_at_call 11; refine (addI_to _ _ _ _ _ _ _ H3.out.1 H3.out.2).mono ?_; rintro ep2 p2 ⟨rfl, hbp2⟩; have hBp2 : Below w.heap.size w p2 := Below.after (by repeat' (first | (with_reducible exact Below.refl _ _) | (with_reducible assumption) | (with_reducible refine Below.alloc ?_ (by first | omega | (simp; omega) | simp) _) | (with_reducible refine Below.setCell ?_ (by first | omega | (simp; omega) | simp) _) | (with_reducible refine Below.drew ?_) | (with_reducible refine below_drewN ?_ _))) hbp2 (by first | omega | (simp; omega)); have sp2 := hbp2.size; obtain ⟨hcp2, hfp2⟩ := bcell hbp2; (try simp only [World.size_alloc, World.size_drew, World.size_setCell] at sp2 hcp2 hfp2); have lp2gb : gb < p2.heap.size := (by omega); have mp2gb : gb < p2.heap.size + 1 := (by omega); have np2gb : ¬ gb = p2.heap.size := (by omega); have op2gb : ¬ p2.heap.size = gb := (by omega); have lp2gx : gx < p2.heap.size := (by omega); have mp2gx : gx < p2.heap.size + 1 := (by omega); have np2gx : ¬ gx = p2.heap.size := (by omega); have op2gx : ¬ p2.heap.size = gx := (by omega); have lp2gy : gy < p2.heap.size := (by omega); have mp2gy : gy < p2.heap.size + 1 := (by omega); have np2gy : ¬ gy = p2.heap.size := (by omega); have op2gy : ¬ p2.heap.size = gy := (by omega); (first | (have qp2 : W1.heap.size < p2.heap.size := (by omega)) | skip)))
            all_goals
              go_wp2_with fail
              go_meet
            all_goals exact ⟨_, rfl, rfl, by simp [go_sem, *], by simp [go_sem, *], by simp <;> omega, by simp [go_sem, *], by simp [go_sem, *], by simp [go_sem, *], by simp [go_sem, *], by simp [go_sem, *], by simp [go_sem, *], by simp [go_sem, *], by simp [go_sem, *], by simp [go_sem, *], by simp [go_sem, *], by simp <;> omega, by simp <;> omega, by simp <;> omega, (by repeat' (first | (with_reducible exact Below.refl _ _) | (with_reducible assumption) | (with_reducible refine Below.alloc ?_ (by first | omega | (simp; omega) | simp) _) | (with_reducible refine Below.setCell ?_ (by first | omega | (simp; omega) | simp) _) | (with_reducible refine Below.drew ?_) | (with_reducible refine below_drewN ?_ _)))⟩
          case rest =>
            obtain ⟨gz, rfl, rfl, qz1, qz2, lgz, ca1, ca2, cb1, cb2, cc1, cc2, qx1, qx2, qy1, qy2, lgb, lgx, lgy, hB2⟩ := hcut
            clear y2_gb m2_gb n2_gb y2_gx m2_gx n2_gx y2_gy m2_gy n2_gy
            obtain ⟨W2, hW2⟩ : ∃ W : World, W = wc := ⟨_, rfl⟩
            subst hW2
            have y3_gb : gb < W2.heap.size + 1 := by omega
            have m3_gb : ¬ gb = W2.heap.size := by omega
            have n3_gb : ¬ W2.heap.size = gb := by omega
            have y3_gx : gx < W2.heap.size + 1 := by omega
            have m3_gx : ¬ gx = W2.heap.size := by omega
            have n3_gx : ¬ W2.heap.size = gx := by omega
            have y3_gy : gy < W2.heap.size + 1 := by omega
            have m3_gy : ¬ gy = W2.heap.size := by omega
            have n3_gy : ¬ W2.heap.size = gy := by omega
            have y3_gz : gz < W2.heap.size + 1 := by omega
            have m3_gz : ¬ gz = W2.heap.size := by omega
            have n3_gz : ¬ W2.heap.size = gz := by omega
            have hsz3 : w.heap.size ≤ W2.heap.size := hB2.size
            go_upto_region 14 with fail
            go_cut [13, 14] (fun s13 s14 wx => ∃ g : Nat, s13 = .pointer (some ⟨g, 0, none⟩) ∧ s14 = .bool true ∧ wx.cell? ⟨g, 0, none⟩ = some (.int .i64 u1) ∧ wx.cell? ⟨g, 1, none⟩ = some (.int .i64 u2) ∧ g < wx.heap.size ∧ wx.cell? ⟨gb, goff, none⟩ = some (.int .i64 a1) ∧ wx.cell? ⟨gb, goff + 1, none⟩ = some (.int .i64 a2) ∧ wx.cell? ⟨gb, goff + 2, none⟩ = some (.int .i64 b1) ∧ wx.cell? ⟨gb, goff + 3, none⟩ = some (.int .i64 b2) ∧ wx.cell? ⟨gb, goff + 4, none⟩ = some (.int .i64 c1) ∧ wx.cell? ⟨gb, goff + 5, none⟩ = some (.int .i64 c2) ∧ wx.cell? ⟨gx, 0, none⟩ = some (.int .i64 x1) ∧ wx.cell? ⟨gx, 1, none⟩ = some (.int .i64 x2) ∧ wx.cell? ⟨gy, 0, none⟩ = some (.int .i64 x1) ∧ wx.cell? ⟨gy, 1, none⟩ = some (.int .i64 x2) ∧ wx.cell? ⟨gz, 0, none⟩ = some (.int .i64 z1) ∧ wx.cell? ⟨gz, 1, none⟩ = some (.int .i64 z2) ∧ gb < wx.heap.size ∧ gx < wx.heap.size ∧ gy < wx.heap.size ∧ gz < wx.heap.size ∧ Below w.heap.size w wx)
            case first =>
              go_region_held3 (fun w' => w'.cell? ⟨gb, goff + 2, none⟩ = some (.int .i64 b1) ∧ w'.cell? ⟨gb, goff + 3, none⟩ = some (.int .i64 b2) ∧ w'.cell? ⟨gb, goff + 4, none⟩ = some (.int .i64 c1) ∧ w'.cell? ⟨gb, goff + 5, none⟩ = some (.int .i64 c2)) (go_keep) (first | (go_at_call 11; refine (addI_to _ _ _ _ _ _ _ H4.out.1 H4.out.2).mono ?_; rintro ep3 p3 ⟨rfl, hbp3⟩; have hBp3 : Below w.heap.size w p3 := Below.after (by repeat' (first | (with_reducible exact Below.refl _ _) | (with_reducible assumption) | (with_reducible refine Below.alloc ?_ (by first | omega | (simp; omega) | simp) _) | (with_reducible refine Below.setCell ?_ (by first | omega | (simp; omega) | simp) _) | (with_reducible refine Below.drew ?_) | (with_reducible refine below_drewN ?_ _))) hbp3 (by first | omega | (simp; omega)); have sp3 := hbp3.size; obtain ⟨hcp3, hfp3⟩ := bcell hbp3; (try simp only [World.size_alloc, World.size_drew, World.size_setCell] at sp3 hcp3 hfp3); have lp3gb : gb < p3.heap.size := (by omega); have mp3gb : gb < p3.heap.size + 1 := (by omega); have np3gb : ¬ gb = p3.heap.size := (by omega); have op3gb : ¬ p3.heap.size = gb := (by omega); have lp3gx : gx < p3.heap.size := (by omega); have mp3gx : gx < p3.heap.size + 1 := (by omega); have np3gx : ¬ gx = p3.heap.size := (by omega); have op3gx : ¬ p3.heap.size = gx := (by omega); have lp3gy : gy < p3.heap.size := (by omega); have mp3gy : gy < p3.heap.size + 1 := (by omega); have np3gy : ¬ gy = p3.heap.size := (by omega); have op3gy : ¬ p3.heap.size = gy := (by omega); have lp3gz : gz < p3.heap.size := (by omega); have mp3gz : gz < p3.heap.size + 1 := (by omega); have np3gz : ¬ gz = p3.heap.size := (by omega); have op3gz : ¬ p3.heap.size = gz := (by omega); (first | (have qp3 : W2.heap.size < p3.heap.size := (by omega)) | skip)))
              all_goals
                go_wp2_with fail
                go_meet
              all_goals exact ⟨_, rfl, rfl, by simp [go_sem, *], by simp [go_sem, *], by simp <;> omega, by simp [go_sem, *], by simp [go_sem, *], by simp [go_sem, *], by simp [go_sem, *], by simp [go_sem, *], by simp [go_sem, *], by simp [go_sem, *], by simp [go_sem, *], by simp [go_sem, *], by simp [go_sem, *], by simp [go_sem, *], by simp [go_sem, *], by simp <;> omega, by simp <;> omega, by simp <;> omega, by simp <;> omega, (by repeat' (first | (with_reducible exact Below.refl _ _) | (with_reducible assumption) | (with_reducible refine Below.alloc ?_ (by first | omega | (simp; omega) | simp) _) | (with_reducible refine Below.setCell ?_ (by first | omega | (simp; omega) | simp) _) | (with_reducible refine Below.drew ?_) | (with_reducible refine below_drewN ?_ _)))⟩
            case rest =>
              obtain ⟨gu, rfl, rfl, qu1, qu2, lgu, ca1, ca2, cb1, cb2, cc1, cc2, qx1, qx2, qy1, qy2, qz1, qz2, lgb, lgx, lgy, lgz, hB3⟩ := hcut
              clear y3_gb m3_gb n3_gb y3_gx m3_gx n3_gx y3_gy m3_gy n3_gy y3_gz m3_gz n3_gz
              obtain ⟨W3, hW3⟩ : ∃ W : World, W = wc := ⟨_, rfl⟩
              subst hW3
              have y4_gb : gb < W3.heap.size + 1 := by omega
              have m4_gb : ¬ gb = W3.heap.size := by omega
              have n4_gb : ¬ W3.heap.size = gb := by omega
              have y4_gx : gx < W3.heap.size + 1 := by omega
              have m4_gx : ¬ gx = W3.heap.size := by omega
              have n4_gx : ¬ W3.heap.size = gx := by omega
              have y4_gy : gy < W3.heap.size + 1 := by omega
              have m4_gy : ¬ gy = W3.heap.size := by omega
              have n4_gy : ¬ W3.heap.size = gy := by omega
              have y4_gz : gz < W3.heap.size + 1 := by omega
              have m4_gz : ¬ gz = W3.heap.size := by omega
              have n4_gz : ¬ W3.heap.size = gz := by omega
              have y4_gu : gu < W3.heap.size + 1 := by omega
              have m4_gu : ¬ gu = W3.heap.size := by omega
              have n4_gu : ¬ W3.heap.size = gu := by omega
              have hsz4 : w.heap.size ≤ W3.heap.size := hB3.size
              go_upto_region 15 with fail
              go_cut [15, 16] (fun s15 s16 wx => ∃ g : Nat, s15 = .pointer (some ⟨g, 0, none⟩) ∧ s16 = .bool true ∧ wx.cell? ⟨g, 0, none⟩ = some (.int .i64 z1) ∧ wx.cell? ⟨g, 1, none⟩ = some (.int .i64 z2) ∧ g < wx.heap.size ∧ wx.cell? ⟨gb, goff, none⟩ = some (.int .i64 a1) ∧ wx.cell? ⟨gb, goff + 1, none⟩ = some (.int .i64 a2) ∧ wx.cell? ⟨gb, goff + 2, none⟩ = some (.int .i64 b1) ∧ wx.cell? ⟨gb, goff + 3, none⟩ = some (.int .i64 b2) ∧ wx.cell? ⟨gb, goff + 4, none⟩ = some (.int .i64 c1) ∧ wx.cell? ⟨gb, goff + 5, none⟩ = some (.int .i64 c2) ∧ wx.cell? ⟨gx, 0, none⟩ = some (.int .i64 x1) ∧ wx.cell? ⟨gx, 1, none⟩ = some (.int .i64 x2) ∧ wx.cell? ⟨gy, 0, none⟩ = some (.int .i64 x1) ∧ wx.cell? ⟨gy, 1, none⟩ = some (.int .i64 x2) ∧ wx.cell? ⟨gz, 0, none⟩ = some (.int .i64 z1) ∧ wx.cell? ⟨gz, 1, none⟩ = some (.int .i64 z2) ∧ wx.cell? ⟨gu, 0, none⟩ = some (.int .i64 u1) ∧ wx.cell? ⟨gu, 1, none⟩ = some (.int .i64 u2) ∧ gb < wx.heap.size ∧ gx < wx.heap.size ∧ gy < wx.heap.size ∧ gz < wx.heap.size ∧ gu < wx.heap.size ∧ Below w.heap.size w wx)
              case first =>
                go_region_held3 (fun w' => w'.cell? ⟨gb, goff, none⟩ = some (.int .i64 a1) ∧ w'.cell? ⟨gb, goff + 1, none⟩ = some (.int .i64 a2) ∧ w'.cell? ⟨gu, 0, none⟩ = some (.int .i64 u1) ∧ w'.cell? ⟨gu, 1, none⟩ = some (.int .i64 u2)) (go_keep) (first | (go_at_call 11; refine (addI_to _ _ _ _ _ _ _ H5.out.1 H5.out.2).mono ?_; rintro ep4 p4 ⟨rfl, hbp4⟩; have hBp4 : Below w.heap.size w p4 := Below.after (by repeat' (first | (with_reducible exact Below.refl _ _) | (with_reducible assumption) | (with_reducible refine Below.alloc ?_ (by first | omega | (simp; omega) | simp) _) | (with_reducible refine Below.setCell ?_ (by first | omega | (simp; omega) | simp) _) | (with_reducible refine Below.drew ?_) | (with_reducible refine below_drewN ?_ _))) hbp4 (by first | omega | (simp; omega)); have sp4 := hbp4.size; obtain ⟨hcp4, hfp4⟩ := bcell hbp4; (try simp only [World.size_alloc, World.size_drew, World.size_setCell] at sp4 hcp4 hfp4); have lp4gb : gb < p4.heap.size := (by omega); have mp4gb : gb < p4.heap.size + 1 := (by omega); have np4gb : ¬ gb = p4.heap.size := (by omega); have op4gb : ¬ p4.heap.size = gb := (by omega); have lp4gx : gx < p4.heap.size := (by omega); have mp4gx : gx < p4.heap.size + 1 := (by omega); have np4gx : ¬ gx = p4.heap.size := (by omega); have op4gx : ¬ p4.heap.size = gx := (by omega); have lp4gy : gy < p4.heap.size := (by omega); have mp4gy : gy < p4.heap.size + 1 := (by omega); have np4gy : ¬ gy = p4.heap.size := (by omega); have op4gy : ¬ p4.heap.size = gy := (by omega); have lp4gz : gz < p4.heap.size := (by omega); have mp4gz : gz < p4.heap.size + 1 := (by omega); have np4gz : ¬ gz = p4.heap.size := (by omega); have op4gz : ¬ p4.heap.size = gz := (by omega); have lp4gu : gu < p4.heap.size := (by omega); have mp4gu : gu < p4.heap.size + 1 := (by omega); have np4gu : ¬ gu = p4.heap.size := (by omega); have op4gu : ¬ p4.heap.size = gu := (by omega); (first | (have qp4 : W3.heap.size < p4.heap.size := (by omega)) | skip)))
                all_goals
                  go_wp2_with fail
                  go_meet
                all_goals exact ⟨_, rfl, rfl, by simp [go_sem, *], by simp [go_sem, *], by simp <;> omega, by simp [go_sem, *], by simp [go_sem, *], by simp [go_sem, *], by simp [go_sem, *], by simp [go_sem, *], by simp [go_sem, *], by simp [go_sem, *], by simp [go_sem, *], by simp [go_sem, *], by simp [go_sem, *], by simp [go_sem, *], by simp [go_sem, *], by simp [go_sem, *], by simp [go_sem, *], by simp <;> omega, by simp <;> omega, by simp <;> omega, by simp <;> omega, by simp <;> omega, (by repeat' (first | (with_reducible exact Below.refl _ _) | (with_reducible assumption) | (with_reducible refine Below.alloc ?_ (by first | omega | (simp; omega) | simp) _) | (with_reducible refine Below.setCell ?_ (by first | omega | (simp; omega) | simp) _) | (with_reducible refine Below.drew ?_) | (with_reducible refine below_drewN ?_ _)))⟩
              case rest =>
                obtain ⟨gv, rfl, rfl, qv1, qv2, lgv, ca1, ca2, cb1, cb2, cc1, cc2, qx1, qx2, qy1, qy2, qz1, qz2, qu1, qu2, lgb, lgx, lgy, lgz, lgu, hB4⟩ := hcut
                clear y4_gb m4_gb n4_gb y4_gx m4_gx n4_gx y4_gy m4_gy n4_gy y4_gz m4_gz n4_gz y4_gu m4_gu n4_gu
                obtain ⟨W4, hW4⟩ : ∃ W : World, W = wc := ⟨_, rfl⟩
                subst hW4
                have y5_gb : gb < W4.heap.size + 1 := by omega
                have m5_gb : ¬ gb = W4.heap.size := by omega
                have n5_gb : ¬ W4.heap.size = gb := by omega
                have y5_gx : gx < W4.heap.size + 1 := by omega
                have m5_gx : ¬ gx = W4.heap.size := by omega
                have n5_gx : ¬ W4.heap.size = gx := by omega
                have y5_gy : gy < W4.heap.size + 1 := by omega
                have m5_gy : ¬ gy = W4.heap.size := by omega
                have n5_gy : ¬ W4.heap.size = gy := by omega
                have y5_gz : gz < W4.heap.size + 1 := by omega
                have m5_gz : ¬ gz = W4.heap.size := by omega
                have n5_gz : ¬ W4.heap.size = gz := by omega
                have y5_gu : gu < W4.heap.size + 1 := by omega
                have m5_gu : ¬ gu = W4.heap.size := by omega
                have n5_gu : ¬ W4.heap.size = gu := by omega
                have y5_gv : gv < W4.heap.size + 1 := by omega
                have m5_gv : ¬ gv = W4.heap.size := by omega
                have n5_gv : ¬ W4.heap.size = gv := by omega
                have hsz5 : w.heap.size ≤ W4.heap.size := hB4.size
                go_wp2_with fail
                refine (addI_to _ _ _ _ _ _ _ H6.out.1 H6.out.2).mono ?_
                rintro e6 W6 ⟨rfl, hb6⟩
                have hB6 : Below w.heap.size w W6 := Below.after hB4 hb6 hsz5
                have ca1 := oldc hb6 lgb ca1
                have ca2 := oldc hb6 lgb ca2
                have cb1 := oldc hb6 lgb cb1
                have cb2 := oldc hb6 lgb cb2
                have cc1 := oldc hb6 lgb cc1
                have cc2 := oldc hb6 lgb cc2
                have qx1 := oldc hb6 lgx qx1
                have qx2 := oldc hb6 lgx qx2
                have qy1 := oldc hb6 lgy qy1
                have qy2 := oldc hb6 lgy qy2
                have qz1 := oldc hb6 lgz qz1
                have qz2 := oldc hb6 lgz qz2
                have qu1 := oldc hb6 lgu qu1
                have qu2 := oldc hb6 lgu qu2
                have qv1 := oldc hb6 lgv qv1
                have qv2 := oldc hb6 lgv qv2
                have s6 := hb6.size
                have y7_gb : gb < W6.heap.size + 1 := by omega
                have m7_gb : ¬ gb = W6.heap.size := by omega
                have n7_gb : ¬ W6.heap.size = gb := by omega
                have y7_gx : gx < W6.heap.size + 1 := by omega
                have m7_gx : ¬ gx = W6.heap.size := by omega
                have n7_gx : ¬ W6.heap.size = gx := by omega
                have y7_gy : gy < W6.heap.size + 1 := by omega
                have m7_gy : ¬ gy = W6.heap.size := by omega
                have n7_gy : ¬ W6.heap.size = gy := by omega
                have y7_gz : gz < W6.heap.size + 1 := by omega
                have m7_gz : ¬ gz = W6.heap.size := by omega
                have n7_gz : ¬ W6.heap.size = gz := by omega
                have y7_gu : gu < W6.heap.size + 1 := by omega
                have m7_gu : ¬ gu = W6.heap.size := by omega
                have n7_gu : ¬ W6.heap.size = gu := by omega
                have y7_gv : gv < W6.heap.size + 1 := by omega
                have m7_gv : ¬ gv = W6.heap.size := by omega
                have n7_gv : ¬ W6.heap.size = gv := by omega
                clear hb6 y5_gb m5_gb n5_gb y5_gx m5_gx n5_gx y5_gy m5_gy n5_gy y5_gz m5_gz n5_gz y5_gu m5_gu n5_gu y5_gv m5_gv n5_gv
                have hsF := hB6.size
                go_upto_region 17 with fail
                go_region_held3 (fun w' => w'.cell? ⟨gx, 0, none⟩ = some (.int .i64 x1) ∧ w'.cell? ⟨gx, 1, none⟩ = some (.int .i64 x2) ∧ w'.cell? ⟨gy, 0, none⟩ = some (.int .i64 x1) ∧ w'.cell? ⟨gy, 1, none⟩ = some (.int .i64 x2) ∧ w'.cell? ⟨gz, 0, none⟩ = some (.int .i64 z1) ∧ w'.cell? ⟨gz, 1, none⟩ = some (.int .i64 z2) ∧ w'.cell? ⟨gv, 0, none⟩ = some (.int .i64 z1) ∧ w'.cell? ⟨gv, 1, none⟩ = some (.int .i64 z2) ∧ w'.cell? ⟨W6.heap.size, 0, none⟩ = some (.int .i64 a1) ∧ w'.cell? ⟨W6.heap.size, 1, none⟩ = some (.int .i64 a2) ∧ w'.cell? ⟨gb, goff, none⟩ = some (.int .i64 a1) ∧ w'.cell? ⟨gb, goff + 1, none⟩ = some (.int .i64 a2)) (go_keep) (fail)
                go_wp2
                go_ret
                exact ⟨rfl, (by repeat' (first | (with_reducible exact Below.refl _ _) | (with_reducible assumption) | (with_reducible refine Below.alloc ?_ (by first | omega | (simp; omega) | simp) _) | (with_reducible refine Below.setCell ?_ (by first | omega | (simp; omega) | simp) _) | (with_reducible refine Below.drew ?_) | (with_reducible refine below_drewN ?_ _)))⟩
end Go.Proofs.Ytmbnhjohmodflaa
