/- Contract of SameDivision (impl). Written by sd_gen.py. -/
import Derived.Test.YtnfgdkbapffjcaaAgr
import Derived.Test.YtnfgdkbapffjcaaDiv
namespace Go.Proofs.Ytnfgdkbapffjcaa
set_option linter.unusedVariables false
set_option linter.unusedSimpArgs false
open Go.RowKit

set_option maxRecDepth 20000 in
set_option maxHeartbeats 16000000 in
theorem sameDivI_b {z z1 : Bool} {lo hi lo1 hi1 : Nat} (w : World) (y1 y2 z1' z2' : Value) (y x : Trm) (h : Rd z lo hi w [y1, y2] y) (h' : Rd z1 lo1 hi1 w [z1', z2'] x) (n : Int) (R : Bool) (hR : R = sameDiv y x n) :
    Calls Try.prog 11 #[.agg #[y1, y2], .agg #[z1', z2'], .int .i64 n] w (PostB w R) := by
  obtain ⟨rs, es⟩ := y
  obtain ⟨rs2, es2⟩ := x
  have HY := Lib.hid h
  have HX := Lib.hid h'
  obtain ⟨hy1, hy2⟩ := h.two rfl
  obtain ⟨hx1, hx2⟩ := h'.two rfl
  dsimp only at hy1 hy2 hx1 hx2
  obtain ⟨ra, rn, rcap, rfl, -⟩ := hy1.shape
  obtain ⟨ea, en, ecap, rfl, -⟩ := hy2.shape
  obtain ⟨ra2, rn2, rcap2, rfl, -⟩ := hx1.shape
  obtain ⟨ea2, en2, ecap2, rfl, -⟩ := hx2.shape
  obtain ⟨r1, hlet_r1⟩ : ∃ r, r = isTerm (rs, es) := ⟨_, rfl⟩
  have H1 := Lib.hid hlet_r1
  clear hlet_r1
  obtain ⟨r2, hlet_r2⟩ : ∃ r, r = isTerm (rs2, es2) := ⟨_, rfl⟩
  have H2 := Lib.hid hlet_r2
  clear hlet_r2
  obtain ⟨d1, hlet_d1⟩ : ∃ r, r = divD (rs, es) (rs2, es2) (typesX 1 n) (typesX 1 n).length := ⟨_, rfl⟩
  have HD1 := Lib.hid hlet_d1
  clear hlet_d1
  obtain ⟨d2, hlet_d2⟩ : ∃ r, r = divD (rs, es) (rs2, es2) (typesX 2 n) (typesX 2 n).length := ⟨_, rfl⟩
  have HD2 := Lib.hid hlet_d2
  clear hlet_d2
  have HR := Lib.hid (show R = ((r1 && (r2 && decide (1 ≤ n ∧ n ≤ 3))) && (d1 && d2)) by rw [hR, sameDiv, sameV, H1.out, H2.out, HD1.out, HD2.out])
  clear h h' hy1 hy2 hx1 hx2 hR
  go_enter Try.func11, Try.ntmps11
  go_wp2_with fail
  refine (isTermI_b _ _ _ rs es (HY.out.below (by repeat' (first | (with_reducible exact Below.refl _ _) | (with_reducible assumption) | (with_reducible refine Below.alloc ?_ (by first | omega | (simp; omega) | simp) _) | (with_reducible refine Below.setCell ?_ (by first | omega | (simp; omega) | simp) _) | (with_reducible refine Below.drew ?_) | (with_reducible refine below_drewN ?_ _)))) r1 H1.out).mono ?_
  rintro e1 w1 ⟨rfl, hbw1⟩
  have hpw1 : Below w.heap.size w w1 := Below.after (by repeat' (first | (with_reducible exact Below.refl _ _) | (with_reducible assumption) | (with_reducible refine Below.alloc ?_ (by first | omega | (simp; omega) | simp) _) | (with_reducible refine Below.setCell ?_ (by first | omega | (simp; omega) | simp) _) | (with_reducible refine Below.drew ?_) | (with_reducible refine below_drewN ?_ _))) hbw1 (by first | omega | (simp only [World.size_alloc, World.size_setCell, World.size_drew] at *; omega) | (simp; omega) | simp)
  have sw1 := hpw1.size
  have hBw1 : Below w.heap.size w w1 := hpw1
  have l_y : w.heap.size < w1.heap.size := by have := hbw1.size; simp at this; omega
  have q_y0 : w1.cell? ⟨w.heap.size, 0, none⟩ = some (.slice ra rn rcap) := oldc hbw1 (by first | omega | (simp; omega) | (simp; done)) (by simp [go_sem])
  have q_y1 : w1.cell? ⟨w.heap.size, 1, none⟩ = some (.slice ea en ecap) := oldc hbw1 (by first | omega | (simp; omega) | (simp; done)) (by simp [go_sem])
  have l_x : w.heap.size + 1 < w1.heap.size := by have := hbw1.size; simp at this; omega
  have q_x0 : w1.cell? ⟨w.heap.size + 1, 0, none⟩ = some (.slice ra2 rn2 rcap2) := oldc hbw1 (by first | omega | (simp; omega) | (simp; done)) (by simp [go_sem])
  have q_x1 : w1.cell? ⟨w.heap.size + 1, 1, none⟩ = some (.slice ea2 en2 ecap2) := oldc hbw1 (by first | omega | (simp; omega) | (simp; done)) (by simp [go_sem])
  clear hbw1 hpw1
  cases r1
  · obtain rfl : R = false := by rw [HR.out]; rfl
    clear HR H1 H2 HY HX
    go_wp2
    go_ret
    exact ⟨rfl, hBw1⟩
  go_wp2_with fail
  refine (isTermI_b _ _ _ rs2 es2 (HX.out.below (by repeat' (first | (with_reducible exact Below.refl _ _) | (with_reducible assumption) | (with_reducible refine Below.alloc ?_ (by first | omega | (simp; omega) | simp) _) | (with_reducible refine Below.setCell ?_ (by first | omega | (simp; omega) | simp) _) | (with_reducible refine Below.drew ?_) | (with_reducible refine below_drewN ?_ _)))) r2 H2.out).mono ?_
  rintro e2 w2 ⟨rfl, hbw2⟩
  have hpw2 : Below w1.heap.size w1 w2 := Below.after (by repeat' (first | (with_reducible exact Below.refl _ _) | (with_reducible assumption) | (with_reducible refine Below.alloc ?_ (by first | omega | (simp; omega) | simp) _) | (with_reducible refine Below.setCell ?_ (by first | omega | (simp; omega) | simp) _) | (with_reducible refine Below.drew ?_) | (with_reducible refine below_drewN ?_ _))) hbw2 (by first | omega | (simp only [World.size_alloc, World.size_setCell, World.size_drew] at *; omega) | (simp; omega) | simp)
  have sw2 := hpw2.size
  have hBw2 : Below w.heap.size w w2 := Below.trans hBw1 (Below.mono hpw2 hBw1.size)
  have q_y0 := oldc hpw2 l_y q_y0
  have q_y1 := oldc hpw2 l_y q_y1
  have q_x0 := oldc hpw2 l_x q_x0
  have q_x1 := oldc hpw2 l_x q_x1
  have l_x := Nat.lt_of_lt_of_le l_x sw2
  have l_y := Nat.lt_of_lt_of_le l_y sw2
  clear hbw2 hpw2
  cases r2
  · obtain rfl : R = false := by rw [HR.out]; rfl
    clear HR H1 H2 HY HX
    go_wp2
    go_ret
    exact ⟨rfl, hBw2⟩
  by_cases hn1 : n < 1
  · obtain rfl : R = false := by rw [HR.out, decide_eq_false (by omega)]; rfl
    clear HR H1 H2 HY HX
    go_wp2
    go_ret
    exact ⟨rfl, hBw2⟩
  by_cases hn3 : 3 < n
  · obtain rfl : R = false := by rw [HR.out, decide_eq_false (by omega)]; rfl
    clear HR H1 H2 HY HX
    go_wp2
    go_ret
    exact ⟨rfl, hBw2⟩
  have HRD := Lib.hid (show R = (d1 && d2) by rw [HR.out, decide_eq_true (by omega)]; rfl)
  clear HR
  obtain ⟨W0, hW0⟩ : ∃ W0 : World, W0 = w2 := ⟨_, rfl⟩
  subst hW0
  have hB0 : Below w.heap.size w W0 := hBw2
  have s0 := hB0.size
  have ya0 := q_y0
  have ya1 := q_y1
  have xa0 := q_x0
  have xa1 := q_x1
  have lya : w.heap.size < W0.heap.size := l_y
  have lxa : w.heap.size + 1 < W0.heap.size := l_x
  clear q_y0 q_y1 q_x0 q_x1 l_y l_x
  go_wp2
  go_loopw [7, 8, 9, 10, 11, 12, 44, 48] (fun s7 _ _ _ _ _ _ _ wr => ∃ k : Nat, k ≤ 2 ∧ s7 = .int .i64 (1 + (k : Int)) ∧ Hid ((1 ≤ k → d1 = true) ∧ (2 ≤ k → d2 = true)) ∧ Below W0.heap.size W0 wr) (fun s7 _ _ _ _ _ _ _ _ => 3 - (intOf s7).toNat)
  case atStart => exact ⟨0, by omega, rfl, Lib.hid ⟨fun h => by omega, fun h => by omega⟩, Below.refl _ _⟩
  case round =>
    obtain ⟨wb, hwb⟩ : ∃ wm : World, wm = wr := ⟨_, rfl⟩
    subst hwb
    obtain ⟨k, hk, rfl, HK, hbb⟩ := hrel
    have sB := hbb.size
    have hBb : Below w.heap.size w wb := hB0.trans (hbb.mono s0)
    by_cases hk2 : k < 2
    · have hc : 1 + (k : Int) ≤ 2 := by omega
      go_wp2_with fail
      refine (typesFromI_any _ (1 + (k : Int)) n).mono ?_
      rintro e wT ⟨ut, rfl, ho, hbT⟩
      obtain ⟨T, hT⟩ : ∃ T, T = typesX (1 + (k : Int)) n := ⟨_, rfl⟩
      rw [← hT] at ho
      have hrd := Lib.hid ho.rd
      obtain ⟨tao, tn, tcap, rfl, htn, -, htm, -⟩ := ho.rd.shape
      subst htn
      have HTK := Lib.hid (show ∀ t ∈ T, isKin t = true from fun t ht => by rw [hT] at ht; exact (typesX_kin ht).1)
      have hTL : T.length ≤ 600 := by rw [hT]; exact typesX_len _ n
      obtain ⟨D, hlet_D⟩ : ∃ r, r = divD (rs, es) (rs2, es2) T T.length := ⟨_, rfl⟩
      have HD := Lib.hid hlet_D
      clear hlet_D
      have HDD := Lib.hid (show (k = 0 → D = d1) ∧ (k = 1 → D = d2) from ⟨fun e => by subst e; rw [HD.out, HD1.out, hT]; rfl, fun e => by subst e; rw [HD.out, HD2.out, hT]; rfl⟩)
      have hbT0 : Below W0.heap.size W0 wT := hbb.trans (hbT.mono sB)
      have sT := hbT0.size
      have hBT : Below w.heap.size w wT := hB0.trans (hbT0.mono s0)
      have q_y0 := oldc hbT0 lya ya0
      have q_y1 := oldc hbT0 lya ya1
      have q_x0 := oldc hbT0 lxa xa0
      have q_x1 := oldc hbT0 lxa xa1
      have ly : w.heap.size < wT.heap.size := by omega
      have lx : w.heap.size + 1 < wT.heap.size := by omega
      clear ho hT hbT
      go_upto_region 7 with fail
      go_cut [9, 10] (fun s9 s10 wx => ∃ (G1 G2 : Nat) (u1 v1 u2 v2 : Value), s9 = .pointer (some ⟨G1, 0, none⟩) ∧ s10 = .pointer (some ⟨G2, 0, none⟩) ∧ wx.cell? ⟨G1, 0, none⟩ = some (.slice tao T.length tcap) ∧ wx.cell? ⟨G1, 1, none⟩ = some u1 ∧ wx.cell? ⟨G1, 2, none⟩ = some v1 ∧ wx.cell? ⟨G2, 0, none⟩ = some (.slice tao T.length tcap) ∧ wx.cell? ⟨G2, 1, none⟩ = some u2 ∧ wx.cell? ⟨G2, 2, none⟩ = some v2 ∧ G1 < wx.heap.size ∧ G2 < wx.heap.size ∧ Hid (Rd true 0 wx.heap.size wx [u1] (tmL (rs, es) T)) ∧ Hid (Rd true 0 wx.heap.size wx [v1] (tmB (rs, es) T)) ∧ Hid (Rd true 0 wx.heap.size wx [u2] (tmL (rs2, es2) T)) ∧ Hid (Rd true 0 wx.heap.size wx [v2] (tmB (rs2, es2) T)) ∧ Below wT.heap.size wT wx)
      case first =>
        refine wp_region_held_drew (S := (fun w' => w'.cell? ⟨w.heap.size, 0, none⟩ = some (.slice ra rn rcap) ∧ w'.cell? ⟨w.heap.size, 1, none⟩ = some (.slice ea en ecap) ∧ w'.cell? ⟨w.heap.size + 1, 0, none⟩ = some (.slice ra2 rn2 rcap2) ∧ w'.cell? ⟨w.heap.size + 1, 1, none⟩ = some (.slice ea2 en2 ecap2))) (by kernel_rfl) ?_ (fun hHeld => ?_)
        · first | exact trivial | ((try dsimp only); go_keep)
        refine wpAnyH_take (i := 0) (oi := _) (v := ?_) (by simp only [List.getElem?_toArray, List.getElem?_cons_succ, List.getElem?_cons_zero]; rfl) (by kernel_rfl) (by kernel_rfl) (by kernel_rfl) (by exact fun _ _ _ h => h) (Or.inl ⟨by rfl, ?_⟩) (by assumption) ?_
        rotate_left
        · intro w hSw; (try dsimp only at hSw); go_simp <;> with_reducible rfl
        try simp only [Act.put, List.setIfInBounds_toArray, List.set_cons_zero, List.set_cons_succ]
        refine wpAnyH_take (i := 1) (oi := _) (v := ?_) (by simp only [List.getElem?_toArray, List.getElem?_cons_succ, List.getElem?_cons_zero]; rfl) (by kernel_rfl) (by kernel_rfl) (by kernel_rfl) (by exact fun _ _ _ h => h) (Or.inl ⟨by rfl, ?_⟩) (by assumption) ?_
        rotate_left
        · intro w hSw; (try dsimp only at hSw); go_simp <;> with_reducible rfl
        try simp only [Act.put, List.setIfInBounds_toArray, List.set_cons_zero, List.set_cons_succ]
        refine wpAnyH_take (i := 3) (oi := _) (v := ?_) (by simp only [List.getElem?_toArray, List.getElem?_cons_succ, List.getElem?_cons_zero]; rfl) (by kernel_rfl) (by kernel_rfl) (by kernel_rfl) (by exact fun _ _ _ h => h) (Or.inl ⟨by rfl, ?_⟩) (by assumption) ?_
        rotate_left
        · intro w hSw; (try dsimp only at hSw); go_simp <;> with_reducible rfl
        try simp only [Act.put, List.setIfInBounds_toArray, List.set_cons_zero, List.set_cons_succ]
        refine wpAnyH_take (i := 4) (oi := _) (v := ?_) (by simp only [List.getElem?_toArray, List.getElem?_cons_succ, List.getElem?_cons_zero]; rfl) (by kernel_rfl) (by kernel_rfl) (by kernel_rfl) (by exact fun _ _ _ h => h) (Or.inl ⟨by rfl, ?_⟩) (by assumption) ?_
        rotate_left
        · intro w hSw; (try dsimp only at hSw); go_simp <;> with_reducible rfl
        try simp only [Act.put, List.setIfInBounds_toArray, List.set_cons_zero, List.set_cons_succ]
        refine wpAnyH_ready (rs := [2, 6, 7]) (by kernel_rfl) (by simp) ?_
        refine AllReadyH.cons (o := _) (by simp only [List.getElem?_toArray, List.getElem?_cons_succ, List.getElem?_cons_zero]; rfl) (fun K hK => ?_) ?_
        · go_simp
          refine (listTermsI_any _ _ _ _ rs es T (HY.out.below ?b1) (hrd.out.below ?b2) H1.out HTK.out hTL).mono ?_
          case b1 => exact (by repeat' (first | (with_reducible exact Below.refl _ _) | (with_reducible assumption) | (with_reducible refine Below.alloc ?_ (by first | omega | (simp; omega) | simp) _) | (with_reducible refine Below.setCell ?_ (by first | omega | (simp; omega) | simp) _) | (with_reducible refine Below.drew ?_) | (with_reducible refine below_drewN ?_ _)))
          case b2 => exact (by repeat' (first | (with_reducible exact Below.refl _ _) | (with_reducible assumption) | (with_reducible refine Below.alloc ?_ (by first | omega | (simp; omega) | simp) _) | (with_reducible refine Below.setCell ?_ (by first | omega | (simp; omega) | simp) _) | (with_reducible refine Below.drew ?_) | (with_reducible refine below_drewN ?_ _)))
          rintro e2 w2 ⟨u1, v1, rfl, hu1, hv1, hb2⟩
          have hp2 : Below wT.heap.size wT w2 := Below.trans (show Below wT.heap.size wT _ from (by repeat' (first | (with_reducible exact Below.refl _ _) | (with_reducible assumption) | (with_reducible refine Below.alloc ?_ (by first | omega | (simp; omega) | simp) _) | (with_reducible refine Below.setCell ?_ (by first | omega | (simp; omega) | simp) _) | (with_reducible refine Below.drew ?_) | (with_reducible refine below_drewN ?_ _)))) (hb2.mono (by first | omega | (simp only [World.size_alloc, World.size_setCell, World.size_drew] at *; omega) | (simp; omega) | simp))
          have sz2 := hp2.size
          have hS2 := And.intro (oldc hp2 ly q_y0) (And.intro (oldc hp2 ly q_y1) (And.intro (oldc hp2 lx q_x0) (oldc hp2 lx q_x1)))
          have hBw2 : Below w.heap.size w w2 := hBT.trans (hp2.mono hBT.size)
          have : w.heap.size < w2.heap.size := by omega
          have : ¬ w.heap.size = w2.heap.size := by omega
          have : ¬ w2.heap.size = w.heap.size := by omega
          have : ¬ w.heap.size = w2.heap.size + 1 := by omega
          have : ¬ w2.heap.size + 1 = w.heap.size := by omega
          have : w.heap.size + 1 < w2.heap.size := by omega
          have : ¬ w.heap.size + 1 = w2.heap.size := by omega
          have : ¬ w2.heap.size = w.heap.size + 1 := by omega
          have : ¬ w.heap.size + 1 = w2.heap.size + 1 := by omega
          have : ¬ w2.heap.size + 1 = w.heap.size + 1 := by omega
          obtain ⟨ao1, n1, cp1, rfl, -⟩ := hu1.shape
          obtain ⟨bo1, m1, dp1, rfl, -⟩ := hv1.shape
          have HU1 := Lib.hid hu1
          have HV1 := Lib.hid hv1
          clear hb2 hu1 hv1
          refine hK.out _ _ ?_ (fun hHeld => ?_)
          · first | exact trivial | ((try dsimp only); (first | (with_reducible assumption) | (go_keep; done) | (simp [go_sem, *]; done) | go_keep))
          clear hK K
          try simp only [Act.put, List.setIfInBounds_toArray, List.set_cons_zero, List.set_cons_succ]
          refine wpAnyH_ready (rs := [5, 6, 7]) (by kernel_rfl) (by simp) ?_
          refine AllReadyH.cons (o := _) (by simp only [List.getElem?_toArray, List.getElem?_cons_succ, List.getElem?_cons_zero]; rfl) (fun K hK => ?_) ?_
          · go_simp
            refine (listTermsI_any _ _ _ _ rs2 es2 T (HX.out.below ?b1) (hrd.out.below ?b2) H2.out HTK.out hTL).mono ?_
            case b1 => exact (by repeat' (first | (with_reducible exact Below.refl _ _) | (with_reducible assumption) | (with_reducible refine Below.alloc ?_ (by first | omega | (simp; omega) | simp) _) | (with_reducible refine Below.setCell ?_ (by first | omega | (simp; omega) | simp) _) | (with_reducible refine Below.drew ?_) | (with_reducible refine below_drewN ?_ _)))
            case b2 => exact (by repeat' (first | (with_reducible exact Below.refl _ _) | (with_reducible assumption) | (with_reducible refine Below.alloc ?_ (by first | omega | (simp; omega) | simp) _) | (with_reducible refine Below.setCell ?_ (by first | omega | (simp; omega) | simp) _) | (with_reducible refine Below.drew ?_) | (with_reducible refine below_drewN ?_ _)))
            rintro e3 w3 ⟨u2, v2, rfl, hu2, hv2, hb3⟩
            have hp3 : Below wT.heap.size wT w3 := Below.trans (show Below wT.heap.size wT _ from (by repeat' (first | (with_reducible exact Below.refl _ _) | (with_reducible assumption) | (with_reducible refine Below.alloc ?_ (by first | omega | (simp; omega) | simp) _) | (with_reducible refine Below.setCell ?_ (by first | omega | (simp; omega) | simp) _) | (with_reducible refine Below.drew ?_) | (with_reducible refine below_drewN ?_ _)))) (hb3.mono (by first | omega | (simp only [World.size_alloc, World.size_setCell, World.size_drew] at *; omega) | (simp; omega) | simp))
            have hp23 : Below w2.heap.size w2 w3 := Below.trans (show Below w2.heap.size w2 _ from (by repeat' (first | (with_reducible exact Below.refl _ _) | (with_reducible assumption) | (with_reducible refine Below.alloc ?_ (by first | omega | (simp; omega) | simp) _) | (with_reducible refine Below.setCell ?_ (by first | omega | (simp; omega) | simp) _) | (with_reducible refine Below.drew ?_) | (with_reducible refine below_drewN ?_ _)))) (hb3.mono (by first | omega | (simp only [World.size_alloc, World.size_setCell, World.size_drew] at *; omega) | (simp; omega) | simp))
            have sz3 := hp3.size
            have sz23 := hp23.size
            have hS3 := And.intro (oldc hp3 ly q_y0) (And.intro (oldc hp3 ly q_y1) (And.intro (oldc hp3 lx q_x0) (oldc hp3 lx q_x1)))
            have hBw3 : Below w.heap.size w w3 := hBT.trans (hp3.mono hBT.size)
            have : w.heap.size < w3.heap.size := by omega
            have : ¬ w.heap.size = w3.heap.size := by omega
            have : ¬ w3.heap.size = w.heap.size := by omega
            have : ¬ w.heap.size = w3.heap.size + 1 := by omega
            have : ¬ w3.heap.size + 1 = w.heap.size := by omega
            have : w.heap.size + 1 < w3.heap.size := by omega
            have : ¬ w.heap.size + 1 = w3.heap.size := by omega
            have : ¬ w3.heap.size = w.heap.size + 1 := by omega
            have : ¬ w.heap.size + 1 = w3.heap.size + 1 := by omega
            have : ¬ w3.heap.size + 1 = w.heap.size + 1 := by omega
            obtain ⟨ao2, n2, cp2, rfl, -⟩ := hu2.shape
            obtain ⟨bo2, m2, dp2, rfl, -⟩ := hv2.shape
            have HU2 := Lib.hid hu2
            have HV2 := Lib.hid hv2
            replace HU1 := Lib.hid (HU1.out.below hp23)
            replace HV1 := Lib.hid (HV1.out.below hp23)
            clear hb3 hu2 hv2
            refine hK.out _ _ ?_ (fun hHeld => ?_)
            · first | exact trivial | ((try dsimp only); (first | (with_reducible assumption) | (go_keep; done) | (simp [go_sem, *]; done) | go_keep))
            clear hK K
            try simp only [Act.put, List.setIfInBounds_toArray, List.set_cons_zero, List.set_cons_succ]
            refine wpAnyH_ready (rs := [6, 7]) (by kernel_rfl) (by simp) ?_
            refine AllReadyH.cons (o := _) (by simp only [List.getElem?_toArray, List.getElem?_cons_succ, List.getElem?_cons_zero]; rfl) (fun K hK => ?_) ?_
            · go_simp
              refine hK.out _ _ ?_ (fun hHeld => ?_)
              · first | exact trivial | ((try dsimp only); (first | (with_reducible assumption) | (go_keep; done) | (simp [go_sem, *]; done) | go_keep))
              clear hK K
              try simp only [Act.put, List.setIfInBounds_toArray, List.set_cons_zero, List.set_cons_succ]
              refine wpAnyH_ready (rs := [7]) (by kernel_rfl) (by simp) ?_
              refine AllReadyH.cons (o := _) (by simp only [List.getElem?_toArray, List.getElem?_cons_succ, List.getElem?_cons_zero]; rfl) (fun K hK => ?_) ?_
              · go_simp
                refine hK.out _ _ ?_ (fun hHeld => ?_)
                · first | exact trivial | ((try dsimp only); (first | (with_reducible assumption) | (go_keep; done) | (simp [go_sem, *]; done) | go_keep))
                clear hK K
                try simp only [Act.put, List.setIfInBounds_toArray, List.set_cons_zero, List.set_cons_succ]
                refine wpAnyH_ready (rs := [8]) (by kernel_rfl) (by simp) ?_
                refine AllReadyH.cons (o := _) (by simp only [List.getElem?_toArray, List.getElem?_cons_succ, List.getElem?_cons_zero]; rfl) (fun K hK => ?_) ?_
                · go_simp
                  refine hK.out _ _ ?_ (fun hHeld => ?_)
                  · first | exact trivial | ((try dsimp only); (first | (with_reducible assumption) | (go_keep; done) | (simp [go_sem, *]; done) | go_keep))
                  clear hK K
                  try simp only [Act.put, List.setIfInBounds_toArray, List.set_cons_zero, List.set_cons_succ]
                  refine wpAnyH_ready (rs := [9]) (by kernel_rfl) (by simp) ?_
                  refine AllReadyH.cons (o := _) (by simp only [List.getElem?_toArray, List.getElem?_cons_succ, List.getElem?_cons_zero]; rfl) (fun K hK => ?_) ?_
                  · go_simp
                    refine hK.out _ _ ?_ (fun hHeld => ?_)
                    · first | exact trivial | ((try dsimp only); (first | (with_reducible assumption) | (go_keep; done) | (simp [go_sem, *]; done) | go_keep))
                    clear hK K
                    try simp only [Act.put, List.setIfInBounds_toArray, List.set_cons_zero, List.set_cons_succ]
                    refine wpAnyH_done (by kernel_rfl) ?_ _
                    go_wp2_with fail
                    go_meet
                    exact ⟨_, _, _, _, _, _, rfl, rfl, by simp [go_sem, *], by simp [go_sem, *], by simp [go_sem, *], by simp [go_sem, *], by simp [go_sem, *], by simp [go_sem, *], (by first | omega | (simp; omega) | (simp; done)), (by first | omega | (simp; omega) | (simp; done)), Lib.hid (HU1.out.keep (by repeat' (first | (with_reducible exact Zone.refl _ _ _) | (with_reducible refine zone_drewN ?_ _) | (with_reducible refine Zone.setCell ?_ (by first | (left; omega) | (right; omega) | (left; simp; omega) | (right; simp; omega) | (left; simp; done) | (right; simp; done)) _) | (with_reducible refine Zone.alloc ?_ (by first | omega | (simp; omega) | simp) _) | (with_reducible refine Zone.drew ?_)))).all, Lib.hid (HV1.out.keep (by repeat' (first | (with_reducible exact Zone.refl _ _ _) | (with_reducible refine zone_drewN ?_ _) | (with_reducible refine Zone.setCell ?_ (by first | (left; omega) | (right; omega) | (left; simp; omega) | (right; simp; omega) | (left; simp; done) | (right; simp; done)) _) | (with_reducible refine Zone.alloc ?_ (by first | omega | (simp; omega) | simp) _) | (with_reducible refine Zone.drew ?_)))).all, Lib.hid (HU2.out.keep (by repeat' (first | (with_reducible exact Zone.refl _ _ _) | (with_reducible refine zone_drewN ?_ _) | (with_reducible refine Zone.setCell ?_ (by first | (left; omega) | (right; omega) | (left; simp; omega) | (right; simp; omega) | (left; simp; done) | (right; simp; done)) _) | (with_reducible refine Zone.alloc ?_ (by first | omega | (simp; omega) | simp) _) | (with_reducible refine Zone.drew ?_)))).all, Lib.hid (HV2.out.keep (by repeat' (first | (with_reducible exact Zone.refl _ _ _) | (with_reducible refine zone_drewN ?_ _) | (with_reducible refine Zone.setCell ?_ (by first | (left; omega) | (right; omega) | (left; simp; omega) | (right; simp; omega) | (left; simp; done) | (right; simp; done)) _) | (with_reducible refine Zone.alloc ?_ (by first | omega | (simp; omega) | simp) _) | (with_reducible refine Zone.drew ?_)))).all, (by repeat' (first | (with_reducible exact Below.refl _ _) | (with_reducible assumption) | (with_reducible refine Below.alloc ?_ (by first | omega | (simp; omega) | simp) _) | (with_reducible refine Below.setCell ?_ (by first | omega | (simp; omega) | simp) _) | (with_reducible refine Below.drew ?_) | (with_reducible refine below_drewN ?_ _)))⟩
                  exact AllReadyH.nil
                exact AllReadyH.nil
              exact AllReadyH.nil
            refine AllReadyH.cons (o := _) (by simp only [List.getElem?_toArray, List.getElem?_cons_succ, List.getElem?_cons_zero]; rfl) (fun K hK => ?_) ?_
            · go_simp
              refine hK.out _ _ ?_ (fun hHeld => ?_)
              · first | exact trivial | ((try dsimp only); (first | (with_reducible assumption) | (go_keep; done) | (simp [go_sem, *]; done) | go_keep))
              clear hK K
              try simp only [Act.put, List.setIfInBounds_toArray, List.set_cons_zero, List.set_cons_succ]
              refine wpAnyH_ready (rs := [6]) (by kernel_rfl) (by simp) ?_
              refine AllReadyH.cons (o := _) (by simp only [List.getElem?_toArray, List.getElem?_cons_succ, List.getElem?_cons_zero]; rfl) (fun K hK => ?_) ?_
              · go_simp
                refine hK.out _ _ ?_ (fun hHeld => ?_)
                · first | exact trivial | ((try dsimp only); (first | (with_reducible assumption) | (go_keep; done) | (simp [go_sem, *]; done) | go_keep))
                clear hK K
                try simp only [Act.put, List.setIfInBounds_toArray, List.set_cons_zero, List.set_cons_succ]
                refine wpAnyH_ready (rs := [8]) (by kernel_rfl) (by simp) ?_
                refine AllReadyH.cons (o := _) (by simp only [List.getElem?_toArray, List.getElem?_cons_succ, List.getElem?_cons_zero]; rfl) (fun K hK => ?_) ?_
                · go_simp
                  refine hK.out _ _ ?_ (fun hHeld => ?_)
                  · first | exact trivial | ((try dsimp only); (first | (with_reducible assumption) | (go_keep; done) | (simp [go_sem, *]; done) | go_keep))
                  clear hK K
                  try simp only [Act.put, List.setIfInBounds_toArray, List.set_cons_zero, List.set_cons_succ]
                  refine wpAnyH_ready (rs := [9]) (by kernel_rfl) (by simp) ?_
                  refine AllReadyH.cons (o := _) (by simp only [List.getElem?_toArray, List.getElem?_cons_succ, List.getElem?_cons_zero]; rfl) (fun K hK => ?_) ?_
                  · go_simp
                    refine hK.out _ _ ?_ (fun hHeld => ?_)
                    · first | exact trivial | ((try dsimp only); (first | (with_reducible assumption) | (go_keep; done) | (simp [go_sem, *]; done) | go_keep))
                    clear hK K
                    try simp only [Act.put, List.setIfInBounds_toArray, List.set_cons_zero, List.set_cons_succ]
                    refine wpAnyH_done (by kernel_rfl) ?_ _
                    go_wp2_with fail
                    go_meet
                    exact ⟨_, _, _, _, _, _, rfl, rfl, by simp [go_sem, *], by simp [go_sem, *], by simp [go_sem, *], by simp [go_sem, *], by simp [go_sem, *], by simp [go_sem, *], (by first | omega | (simp; omega) | (simp; done)), (by first | omega | (simp; omega) | (simp; done)), Lib.hid (HU1.out.keep (by repeat' (first | (with_reducible exact Zone.refl _ _ _) | (with_reducible refine zone_drewN ?_ _) | (with_reducible refine Zone.setCell ?_ (by first | (left; omega) | (right; omega) | (left; simp; omega) | (right; simp; omega) | (left; simp; done) | (right; simp; done)) _) | (with_reducible refine Zone.alloc ?_ (by first | omega | (simp; omega) | simp) _) | (with_reducible refine Zone.drew ?_)))).all, Lib.hid (HV1.out.keep (by repeat' (first | (with_reducible exact Zone.refl _ _ _) | (with_reducible refine zone_drewN ?_ _) | (with_reducible refine Zone.setCell ?_ (by first | (left; omega) | (right; omega) | (left; simp; omega) | (right; simp; omega) | (left; simp; done) | (right; simp; done)) _) | (with_reducible refine Zone.alloc ?_ (by first | omega | (simp; omega) | simp) _) | (with_reducible refine Zone.drew ?_)))).all, Lib.hid (HU2.out.keep (by repeat' (first | (with_reducible exact Zone.refl _ _ _) | (with_reducible refine zone_drewN ?_ _) | (with_reducible refine Zone.setCell ?_ (by first | (left; omega) | (right; omega) | (left; simp; omega) | (right; simp; omega) | (left; simp; done) | (right; simp; done)) _) | (with_reducible refine Zone.alloc ?_ (by first | omega | (simp; omega) | simp) _) | (with_reducible refine Zone.drew ?_)))).all, Lib.hid (HV2.out.keep (by repeat' (first | (with_reducible exact Zone.refl _ _ _) | (with_reducible refine zone_drewN ?_ _) | (with_reducible refine Zone.setCell ?_ (by first | (left; omega) | (right; omega) | (left; simp; omega) | (right; simp; omega) | (left; simp; done) | (right; simp; done)) _) | (with_reducible refine Zone.alloc ?_ (by first | omega | (simp; omega) | simp) _) | (with_reducible refine Zone.drew ?_)))).all, (by repeat' (first | (with_reducible exact Below.refl _ _) | (with_reducible assumption) | (with_reducible refine Below.alloc ?_ (by first | omega | (simp; omega) | simp) _) | (with_reducible refine Below.setCell ?_ (by first | omega | (simp; omega) | simp) _) | (with_reducible refine Below.drew ?_) | (with_reducible refine below_drewN ?_ _)))⟩
                  exact AllReadyH.nil
                exact AllReadyH.nil
              exact AllReadyH.nil
            exact AllReadyH.nil
          refine AllReadyH.cons (o := _) (by simp only [List.getElem?_toArray, List.getElem?_cons_succ, List.getElem?_cons_zero]; rfl) (fun K hK => ?_) ?_
          · go_simp
            refine hK.out _ _ ?_ (fun hHeld => ?_)
            · first | exact trivial | ((try dsimp only); (first | (with_reducible assumption) | (go_keep; done) | (simp [go_sem, *]; done) | go_keep))
            clear hK K
            try simp only [Act.put, List.setIfInBounds_toArray, List.set_cons_zero, List.set_cons_succ]
            refine wpAnyH_ready (rs := [5, 7]) (by kernel_rfl) (by simp) ?_
            refine AllReadyH.cons (o := _) (by simp only [List.getElem?_toArray, List.getElem?_cons_succ, List.getElem?_cons_zero]; rfl) (fun K hK => ?_) ?_
            · go_simp
              refine (listTermsI_any _ _ _ _ rs2 es2 T (HX.out.below ?b1) (hrd.out.below ?b2) H2.out HTK.out hTL).mono ?_
              case b1 => exact (by repeat' (first | (with_reducible exact Below.refl _ _) | (with_reducible assumption) | (with_reducible refine Below.alloc ?_ (by first | omega | (simp; omega) | simp) _) | (with_reducible refine Below.setCell ?_ (by first | omega | (simp; omega) | simp) _) | (with_reducible refine Below.drew ?_) | (with_reducible refine below_drewN ?_ _)))
              case b2 => exact (by repeat' (first | (with_reducible exact Below.refl _ _) | (with_reducible assumption) | (with_reducible refine Below.alloc ?_ (by first | omega | (simp; omega) | simp) _) | (with_reducible refine Below.setCell ?_ (by first | omega | (simp; omega) | simp) _) | (with_reducible refine Below.drew ?_) | (with_reducible refine below_drewN ?_ _)))
              rintro e3 w3 ⟨u2, v2, rfl, hu2, hv2, hb3⟩
              have hp3 : Below wT.heap.size wT w3 := Below.trans (show Below wT.heap.size wT _ from (by repeat' (first | (with_reducible exact Below.refl _ _) | (with_reducible assumption) | (with_reducible refine Below.alloc ?_ (by first | omega | (simp; omega) | simp) _) | (with_reducible refine Below.setCell ?_ (by first | omega | (simp; omega) | simp) _) | (with_reducible refine Below.drew ?_) | (with_reducible refine below_drewN ?_ _)))) (hb3.mono (by first | omega | (simp only [World.size_alloc, World.size_setCell, World.size_drew] at *; omega) | (simp; omega) | simp))
              have hp23 : Below w2.heap.size w2 w3 := Below.trans (show Below w2.heap.size w2 _ from (by repeat' (first | (with_reducible exact Below.refl _ _) | (with_reducible assumption) | (with_reducible refine Below.alloc ?_ (by first | omega | (simp; omega) | simp) _) | (with_reducible refine Below.setCell ?_ (by first | omega | (simp; omega) | simp) _) | (with_reducible refine Below.drew ?_) | (with_reducible refine below_drewN ?_ _)))) (hb3.mono (by first | omega | (simp only [World.size_alloc, World.size_setCell, World.size_drew] at *; omega) | (simp; omega) | simp))
              have sz3 := hp3.size
              have sz23 := hp23.size
              have hS3 := And.intro (oldc hp3 ly q_y0) (And.intro (oldc hp3 ly q_y1) (And.intro (oldc hp3 lx q_x0) (oldc hp3 lx q_x1)))
              have hBw3 : Below w.heap.size w w3 := hBT.trans (hp3.mono hBT.size)
              have : w.heap.size < w3.heap.size := by omega
              have : ¬ w.heap.size = w3.heap.size := by omega
              have : ¬ w3.heap.size = w.heap.size := by omega
              have : ¬ w.heap.size = w3.heap.size + 1 := by omega
              have : ¬ w3.heap.size + 1 = w.heap.size := by omega
              have : w.heap.size + 1 < w3.heap.size := by omega
              have : ¬ w.heap.size + 1 = w3.heap.size := by omega
              have : ¬ w3.heap.size = w.heap.size + 1 := by omega
              have : ¬ w.heap.size + 1 = w3.heap.size + 1 := by omega
              have : ¬ w3.heap.size + 1 = w.heap.size + 1 := by omega
              have zcl : w2.heap.size < w3.heap.size := by have := hb3.size; (try simp at this); omega
              have zc0 : w3.cell? ⟨w2.heap.size, 0, none⟩ = some (.slice none 0 0) := oldc hb3 (by first | omega | (simp; omega) | (simp; done)) (by simp [go_sem])
              have zc1 : w3.cell? ⟨w2.heap.size, 1, none⟩ = some (.slice none 0 0) := oldc hb3 (by first | omega | (simp; omega) | (simp; done)) (by simp [go_sem])
              have zc2 : w3.cell? ⟨w2.heap.size, 2, none⟩ = some (.slice none 0 0) := oldc hb3 (by first | omega | (simp; omega) | (simp; done)) (by simp [go_sem])
              have zcf : ∀ o, w3.frozen? ⟨w2.heap.size, o, none⟩ = false := fun o => (hb3.frozen (p := ⟨w2.heap.size, o, none⟩) (by first | omega | (simp; omega) | (simp; done))).trans (by simp [go_sem])
              obtain ⟨ao2, n2, cp2, rfl, -⟩ := hu2.shape
              obtain ⟨bo2, m2, dp2, rfl, -⟩ := hv2.shape
              have HU2 := Lib.hid hu2
              have HV2 := Lib.hid hv2
              replace HU1 := Lib.hid (HU1.out.below hp23)
              replace HV1 := Lib.hid (HV1.out.below hp23)
              have nb51 : ¬ w2.heap.size = w3.heap.size := by omega
              have nb52 : ¬ w3.heap.size = w2.heap.size := by omega
              have nb59 : ¬ w2.heap.size = w3.heap.size + 1 := by omega
              have nb60 : ¬ w3.heap.size + 1 = w2.heap.size := by omega
              clear hb3 hu2 hv2
              refine hK.out _ _ ?_ (fun hHeld => ?_)
              · first | exact trivial | ((try dsimp only); (first | (with_reducible assumption) | (go_keep; done) | (simp [go_sem, *]; done) | go_keep))
              clear hK K
              try simp only [Act.put, List.setIfInBounds_toArray, List.set_cons_zero, List.set_cons_succ]
              refine wpAnyH_ready (rs := [7]) (by kernel_rfl) (by simp) ?_
              refine AllReadyH.cons (o := _) (by simp only [List.getElem?_toArray, List.getElem?_cons_succ, List.getElem?_cons_zero]; rfl) (fun K hK => ?_) ?_
              · go_simp
                refine hK.out _ _ ?_ (fun hHeld => ?_)
                · first | exact trivial | ((try dsimp only); (first | (with_reducible assumption) | (go_keep; done) | (simp [go_sem, *]; done) | go_keep))
                clear hK K
                try simp only [Act.put, List.setIfInBounds_toArray, List.set_cons_zero, List.set_cons_succ]
                refine wpAnyH_ready (rs := [8]) (by kernel_rfl) (by simp) ?_
                refine AllReadyH.cons (o := _) (by simp only [List.getElem?_toArray, List.getElem?_cons_succ, List.getElem?_cons_zero]; rfl) (fun K hK => ?_) ?_
                · go_simp
                  refine hK.out _ _ ?_ (fun hHeld => ?_)
                  · first | exact trivial | ((try dsimp only); (first | (with_reducible assumption) | (go_keep; done) | (simp [go_sem, *]; done) | go_keep))
                  clear hK K
                  try simp only [Act.put, List.setIfInBounds_toArray, List.set_cons_zero, List.set_cons_succ]
                  refine wpAnyH_ready (rs := [9]) (by kernel_rfl) (by simp) ?_
                  refine AllReadyH.cons (o := _) (by simp only [List.getElem?_toArray, List.getElem?_cons_succ, List.getElem?_cons_zero]; rfl) (fun K hK => ?_) ?_
                  · go_simp
                    refine hK.out _ _ ?_ (fun hHeld => ?_)
                    · first | exact trivial | ((try dsimp only); (first | (with_reducible assumption) | (go_keep; done) | (simp [go_sem, *]; done) | go_keep))
                    clear hK K
                    try simp only [Act.put, List.setIfInBounds_toArray, List.set_cons_zero, List.set_cons_succ]
                    refine wpAnyH_done (by kernel_rfl) ?_ _
                    go_wp2_with fail
                    go_meet
                    exact ⟨_, _, _, _, _, _, rfl, rfl, by simp [go_sem, *], by simp [go_sem, *], by simp [go_sem, *], by simp [go_sem, *], by simp [go_sem, *], by simp [go_sem, *], (by first | omega | (simp; omega) | (simp; done)), (by first | omega | (simp; omega) | (simp; done)), Lib.hid (HU1.out.keep (by repeat' (first | (with_reducible exact Zone.refl _ _ _) | (with_reducible refine zone_drewN ?_ _) | (with_reducible refine Zone.setCell ?_ (by first | (left; omega) | (right; omega) | (left; simp; omega) | (right; simp; omega) | (left; simp; done) | (right; simp; done)) _) | (with_reducible refine Zone.alloc ?_ (by first | omega | (simp; omega) | simp) _) | (with_reducible refine Zone.drew ?_)))).all, Lib.hid (HV1.out.keep (by repeat' (first | (with_reducible exact Zone.refl _ _ _) | (with_reducible refine zone_drewN ?_ _) | (with_reducible refine Zone.setCell ?_ (by first | (left; omega) | (right; omega) | (left; simp; omega) | (right; simp; omega) | (left; simp; done) | (right; simp; done)) _) | (with_reducible refine Zone.alloc ?_ (by first | omega | (simp; omega) | simp) _) | (with_reducible refine Zone.drew ?_)))).all, Lib.hid (HU2.out.keep (by repeat' (first | (with_reducible exact Zone.refl _ _ _) | (with_reducible refine zone_drewN ?_ _) | (with_reducible refine Zone.setCell ?_ (by first | (left; omega) | (right; omega) | (left; simp; omega) | (right; simp; omega) | (left; simp; done) | (right; simp; done)) _) | (with_reducible refine Zone.alloc ?_ (by first | omega | (simp; omega) | simp) _) | (with_reducible refine Zone.drew ?_)))).all, Lib.hid (HV2.out.keep (by repeat' (first | (with_reducible exact Zone.refl _ _ _) | (with_reducible refine zone_drewN ?_ _) | (with_reducible refine Zone.setCell ?_ (by first | (left; omega) | (right; omega) | (left; simp; omega) | (right; simp; omega) | (left; simp; done) | (right; simp; done)) _) | (with_reducible refine Zone.alloc ?_ (by first | omega | (simp; omega) | simp) _) | (with_reducible refine Zone.drew ?_)))).all, (by repeat' (first | (with_reducible exact Below.refl _ _) | (with_reducible assumption) | (with_reducible refine Below.alloc ?_ (by first | omega | (simp; omega) | simp) _) | (with_reducible refine Below.setCell ?_ (by first | omega | (simp; omega) | simp) _) | (with_reducible refine Below.drew ?_) | (with_reducible refine below_drewN ?_ _)))⟩
                  exact AllReadyH.nil
                exact AllReadyH.nil
              exact AllReadyH.nil
            refine AllReadyH.cons (o := _) (by simp only [List.getElem?_toArray, List.getElem?_cons_succ, List.getElem?_cons_zero]; rfl) (fun K hK => ?_) ?_
            · go_simp
              refine hK.out _ _ ?_ (fun hHeld => ?_)
              · first | exact trivial | ((try dsimp only); (first | (with_reducible assumption) | (go_keep; done) | (simp [go_sem, *]; done) | go_keep))
              clear hK K
              try simp only [Act.put, List.setIfInBounds_toArray, List.set_cons_zero, List.set_cons_succ]
              refine wpAnyH_ready (rs := [5]) (by kernel_rfl) (by simp) ?_
              refine AllReadyH.cons (o := _) (by simp only [List.getElem?_toArray, List.getElem?_cons_succ, List.getElem?_cons_zero]; rfl) (fun K hK => ?_) ?_
              · go_simp
                refine (listTermsI_any _ _ _ _ rs2 es2 T (HX.out.below ?b1) (hrd.out.below ?b2) H2.out HTK.out hTL).mono ?_
                case b1 => exact (by repeat' (first | (with_reducible exact Below.refl _ _) | (with_reducible assumption) | (with_reducible refine Below.alloc ?_ (by first | omega | (simp; omega) | simp) _) | (with_reducible refine Below.setCell ?_ (by first | omega | (simp; omega) | simp) _) | (with_reducible refine Below.drew ?_) | (with_reducible refine below_drewN ?_ _)))
                case b2 => exact (by repeat' (first | (with_reducible exact Below.refl _ _) | (with_reducible assumption) | (with_reducible refine Below.alloc ?_ (by first | omega | (simp; omega) | simp) _) | (with_reducible refine Below.setCell ?_ (by first | omega | (simp; omega) | simp) _) | (with_reducible refine Below.drew ?_) | (with_reducible refine below_drewN ?_ _)))
                rintro e3 w3 ⟨u2, v2, rfl, hu2, hv2, hb3⟩
                have hp3 : Below wT.heap.size wT w3 := Below.trans (show Below wT.heap.size wT _ from (by repeat' (first | (with_reducible exact Below.refl _ _) | (with_reducible assumption) | (with_reducible refine Below.alloc ?_ (by first | omega | (simp; omega) | simp) _) | (with_reducible refine Below.setCell ?_ (by first | omega | (simp; omega) | simp) _) | (with_reducible refine Below.drew ?_) | (with_reducible refine below_drewN ?_ _)))) (hb3.mono (by first | omega | (simp only [World.size_alloc, World.size_setCell, World.size_drew] at *; omega) | (simp; omega) | simp))
                have hp23 : Below w2.heap.size w2 w3 := Below.trans (show Below w2.heap.size w2 _ from (by repeat' (first | (with_reducible exact Below.refl _ _) | (with_reducible assumption) | (with_reducible refine Below.alloc ?_ (by first | omega | (simp; omega) | simp) _) | (with_reducible refine Below.setCell ?_ (by first | omega | (simp; omega) | simp) _) | (with_reducible refine Below.drew ?_) | (with_reducible refine below_drewN ?_ _)))) (hb3.mono (by first | omega | (simp only [World.size_alloc, World.size_setCell, World.size_drew] at *; omega) | (simp; omega) | simp))
                have sz3 := hp3.size
                have sz23 := hp23.size
                have hS3 := And.intro (oldc hp3 ly q_y0) (And.intro (oldc hp3 ly q_y1) (And.intro (oldc hp3 lx q_x0) (oldc hp3 lx q_x1)))
                have hBw3 : Below w.heap.size w w3 := hBT.trans (hp3.mono hBT.size)
                have : w.heap.size < w3.heap.size := by omega
                have : ¬ w.heap.size = w3.heap.size := by omega
                have : ¬ w3.heap.size = w.heap.size := by omega
                have : ¬ w.heap.size = w3.heap.size + 1 := by omega
                have : ¬ w3.heap.size + 1 = w.heap.size := by omega
                have : w.heap.size + 1 < w3.heap.size := by omega
                have : ¬ w.heap.size + 1 = w3.heap.size := by omega
                have : ¬ w3.heap.size = w.heap.size + 1 := by omega
                have : ¬ w.heap.size + 1 = w3.heap.size + 1 := by omega
                have : ¬ w3.heap.size + 1 = w.heap.size + 1 := by omega
                have zcl : w2.heap.size < w3.heap.size := by have := hb3.size; (try simp at this); omega
                have zc0 : w3.cell? ⟨w2.heap.size, 0, none⟩ = some (.slice none 0 0) := oldc hb3 (by first | omega | (simp; omega) | (simp; done)) (by simp [go_sem])
                have zc1 : w3.cell? ⟨w2.heap.size, 1, none⟩ = some (.slice none 0 0) := oldc hb3 (by first | omega | (simp; omega) | (simp; done)) (by simp [go_sem])
                have zc2 : w3.cell? ⟨w2.heap.size, 2, none⟩ = some (.slice none 0 0) := oldc hb3 (by first | omega | (simp; omega) | (simp; done)) (by simp [go_sem])
                have zcf : ∀ o, w3.frozen? ⟨w2.heap.size, o, none⟩ = false := fun o => (hb3.frozen (p := ⟨w2.heap.size, o, none⟩) (by first | omega | (simp; omega) | (simp; done))).trans (by simp [go_sem])
                have zdl : w2.heap.size + 1 < w3.heap.size := by have := hb3.size; (try simp at this); omega
                have zd0 : w3.cell? ⟨w2.heap.size + 1, 0, none⟩ = some (.slice none 0 0) := oldc hb3 (by first | omega | (simp; omega) | (simp; done)) (by simp [go_sem])
                have zd1 : w3.cell? ⟨w2.heap.size + 1, 1, none⟩ = some (.slice none 0 0) := oldc hb3 (by first | omega | (simp; omega) | (simp; done)) (by simp [go_sem])
                have zd2 : w3.cell? ⟨w2.heap.size + 1, 2, none⟩ = some (.slice none 0 0) := oldc hb3 (by first | omega | (simp; omega) | (simp; done)) (by simp [go_sem])
                have zdf : ∀ o, w3.frozen? ⟨w2.heap.size + 1, o, none⟩ = false := fun o => (hb3.frozen (p := ⟨w2.heap.size + 1, o, none⟩) (by first | omega | (simp; omega) | (simp; done))).trans (by simp [go_sem])
                obtain ⟨ao2, n2, cp2, rfl, -⟩ := hu2.shape
                obtain ⟨bo2, m2, dp2, rfl, -⟩ := hv2.shape
                have HU2 := Lib.hid hu2
                have HV2 := Lib.hid hv2
                replace HU1 := Lib.hid (HU1.out.below hp23)
                replace HV1 := Lib.hid (HV1.out.below hp23)
                have nb51 : ¬ w2.heap.size = w3.heap.size := by omega
                have nb52 : ¬ w3.heap.size = w2.heap.size := by omega
                have nb53 : ¬ w2.heap.size + 1 = w3.heap.size := by omega
                have nb54 : ¬ w3.heap.size = w2.heap.size + 1 := by omega
                have nb59 : ¬ w2.heap.size = w3.heap.size + 1 := by omega
                have nb60 : ¬ w3.heap.size + 1 = w2.heap.size := by omega
                have nb61 : ¬ w2.heap.size + 1 = w3.heap.size + 1 := by omega
                have nb62 : ¬ w3.heap.size + 1 = w2.heap.size + 1 := by omega
                clear hb3 hu2 hv2
                refine hK.out _ _ ?_ (fun hHeld => ?_)
                · first | exact trivial | ((try dsimp only); (first | (with_reducible assumption) | (go_keep; done) | (simp [go_sem, *]; done) | go_keep))
                clear hK K
                try simp only [Act.put, List.setIfInBounds_toArray, List.set_cons_zero, List.set_cons_succ]
                refine wpAnyH_ready (rs := [8]) (by kernel_rfl) (by simp) ?_
                refine AllReadyH.cons (o := _) (by simp only [List.getElem?_toArray, List.getElem?_cons_succ, List.getElem?_cons_zero]; rfl) (fun K hK => ?_) ?_
                · go_simp
                  refine hK.out _ _ ?_ (fun hHeld => ?_)
                  · first | exact trivial | ((try dsimp only); (first | (with_reducible assumption) | (go_keep; done) | (simp [go_sem, *]; done) | go_keep))
                  clear hK K
                  try simp only [Act.put, List.setIfInBounds_toArray, List.set_cons_zero, List.set_cons_succ]
                  refine wpAnyH_ready (rs := [9]) (by kernel_rfl) (by simp) ?_
                  refine AllReadyH.cons (o := _) (by simp only [List.getElem?_toArray, List.getElem?_cons_succ, List.getElem?_cons_zero]; rfl) (fun K hK => ?_) ?_
                  · go_simp
                    refine hK.out _ _ ?_ (fun hHeld => ?_)
                    · first | exact trivial | ((try dsimp only); (first | (with_reducible assumption) | (go_keep; done) | (simp [go_sem, *]; done) | go_keep))
                    clear hK K
                    try simp only [Act.put, List.setIfInBounds_toArray, List.set_cons_zero, List.set_cons_succ]
                    refine wpAnyH_done (by kernel_rfl) ?_ _
                    go_wp2_with fail
                    go_meet
                    exact ⟨_, _, _, _, _, _, rfl, rfl, by simp [go_sem, *], by simp [go_sem, *], by simp [go_sem, *], by simp [go_sem, *], by simp [go_sem, *], by simp [go_sem, *], (by first | omega | (simp; omega) | (simp; done)), (by first | omega | (simp; omega) | (simp; done)), Lib.hid (HU1.out.keep (by repeat' (first | (with_reducible exact Zone.refl _ _ _) | (with_reducible refine zone_drewN ?_ _) | (with_reducible refine Zone.setCell ?_ (by first | (left; omega) | (right; omega) | (left; simp; omega) | (right; simp; omega) | (left; simp; done) | (right; simp; done)) _) | (with_reducible refine Zone.alloc ?_ (by first | omega | (simp; omega) | simp) _) | (with_reducible refine Zone.drew ?_)))).all, Lib.hid (HV1.out.keep (by repeat' (first | (with_reducible exact Zone.refl _ _ _) | (with_reducible refine zone_drewN ?_ _) | (with_reducible refine Zone.setCell ?_ (by first | (left; omega) | (right; omega) | (left; simp; omega) | (right; simp; omega) | (left; simp; done) | (right; simp; done)) _) | (with_reducible refine Zone.alloc ?_ (by first | omega | (simp; omega) | simp) _) | (with_reducible refine Zone.drew ?_)))).all, Lib.hid (HU2.out.keep (by repeat' (first | (with_reducible exact Zone.refl _ _ _) | (with_reducible refine zone_drewN ?_ _) | (with_reducible refine Zone.setCell ?_ (by first | (left; omega) | (right; omega) | (left; simp; omega) | (right; simp; omega) | (left; simp; done) | (right; simp; done)) _) | (with_reducible refine Zone.alloc ?_ (by first | omega | (simp; omega) | simp) _) | (with_reducible refine Zone.drew ?_)))).all, Lib.hid (HV2.out.keep (by repeat' (first | (with_reducible exact Zone.refl _ _ _) | (with_reducible refine zone_drewN ?_ _) | (with_reducible refine Zone.setCell ?_ (by first | (left; omega) | (right; omega) | (left; simp; omega) | (right; simp; omega) | (left; simp; done) | (right; simp; done)) _) | (with_reducible refine Zone.alloc ?_ (by first | omega | (simp; omega) | simp) _) | (with_reducible refine Zone.drew ?_)))).all, (by repeat' (first | (with_reducible exact Below.refl _ _) | (with_reducible assumption) | (with_reducible refine Below.alloc ?_ (by first | omega | (simp; omega) | simp) _) | (with_reducible refine Below.setCell ?_ (by first | omega | (simp; omega) | simp) _) | (with_reducible refine Below.drew ?_) | (with_reducible refine below_drewN ?_ _)))⟩
                  exact AllReadyH.nil
                exact AllReadyH.nil
              exact AllReadyH.nil
            exact AllReadyH.nil
          refine AllReadyH.cons (o := _) (by simp only [List.getElem?_toArray, List.getElem?_cons_succ, List.getElem?_cons_zero]; rfl) (fun K hK => ?_) ?_
          · go_simp
            refine hK.out _ _ ?_ (fun hHeld => ?_)
            · first | exact trivial | ((try dsimp only); (first | (with_reducible assumption) | (go_keep; done) | (simp [go_sem, *]; done) | go_keep))
            clear hK K
            try simp only [Act.put, List.setIfInBounds_toArray, List.set_cons_zero, List.set_cons_succ]
            refine wpAnyH_ready (rs := [5, 6]) (by kernel_rfl) (by simp) ?_
            refine AllReadyH.cons (o := _) (by simp only [List.getElem?_toArray, List.getElem?_cons_succ, List.getElem?_cons_zero]; rfl) (fun K hK => ?_) ?_
            · go_simp
              refine (listTermsI_any _ _ _ _ rs2 es2 T (HX.out.below ?b1) (hrd.out.below ?b2) H2.out HTK.out hTL).mono ?_
              case b1 => exact (by repeat' (first | (with_reducible exact Below.refl _ _) | (with_reducible assumption) | (with_reducible refine Below.alloc ?_ (by first | omega | (simp; omega) | simp) _) | (with_reducible refine Below.setCell ?_ (by first | omega | (simp; omega) | simp) _) | (with_reducible refine Below.drew ?_) | (with_reducible refine below_drewN ?_ _)))
              case b2 => exact (by repeat' (first | (with_reducible exact Below.refl _ _) | (with_reducible assumption) | (with_reducible refine Below.alloc ?_ (by first | omega | (simp; omega) | simp) _) | (with_reducible refine Below.setCell ?_ (by first | omega | (simp; omega) | simp) _) | (with_reducible refine Below.drew ?_) | (with_reducible refine below_drewN ?_ _)))
              rintro e3 w3 ⟨u2, v2, rfl, hu2, hv2, hb3⟩
              have hp3 : Below wT.heap.size wT w3 := Below.trans (show Below wT.heap.size wT _ from (by repeat' (first | (with_reducible exact Below.refl _ _) | (with_reducible assumption) | (with_reducible refine Below.alloc ?_ (by first | omega | (simp; omega) | simp) _) | (with_reducible refine Below.setCell ?_ (by first | omega | (simp; omega) | simp) _) | (with_reducible refine Below.drew ?_) | (with_reducible refine below_drewN ?_ _)))) (hb3.mono (by first | omega | (simp only [World.size_alloc, World.size_setCell, World.size_drew] at *; omega) | (simp; omega) | simp))
              have hp23 : Below w2.heap.size w2 w3 := Below.trans (show Below w2.heap.size w2 _ from (by repeat' (first | (with_reducible exact Below.refl _ _) | (with_reducible assumption) | (with_reducible refine Below.alloc ?_ (by first | omega | (simp; omega) | simp) _) | (with_reducible refine Below.setCell ?_ (by first | omega | (simp; omega) | simp) _) | (with_reducible refine Below.drew ?_) | (with_reducible refine below_drewN ?_ _)))) (hb3.mono (by first | omega | (simp only [World.size_alloc, World.size_setCell, World.size_drew] at *; omega) | (simp; omega) | simp))
              have sz3 := hp3.size
              have sz23 := hp23.size
              have hS3 := And.intro (oldc hp3 ly q_y0) (And.intro (oldc hp3 ly q_y1) (And.intro (oldc hp3 lx q_x0) (oldc hp3 lx q_x1)))
              have hBw3 : Below w.heap.size w w3 := hBT.trans (hp3.mono hBT.size)
              have : w.heap.size < w3.heap.size := by omega
              have : ¬ w.heap.size = w3.heap.size := by omega
              have : ¬ w3.heap.size = w.heap.size := by omega
              have : ¬ w.heap.size = w3.heap.size + 1 := by omega
              have : ¬ w3.heap.size + 1 = w.heap.size := by omega
              have : w.heap.size + 1 < w3.heap.size := by omega
              have : ¬ w.heap.size + 1 = w3.heap.size := by omega
              have : ¬ w3.heap.size = w.heap.size + 1 := by omega
              have : ¬ w.heap.size + 1 = w3.heap.size + 1 := by omega
              have : ¬ w3.heap.size + 1 = w.heap.size + 1 := by omega
              have zcl : w2.heap.size < w3.heap.size := by have := hb3.size; (try simp at this); omega
              have zc0 : w3.cell? ⟨w2.heap.size, 0, none⟩ = some (.slice none 0 0) := oldc hb3 (by first | omega | (simp; omega) | (simp; done)) (by simp [go_sem])
              have zc1 : w3.cell? ⟨w2.heap.size, 1, none⟩ = some (.slice none 0 0) := oldc hb3 (by first | omega | (simp; omega) | (simp; done)) (by simp [go_sem])
              have zc2 : w3.cell? ⟨w2.heap.size, 2, none⟩ = some (.slice none 0 0) := oldc hb3 (by first | omega | (simp; omega) | (simp; done)) (by simp [go_sem])
              have zcf : ∀ o, w3.frozen? ⟨w2.heap.size, o, none⟩ = false := fun o => (hb3.frozen (p := ⟨w2.heap.size, o, none⟩) (by first | omega | (simp; omega) | (simp; done))).trans (by simp [go_sem])
              obtain ⟨ao2, n2, cp2, rfl, -⟩ := hu2.shape
              obtain ⟨bo2, m2, dp2, rfl, -⟩ := hv2.shape
              have HU2 := Lib.hid hu2
              have HV2 := Lib.hid hv2
              replace HU1 := Lib.hid (HU1.out.below hp23)
              replace HV1 := Lib.hid (HV1.out.below hp23)
              have nb51 : ¬ w2.heap.size = w3.heap.size := by omega
              have nb52 : ¬ w3.heap.size = w2.heap.size := by omega
              have nb59 : ¬ w2.heap.size = w3.heap.size + 1 := by omega
              have nb60 : ¬ w3.heap.size + 1 = w2.heap.size := by omega
              clear hb3 hu2 hv2
              refine hK.out _ _ ?_ (fun hHeld => ?_)
              · first | exact trivial | ((try dsimp only); (first | (with_reducible assumption) | (go_keep; done) | (simp [go_sem, *]; done) | go_keep))
              clear hK K
              try simp only [Act.put, List.setIfInBounds_toArray, List.set_cons_zero, List.set_cons_succ]
              refine wpAnyH_ready (rs := [6]) (by kernel_rfl) (by simp) ?_
              refine AllReadyH.cons (o := _) (by simp only [List.getElem?_toArray, List.getElem?_cons_succ, List.getElem?_cons_zero]; rfl) (fun K hK => ?_) ?_
              · go_simp
                refine hK.out _ _ ?_ (fun hHeld => ?_)
                · first | exact trivial | ((try dsimp only); (first | (with_reducible assumption) | (go_keep; done) | (simp [go_sem, *]; done) | go_keep))
                clear hK K
                try simp only [Act.put, List.setIfInBounds_toArray, List.set_cons_zero, List.set_cons_succ]
                refine wpAnyH_ready (rs := [8]) (by kernel_rfl) (by simp) ?_
                refine AllReadyH.cons (o := _) (by simp only [List.getElem?_toArray, List.getElem?_cons_succ, List.getElem?_cons_zero]; rfl) (fun K hK => ?_) ?_
                · go_simp
                  refine hK.out _ _ ?_ (fun hHeld => ?_)
                  · first | exact trivial | ((try dsimp only); (first | (with_reducible assumption) | (go_keep; done) | (simp [go_sem, *]; done) | go_keep))
                  clear hK K
                  try simp only [Act.put, List.setIfInBounds_toArray, List.set_cons_zero, List.set_cons_succ]
                  refine wpAnyH_ready (rs := [9]) (by kernel_rfl) (by simp) ?_
                  refine AllReadyH.cons (o := _) (by simp only [List.getElem?_toArray, List.getElem?_cons_succ, List.getElem?_cons_zero]; rfl) (fun K hK => ?_) ?_
                  · go_simp
                    refine hK.out _ _ ?_ (fun hHeld => ?_)
                    · first | exact trivial | ((try dsimp only); (first | (with_reducible assumption) | (go_keep; done) | (simp [go_sem, *]; done) | go_keep))
                    clear hK K
                    try simp only [Act.put, List.setIfInBounds_toArray, List.set_cons_zero, List.set_cons_succ]
                    refine wpAnyH_done (by kernel_rfl) ?_ _
                    go_wp2_with fail
                    go_meet
                    exact ⟨_, _, _, _, _, _, rfl, rfl, by simp [go_sem, *], by simp [go_sem, *], by simp [go_sem, *], by simp [go_sem, *], by simp [go_sem, *], by simp [go_sem, *], (by first | omega | (simp; omega) | (simp; done)), (by first | omega | (simp; omega) | (simp; done)), Lib.hid (HU1.out.keep (by repeat' (first | (with_reducible exact Zone.refl _ _ _) | (with_reducible refine zone_drewN ?_ _) | (with_reducible refine Zone.setCell ?_ (by first | (left; omega) | (right; omega) | (left; simp; omega) | (right; simp; omega) | (left; simp; done) | (right; simp; done)) _) | (with_reducible refine Zone.alloc ?_ (by first | omega | (simp; omega) | simp) _) | (with_reducible refine Zone.drew ?_)))).all, Lib.hid (HV1.out.keep (by repeat' (first | (with_reducible exact Zone.refl _ _ _) | (with_reducible refine zone_drewN ?_ _) | (with_reducible refine Zone.setCell ?_ (by first | (left; omega) | (right; omega) | (left; simp; omega) | (right; simp; omega) | (left; simp; done) | (right; simp; done)) _) | (with_reducible refine Zone.alloc ?_ (by first | omega | (simp; omega) | simp) _) | (with_reducible refine Zone.drew ?_)))).all, Lib.hid (HU2.out.keep (by repeat' (first | (with_reducible exact Zone.refl _ _ _) | (with_reducible refine zone_drewN ?_ _) | (with_reducible refine Zone.setCell ?_ (by first | (left; omega) | (right; omega) | (left; simp; omega) | (right; simp; omega) | (left; simp; done) | (right; simp; done)) _) | (with_reducible refine Zone.alloc ?_ (by first | omega | (simp; omega) | simp) _) | (with_reducible refine Zone.drew ?_)))).all, Lib.hid (HV2.out.keep (by repeat' (first | (with_reducible exact Zone.refl _ _ _) | (with_reducible refine zone_drewN ?_ _) | (with_reducible refine Zone.setCell ?_ (by first | (left; omega) | (right; omega) | (left; simp; omega) | (right; simp; omega) | (left; simp; done) | (right; simp; done)) _) | (with_reducible refine Zone.alloc ?_ (by first | omega | (simp; omega) | simp) _) | (with_reducible refine Zone.drew ?_)))).all, (by repeat' (first | (with_reducible exact Below.refl _ _) | (with_reducible assumption) | (with_reducible refine Below.alloc ?_ (by first | omega | (simp; omega) | simp) _) | (with_reducible refine Below.setCell ?_ (by first | omega | (simp; omega) | simp) _) | (with_reducible refine Below.drew ?_) | (with_reducible refine below_drewN ?_ _)))⟩
                  exact AllReadyH.nil
                exact AllReadyH.nil
              exact AllReadyH.nil
            refine AllReadyH.cons (o := _) (by simp only [List.getElem?_toArray, List.getElem?_cons_succ, List.getElem?_cons_zero]; rfl) (fun K hK => ?_) ?_
            · go_simp
              refine hK.out _ _ ?_ (fun hHeld => ?_)
              · first | exact trivial | ((try dsimp only); (first | (with_reducible assumption) | (go_keep; done) | (simp [go_sem, *]; done) | go_keep))
              clear hK K
              try simp only [Act.put, List.setIfInBounds_toArray, List.set_cons_zero, List.set_cons_succ]
              refine wpAnyH_ready (rs := [5]) (by kernel_rfl) (by simp) ?_
              refine AllReadyH.cons (o := _) (by simp only [List.getElem?_toArray, List.getElem?_cons_succ, List.getElem?_cons_zero]; rfl) (fun K hK => ?_) ?_
              · go_simp
                refine (listTermsI_any _ _ _ _ rs2 es2 T (HX.out.below ?b1) (hrd.out.below ?b2) H2.out HTK.out hTL).mono ?_
                case b1 => exact (by repeat' (first | (with_reducible exact Below.refl _ _) | (with_reducible assumption) | (with_reducible refine Below.alloc ?_ (by first | omega | (simp; omega) | simp) _) | (with_reducible refine Below.setCell ?_ (by first | omega | (simp; omega) | simp) _) | (with_reducible refine Below.drew ?_) | (with_reducible refine below_drewN ?_ _)))
                case b2 => exact (by repeat' (first | (with_reducible exact Below.refl _ _) | (with_reducible assumption) | (with_reducible refine Below.alloc ?_ (by first | omega | (simp; omega) | simp) _) | (with_reducible refine Below.setCell ?_ (by first | omega | (simp; omega) | simp) _) | (with_reducible refine Below.drew ?_) | (with_reducible refine below_drewN ?_ _)))
                rintro e3 w3 ⟨u2, v2, rfl, hu2, hv2, hb3⟩
                have hp3 : Below wT.heap.size wT w3 := Below.trans (show Below wT.heap.size wT _ from (by repeat' (first | (with_reducible exact Below.refl _ _) | (with_reducible assumption) | (with_reducible refine Below.alloc ?_ (by first | omega | (simp; omega) | simp) _) | (with_reducible refine Below.setCell ?_ (by first | omega | (simp; omega) | simp) _) | (with_reducible refine Below.drew ?_) | (with_reducible refine below_drewN ?_ _)))) (hb3.mono (by first | omega | (simp only [World.size_alloc, World.size_setCell, World.size_drew] at *; omega) | (simp; omega) | simp))
                have hp23 : Below w2.heap.size w2 w3 := Below.trans (show Below w2.heap.size w2 _ from (by repeat' (first | (with_reducible exact Below.refl _ _) | (with_reducible assumption) | (with_reducible refine Below.alloc ?_ (by first | omega | (simp; omega) | simp) _) | (with_reducible refine Below.setCell ?_ (by first | omega | (simp; omega) | simp) _) | (with_reducible refine Below.drew ?_) | (with_reducible refine below_drewN ?_ _)))) (hb3.mono (by first | omega | (simp only [World.size_alloc, World.size_setCell, World.size_drew] at *; omega) | (simp; omega) | simp))
                have sz3 := hp3.size
                have sz23 := hp23.size
                have hS3 := And.intro (oldc hp3 ly q_y0) (And.intro (oldc hp3 ly q_y1) (And.intro (oldc hp3 lx q_x0) (oldc hp3 lx q_x1)))
                have hBw3 : Below w.heap.size w w3 := hBT.trans (hp3.mono hBT.size)
                have : w.heap.size < w3.heap.size := by omega
                have : ¬ w.heap.size = w3.heap.size := by omega
                have : ¬ w3.heap.size = w.heap.size := by omega
                have : ¬ w.heap.size = w3.heap.size + 1 := by omega
                have : ¬ w3.heap.size + 1 = w.heap.size := by omega
                have : w.heap.size + 1 < w3.heap.size := by omega
                have : ¬ w.heap.size + 1 = w3.heap.size := by omega
                have : ¬ w3.heap.size = w.heap.size + 1 := by omega
                have : ¬ w.heap.size + 1 = w3.heap.size + 1 := by omega
                have : ¬ w3.heap.size + 1 = w.heap.size + 1 := by omega
                have zcl : w2.heap.size < w3.heap.size := by have := hb3.size; (try simp at this); omega
                have zc0 : w3.cell? ⟨w2.heap.size, 0, none⟩ = some (.slice none 0 0) := oldc hb3 (by first | omega | (simp; omega) | (simp; done)) (by simp [go_sem])
                have zc1 : w3.cell? ⟨w2.heap.size, 1, none⟩ = some (.slice none 0 0) := oldc hb3 (by first | omega | (simp; omega) | (simp; done)) (by simp [go_sem])
                have zc2 : w3.cell? ⟨w2.heap.size, 2, none⟩ = some (.slice none 0 0) := oldc hb3 (by first | omega | (simp; omega) | (simp; done)) (by simp [go_sem])
                have zcf : ∀ o, w3.frozen? ⟨w2.heap.size, o, none⟩ = false := fun o => (hb3.frozen (p := ⟨w2.heap.size, o, none⟩) (by first | omega | (simp; omega) | (simp; done))).trans (by simp [go_sem])
                have zdl : w2.heap.size + 1 < w3.heap.size := by have := hb3.size; (try simp at this); omega
                have zd0 : w3.cell? ⟨w2.heap.size + 1, 0, none⟩ = some (.slice none 0 0) := oldc hb3 (by first | omega | (simp; omega) | (simp; done)) (by simp [go_sem])
                have zd1 : w3.cell? ⟨w2.heap.size + 1, 1, none⟩ = some (.slice none 0 0) := oldc hb3 (by first | omega | (simp; omega) | (simp; done)) (by simp [go_sem])
                have zd2 : w3.cell? ⟨w2.heap.size + 1, 2, none⟩ = some (.slice none 0 0) := oldc hb3 (by first | omega | (simp; omega) | (simp; done)) (by simp [go_sem])
                have zdf : ∀ o, w3.frozen? ⟨w2.heap.size + 1, o, none⟩ = false := fun o => (hb3.frozen (p := ⟨w2.heap.size + 1, o, none⟩) (by first | omega | (simp; omega) | (simp; done))).trans (by simp [go_sem])
                obtain ⟨ao2, n2, cp2, rfl, -⟩ := hu2.shape
                obtain ⟨bo2, m2, dp2, rfl, -⟩ := hv2.shape
                have HU2 := Lib.hid hu2
                have HV2 := Lib.hid hv2
                replace HU1 := Lib.hid (HU1.out.below hp23)
                replace HV1 := Lib.hid (HV1.out.below hp23)
                have nb51 : ¬ w2.heap.size = w3.heap.size := by omega
                have nb52 : ¬ w3.heap.size = w2.heap.size := by omega
                have nb53 : ¬ w2.heap.size + 1 = w3.heap.size := by omega
                have nb54 : ¬ w3.heap.size = w2.heap.size + 1 := by omega
                have nb59 : ¬ w2.heap.size = w3.heap.size + 1 := by omega
                have nb60 : ¬ w3.heap.size + 1 = w2.heap.size := by omega
                have nb61 : ¬ w2.heap.size + 1 = w3.heap.size + 1 := by omega
                have nb62 : ¬ w3.heap.size + 1 = w2.heap.size + 1 := by omega
                clear hb3 hu2 hv2
                refine hK.out _ _ ?_ (fun hHeld => ?_)
                · first | exact trivial | ((try dsimp only); (first | (with_reducible assumption) | (go_keep; done) | (simp [go_sem, *]; done) | go_keep))
                clear hK K
                try simp only [Act.put, List.setIfInBounds_toArray, List.set_cons_zero, List.set_cons_succ]
                refine wpAnyH_ready (rs := [8]) (by kernel_rfl) (by simp) ?_
                refine AllReadyH.cons (o := _) (by simp only [List.getElem?_toArray, List.getElem?_cons_succ, List.getElem?_cons_zero]; rfl) (fun K hK => ?_) ?_
                · go_simp
                  refine hK.out _ _ ?_ (fun hHeld => ?_)
                  · first | exact trivial | ((try dsimp only); (first | (with_reducible assumption) | (go_keep; done) | (simp [go_sem, *]; done) | go_keep))
                  clear hK K
                  try simp only [Act.put, List.setIfInBounds_toArray, List.set_cons_zero, List.set_cons_succ]
                  refine wpAnyH_ready (rs := [9]) (by kernel_rfl) (by simp) ?_
                  refine AllReadyH.cons (o := _) (by simp only [List.getElem?_toArray, List.getElem?_cons_succ, List.getElem?_cons_zero]; rfl) (fun K hK => ?_) ?_
                  · go_simp
                    refine hK.out _ _ ?_ (fun hHeld => ?_)
                    · first | exact trivial | ((try dsimp only); (first | (with_reducible assumption) | (go_keep; done) | (simp [go_sem, *]; done) | go_keep))
                    clear hK K
                    try simp only [Act.put, List.setIfInBounds_toArray, List.set_cons_zero, List.set_cons_succ]
                    refine wpAnyH_done (by kernel_rfl) ?_ _
                    go_wp2_with fail
                    go_meet
                    exact ⟨_, _, _, _, _, _, rfl, rfl, by simp [go_sem, *], by simp [go_sem, *], by simp [go_sem, *], by simp [go_sem, *], by simp [go_sem, *], by simp [go_sem, *], (by first | omega | (simp; omega) | (simp; done)), (by first | omega | (simp; omega) | (simp; done)), Lib.hid (HU1.out.keep (by repeat' (first | (with_reducible exact Zone.refl _ _ _) | (with_reducible refine zone_drewN ?_ _) | (with_reducible refine Zone.setCell ?_ (by first | (left; omega) | (right; omega) | (left; simp; omega) | (right; simp; omega) | (left; simp; done) | (right; simp; done)) _) | (with_reducible refine Zone.alloc ?_ (by first | omega | (simp; omega) | simp) _) | (with_reducible refine Zone.drew ?_)))).all, Lib.hid (HV1.out.keep (by repeat' (first | (with_reducible exact Zone.refl _ _ _) | (with_reducible refine zone_drewN ?_ _) | (with_reducible refine Zone.setCell ?_ (by first | (left; omega) | (right; omega) | (left; simp; omega) | (right; simp; omega) | (left; simp; done) | (right; simp; done)) _) | (with_reducible refine Zone.alloc ?_ (by first | omega | (simp; omega) | simp) _) | (with_reducible refine Zone.drew ?_)))).all, Lib.hid (HU2.out.keep (by repeat' (first | (with_reducible exact Zone.refl _ _ _) | (with_reducible refine zone_drewN ?_ _) | (with_reducible refine Zone.setCell ?_ (by first | (left; omega) | (right; omega) | (left; simp; omega) | (right; simp; omega) | (left; simp; done) | (right; simp; done)) _) | (with_reducible refine Zone.alloc ?_ (by first | omega | (simp; omega) | simp) _) | (with_reducible refine Zone.drew ?_)))).all, Lib.hid (HV2.out.keep (by repeat' (first | (with_reducible exact Zone.refl _ _ _) | (with_reducible refine zone_drewN ?_ _) | (with_reducible refine Zone.setCell ?_ (by first | (left; omega) | (right; omega) | (left; simp; omega) | (right; simp; omega) | (left; simp; done) | (right; simp; done)) _) | (with_reducible refine Zone.alloc ?_ (by first | omega | (simp; omega) | simp) _) | (with_reducible refine Zone.drew ?_)))).all, (by repeat' (first | (with_reducible exact Below.refl _ _) | (with_reducible assumption) | (with_reducible refine Below.alloc ?_ (by first | omega | (simp; omega) | simp) _) | (with_reducible refine Below.setCell ?_ (by first | omega | (simp; omega) | simp) _) | (with_reducible refine Below.drew ?_) | (with_reducible refine below_drewN ?_ _)))⟩
                  exact AllReadyH.nil
                exact AllReadyH.nil
              exact AllReadyH.nil
            exact AllReadyH.nil
          exact AllReadyH.nil
        refine AllReadyH.cons (o := _) (by simp only [List.getElem?_toArray, List.getElem?_cons_succ, List.getElem?_cons_zero]; rfl) (fun K hK => ?_) ?_
        · go_simp
          refine hK.out _ _ ?_ (fun hHeld => ?_)
          · first | exact trivial | ((try dsimp only); (first | (with_reducible assumption) | (go_keep; done) | (simp [go_sem, *]; done) | go_keep))
          clear hK K
          try simp only [Act.put, List.setIfInBounds_toArray, List.set_cons_zero, List.set_cons_succ]
          refine wpAnyH_ready (rs := [2, 7]) (by kernel_rfl) (by simp) ?_
          refine AllReadyH.cons (o := _) (by simp only [List.getElem?_toArray, List.getElem?_cons_succ, List.getElem?_cons_zero]; rfl) (fun K hK => ?_) ?_
          · go_simp
            refine (listTermsI_any _ _ _ _ rs es T (HY.out.below ?b1) (hrd.out.below ?b2) H1.out HTK.out hTL).mono ?_
            case b1 => exact (by repeat' (first | (with_reducible exact Below.refl _ _) | (with_reducible assumption) | (with_reducible refine Below.alloc ?_ (by first | omega | (simp; omega) | simp) _) | (with_reducible refine Below.setCell ?_ (by first | omega | (simp; omega) | simp) _) | (with_reducible refine Below.drew ?_) | (with_reducible refine below_drewN ?_ _)))
            case b2 => exact (by repeat' (first | (with_reducible exact Below.refl _ _) | (with_reducible assumption) | (with_reducible refine Below.alloc ?_ (by first | omega | (simp; omega) | simp) _) | (with_reducible refine Below.setCell ?_ (by first | omega | (simp; omega) | simp) _) | (with_reducible refine Below.drew ?_) | (with_reducible refine below_drewN ?_ _)))
            rintro e2 w2 ⟨u1, v1, rfl, hu1, hv1, hb2⟩
            have hp2 : Below wT.heap.size wT w2 := Below.trans (show Below wT.heap.size wT _ from (by repeat' (first | (with_reducible exact Below.refl _ _) | (with_reducible assumption) | (with_reducible refine Below.alloc ?_ (by first | omega | (simp; omega) | simp) _) | (with_reducible refine Below.setCell ?_ (by first | omega | (simp; omega) | simp) _) | (with_reducible refine Below.drew ?_) | (with_reducible refine below_drewN ?_ _)))) (hb2.mono (by first | omega | (simp only [World.size_alloc, World.size_setCell, World.size_drew] at *; omega) | (simp; omega) | simp))
            have sz2 := hp2.size
            have hS2 := And.intro (oldc hp2 ly q_y0) (And.intro (oldc hp2 ly q_y1) (And.intro (oldc hp2 lx q_x0) (oldc hp2 lx q_x1)))
            have hBw2 : Below w.heap.size w w2 := hBT.trans (hp2.mono hBT.size)
            have : w.heap.size < w2.heap.size := by omega
            have : ¬ w.heap.size = w2.heap.size := by omega
            have : ¬ w2.heap.size = w.heap.size := by omega
            have : ¬ w.heap.size = w2.heap.size + 1 := by omega
            have : ¬ w2.heap.size + 1 = w.heap.size := by omega
            have : w.heap.size + 1 < w2.heap.size := by omega
            have : ¬ w.heap.size + 1 = w2.heap.size := by omega
            have : ¬ w2.heap.size = w.heap.size + 1 := by omega
            have : ¬ w.heap.size + 1 = w2.heap.size + 1 := by omega
            have : ¬ w2.heap.size + 1 = w.heap.size + 1 := by omega
            have zal : wT.heap.size < w2.heap.size := by have := hb2.size; (try simp at this); omega
            have za0 : w2.cell? ⟨wT.heap.size, 0, none⟩ = some (.slice none 0 0) := oldc hb2 (by first | omega | (simp; omega) | (simp; done)) (by simp [go_sem])
            have za1 : w2.cell? ⟨wT.heap.size, 1, none⟩ = some (.slice none 0 0) := oldc hb2 (by first | omega | (simp; omega) | (simp; done)) (by simp [go_sem])
            have za2 : w2.cell? ⟨wT.heap.size, 2, none⟩ = some (.slice none 0 0) := oldc hb2 (by first | omega | (simp; omega) | (simp; done)) (by simp [go_sem])
            have zaf : ∀ o, w2.frozen? ⟨wT.heap.size, o, none⟩ = false := fun o => (hb2.frozen (p := ⟨wT.heap.size, o, none⟩) (by first | omega | (simp; omega) | (simp; done))).trans (by simp [go_sem])
            obtain ⟨ao1, n1, cp1, rfl, -⟩ := hu1.shape
            obtain ⟨bo1, m1, dp1, rfl, -⟩ := hv1.shape
            have HU1 := Lib.hid hu1
            have HV1 := Lib.hid hv1
            clear hb2 hu1 hv1
            refine hK.out _ _ ?_ (fun hHeld => ?_)
            · first | exact trivial | ((try dsimp only); (first | (with_reducible assumption) | (go_keep; done) | (simp [go_sem, *]; done) | go_keep))
            clear hK K
            try simp only [Act.put, List.setIfInBounds_toArray, List.set_cons_zero, List.set_cons_succ]
            refine wpAnyH_ready (rs := [5, 7]) (by kernel_rfl) (by simp) ?_
            refine AllReadyH.cons (o := _) (by simp only [List.getElem?_toArray, List.getElem?_cons_succ, List.getElem?_cons_zero]; rfl) (fun K hK => ?_) ?_
            · go_simp
              refine (listTermsI_any _ _ _ _ rs2 es2 T (HX.out.below ?b1) (hrd.out.below ?b2) H2.out HTK.out hTL).mono ?_
              case b1 => exact (by repeat' (first | (with_reducible exact Below.refl _ _) | (with_reducible assumption) | (with_reducible refine Below.alloc ?_ (by first | omega | (simp; omega) | simp) _) | (with_reducible refine Below.setCell ?_ (by first | omega | (simp; omega) | simp) _) | (with_reducible refine Below.drew ?_) | (with_reducible refine below_drewN ?_ _)))
              case b2 => exact (by repeat' (first | (with_reducible exact Below.refl _ _) | (with_reducible assumption) | (with_reducible refine Below.alloc ?_ (by first | omega | (simp; omega) | simp) _) | (with_reducible refine Below.setCell ?_ (by first | omega | (simp; omega) | simp) _) | (with_reducible refine Below.drew ?_) | (with_reducible refine below_drewN ?_ _)))
              rintro e3 w3 ⟨u2, v2, rfl, hu2, hv2, hb3⟩
              have hp3 : Below wT.heap.size wT w3 := Below.trans (show Below wT.heap.size wT _ from (by repeat' (first | (with_reducible exact Below.refl _ _) | (with_reducible assumption) | (with_reducible refine Below.alloc ?_ (by first | omega | (simp; omega) | simp) _) | (with_reducible refine Below.setCell ?_ (by first | omega | (simp; omega) | simp) _) | (with_reducible refine Below.drew ?_) | (with_reducible refine below_drewN ?_ _)))) (hb3.mono (by first | omega | (simp only [World.size_alloc, World.size_setCell, World.size_drew] at *; omega) | (simp; omega) | simp))
              have hp23 : Below w2.heap.size w2 w3 := Below.trans (show Below w2.heap.size w2 _ from (by repeat' (first | (with_reducible exact Below.refl _ _) | (with_reducible assumption) | (with_reducible refine Below.alloc ?_ (by first | omega | (simp; omega) | simp) _) | (with_reducible refine Below.setCell ?_ (by first | omega | (simp; omega) | simp) _) | (with_reducible refine Below.drew ?_) | (with_reducible refine below_drewN ?_ _)))) (hb3.mono (by first | omega | (simp only [World.size_alloc, World.size_setCell, World.size_drew] at *; omega) | (simp; omega) | simp))
              have sz3 := hp3.size
              have sz23 := hp23.size
              have hS3 := And.intro (oldc hp3 ly q_y0) (And.intro (oldc hp3 ly q_y1) (And.intro (oldc hp3 lx q_x0) (oldc hp3 lx q_x1)))
              have hBw3 : Below w.heap.size w w3 := hBT.trans (hp3.mono hBT.size)
              have : w.heap.size < w3.heap.size := by omega
              have : ¬ w.heap.size = w3.heap.size := by omega
              have : ¬ w3.heap.size = w.heap.size := by omega
              have : ¬ w.heap.size = w3.heap.size + 1 := by omega
              have : ¬ w3.heap.size + 1 = w.heap.size := by omega
              have : w.heap.size + 1 < w3.heap.size := by omega
              have : ¬ w.heap.size + 1 = w3.heap.size := by omega
              have : ¬ w3.heap.size = w.heap.size + 1 := by omega
              have : ¬ w.heap.size + 1 = w3.heap.size + 1 := by omega
              have : ¬ w3.heap.size + 1 = w.heap.size + 1 := by omega
              have za0 := oldc hp23 zal za0
              have za1 := oldc hp23 zal za1
              have za2 := oldc hp23 zal za2
              have zaf : ∀ o, w3.frozen? ⟨wT.heap.size, o, none⟩ = false := fun o => (hp23.frozen (p := ⟨wT.heap.size, o, none⟩) zal).trans (zaf o)
              have zal := Nat.lt_of_lt_of_le zal hp23.size
              obtain ⟨ao2, n2, cp2, rfl, -⟩ := hu2.shape
              obtain ⟨bo2, m2, dp2, rfl, -⟩ := hv2.shape
              have HU2 := Lib.hid hu2
              have HV2 := Lib.hid hv2
              replace HU1 := Lib.hid (HU1.out.below hp23)
              replace HV1 := Lib.hid (HV1.out.below hp23)
              have nb47 : ¬ wT.heap.size = w3.heap.size := by omega
              have nb48 : ¬ w3.heap.size = wT.heap.size := by omega
              have nb55 : ¬ wT.heap.size = w3.heap.size + 1 := by omega
              have nb56 : ¬ w3.heap.size + 1 = wT.heap.size := by omega
              clear hb3 hu2 hv2
              refine hK.out _ _ ?_ (fun hHeld => ?_)
              · first | exact trivial | ((try dsimp only); (first | (with_reducible assumption) | (go_keep; done) | (simp [go_sem, *]; done) | go_keep))
              clear hK K
              try simp only [Act.put, List.setIfInBounds_toArray, List.set_cons_zero, List.set_cons_succ]
              refine wpAnyH_ready (rs := [7]) (by kernel_rfl) (by simp) ?_
              refine AllReadyH.cons (o := _) (by simp only [List.getElem?_toArray, List.getElem?_cons_succ, List.getElem?_cons_zero]; rfl) (fun K hK => ?_) ?_
              · go_simp
                refine hK.out _ _ ?_ (fun hHeld => ?_)
                · first | exact trivial | ((try dsimp only); (first | (with_reducible assumption) | (go_keep; done) | (simp [go_sem, *]; done) | go_keep))
                clear hK K
                try simp only [Act.put, List.setIfInBounds_toArray, List.set_cons_zero, List.set_cons_succ]
                refine wpAnyH_ready (rs := [8]) (by kernel_rfl) (by simp) ?_
                refine AllReadyH.cons (o := _) (by simp only [List.getElem?_toArray, List.getElem?_cons_succ, List.getElem?_cons_zero]; rfl) (fun K hK => ?_) ?_
                · go_simp
                  refine hK.out _ _ ?_ (fun hHeld => ?_)
                  · first | exact trivial | ((try dsimp only); (first | (with_reducible assumption) | (go_keep; done) | (simp [go_sem, *]; done) | go_keep))
                  clear hK K
                  try simp only [Act.put, List.setIfInBounds_toArray, List.set_cons_zero, List.set_cons_succ]
                  refine wpAnyH_ready (rs := [9]) (by kernel_rfl) (by simp) ?_
                  refine AllReadyH.cons (o := _) (by simp only [List.getElem?_toArray, List.getElem?_cons_succ, List.getElem?_cons_zero]; rfl) (fun K hK => ?_) ?_
                  · go_simp
                    refine hK.out _ _ ?_ (fun hHeld => ?_)
                    · first | exact trivial | ((try dsimp only); (first | (with_reducible assumption) | (go_keep; done) | (simp [go_sem, *]; done) | go_keep))
                    clear hK K
                    try simp only [Act.put, List.setIfInBounds_toArray, List.set_cons_zero, List.set_cons_succ]
                    refine wpAnyH_done (by kernel_rfl) ?_ _
                    go_wp2_with fail
                    go_meet
                    exact ⟨_, _, _, _, _, _, rfl, rfl, by simp [go_sem, *], by simp [go_sem, *], by simp [go_sem, *], by simp [go_sem, *], by simp [go_sem, *], by simp [go_sem, *], (by first | omega | (simp; omega) | (simp; done)), (by first | omega | (simp; omega) | (simp; done)), Lib.hid (HU1.out.keep (by repeat' (first | (with_reducible exact Zone.refl _ _ _) | (with_reducible refine zone_drewN ?_ _) | (with_reducible refine Zone.setCell ?_ (by first | (left; omega) | (right; omega) | (left; simp; omega) | (right; simp; omega) | (left; simp; done) | (right; simp; done)) _) | (with_reducible refine Zone.alloc ?_ (by first | omega | (simp; omega) | simp) _) | (with_reducible refine Zone.drew ?_)))).all, Lib.hid (HV1.out.keep (by repeat' (first | (with_reducible exact Zone.refl _ _ _) | (with_reducible refine zone_drewN ?_ _) | (with_reducible refine Zone.setCell ?_ (by first | (left; omega) | (right; omega) | (left; simp; omega) | (right; simp; omega) | (left; simp; done) | (right; simp; done)) _) | (with_reducible refine Zone.alloc ?_ (by first | omega | (simp; omega) | simp) _) | (with_reducible refine Zone.drew ?_)))).all, Lib.hid (HU2.out.keep (by repeat' (first | (with_reducible exact Zone.refl _ _ _) | (with_reducible refine zone_drewN ?_ _) | (with_reducible refine Zone.setCell ?_ (by first | (left; omega) | (right; omega) | (left; simp; omega) | (right; simp; omega) | (left; simp; done) | (right; simp; done)) _) | (with_reducible refine Zone.alloc ?_ (by first | omega | (simp; omega) | simp) _) | (with_reducible refine Zone.drew ?_)))).all, Lib.hid (HV2.out.keep (by repeat' (first | (with_reducible exact Zone.refl _ _ _) | (with_reducible refine zone_drewN ?_ _) | (with_reducible refine Zone.setCell ?_ (by first | (left; omega) | (right; omega) | (left; simp; omega) | (right; simp; omega) | (left; simp; done) | (right; simp; done)) _) | (with_reducible refine Zone.alloc ?_ (by first | omega | (simp; omega) | simp) _) | (with_reducible refine Zone.drew ?_)))).all, (by repeat' (first | (with_reducible exact Below.refl _ _) | (with_reducible assumption) | (with_reducible refine Below.alloc ?_ (by first | omega | (simp; omega) | simp) _) | (with_reducible refine Below.setCell ?_ (by first | omega | (simp; omega) | simp) _) | (with_reducible refine Below.drew ?_) | (with_reducible refine below_drewN ?_ _)))⟩
                  exact AllReadyH.nil
                exact AllReadyH.nil
              exact AllReadyH.nil
            refine AllReadyH.cons (o := _) (by simp only [List.getElem?_toArray, List.getElem?_cons_succ, List.getElem?_cons_zero]; rfl) (fun K hK => ?_) ?_
            · go_simp
              refine hK.out _ _ ?_ (fun hHeld => ?_)
              · first | exact trivial | ((try dsimp only); (first | (with_reducible assumption) | (go_keep; done) | (simp [go_sem, *]; done) | go_keep))
              clear hK K
              try simp only [Act.put, List.setIfInBounds_toArray, List.set_cons_zero, List.set_cons_succ]
              refine wpAnyH_ready (rs := [5]) (by kernel_rfl) (by simp) ?_
              refine AllReadyH.cons (o := _) (by simp only [List.getElem?_toArray, List.getElem?_cons_succ, List.getElem?_cons_zero]; rfl) (fun K hK => ?_) ?_
              · go_simp
                refine (listTermsI_any _ _ _ _ rs2 es2 T (HX.out.below ?b1) (hrd.out.below ?b2) H2.out HTK.out hTL).mono ?_
                case b1 => exact (by repeat' (first | (with_reducible exact Below.refl _ _) | (with_reducible assumption) | (with_reducible refine Below.alloc ?_ (by first | omega | (simp; omega) | simp) _) | (with_reducible refine Below.setCell ?_ (by first | omega | (simp; omega) | simp) _) | (with_reducible refine Below.drew ?_) | (with_reducible refine below_drewN ?_ _)))
                case b2 => exact (by repeat' (first | (with_reducible exact Below.refl _ _) | (with_reducible assumption) | (with_reducible refine Below.alloc ?_ (by first | omega | (simp; omega) | simp) _) | (with_reducible refine Below.setCell ?_ (by first | omega | (simp; omega) | simp) _) | (with_reducible refine Below.drew ?_) | (with_reducible refine below_drewN ?_ _)))
                rintro e3 w3 ⟨u2, v2, rfl, hu2, hv2, hb3⟩
                have hp3 : Below wT.heap.size wT w3 := Below.trans (show Below wT.heap.size wT _ from (by repeat' (first | (with_reducible exact Below.refl _ _) | (with_reducible assumption) | (with_reducible refine Below.alloc ?_ (by first | omega | (simp; omega) | simp) _) | (with_reducible refine Below.setCell ?_ (by first | omega | (simp; omega) | simp) _) | (with_reducible refine Below.drew ?_) | (with_reducible refine below_drewN ?_ _)))) (hb3.mono (by first | omega | (simp only [World.size_alloc, World.size_setCell, World.size_drew] at *; omega) | (simp; omega) | simp))
                have hp23 : Below w2.heap.size w2 w3 := Below.trans (show Below w2.heap.size w2 _ from (by repeat' (first | (with_reducible exact Below.refl _ _) | (with_reducible assumption) | (with_reducible refine Below.alloc ?_ (by first | omega | (simp; omega) | simp) _) | (with_reducible refine Below.setCell ?_ (by first | omega | (simp; omega) | simp) _) | (with_reducible refine Below.drew ?_) | (with_reducible refine below_drewN ?_ _)))) (hb3.mono (by first | omega | (simp only [World.size_alloc, World.size_setCell, World.size_drew] at *; omega) | (simp; omega) | simp))
                have sz3 := hp3.size
                have sz23 := hp23.size
                have hS3 := And.intro (oldc hp3 ly q_y0) (And.intro (oldc hp3 ly q_y1) (And.intro (oldc hp3 lx q_x0) (oldc hp3 lx q_x1)))
                have hBw3 : Below w.heap.size w w3 := hBT.trans (hp3.mono hBT.size)
                have : w.heap.size < w3.heap.size := by omega
                have : ¬ w.heap.size = w3.heap.size := by omega
                have : ¬ w3.heap.size = w.heap.size := by omega
                have : ¬ w.heap.size = w3.heap.size + 1 := by omega
                have : ¬ w3.heap.size + 1 = w.heap.size := by omega
                have : w.heap.size + 1 < w3.heap.size := by omega
                have : ¬ w.heap.size + 1 = w3.heap.size := by omega
                have : ¬ w3.heap.size = w.heap.size + 1 := by omega
                have : ¬ w.heap.size + 1 = w3.heap.size + 1 := by omega
                have : ¬ w3.heap.size + 1 = w.heap.size + 1 := by omega
                have za0 := oldc hp23 zal za0
                have za1 := oldc hp23 zal za1
                have za2 := oldc hp23 zal za2
                have zaf : ∀ o, w3.frozen? ⟨wT.heap.size, o, none⟩ = false := fun o => (hp23.frozen (p := ⟨wT.heap.size, o, none⟩) zal).trans (zaf o)
                have zal := Nat.lt_of_lt_of_le zal hp23.size
                have zcl : w2.heap.size < w3.heap.size := by have := hb3.size; (try simp at this); omega
                have zc0 : w3.cell? ⟨w2.heap.size, 0, none⟩ = some (.slice none 0 0) := oldc hb3 (by first | omega | (simp; omega) | (simp; done)) (by simp [go_sem])
                have zc1 : w3.cell? ⟨w2.heap.size, 1, none⟩ = some (.slice none 0 0) := oldc hb3 (by first | omega | (simp; omega) | (simp; done)) (by simp [go_sem])
                have zc2 : w3.cell? ⟨w2.heap.size, 2, none⟩ = some (.slice none 0 0) := oldc hb3 (by first | omega | (simp; omega) | (simp; done)) (by simp [go_sem])
                have zcf : ∀ o, w3.frozen? ⟨w2.heap.size, o, none⟩ = false := fun o => (hb3.frozen (p := ⟨w2.heap.size, o, none⟩) (by first | omega | (simp; omega) | (simp; done))).trans (by simp [go_sem])
                obtain ⟨ao2, n2, cp2, rfl, -⟩ := hu2.shape
                obtain ⟨bo2, m2, dp2, rfl, -⟩ := hv2.shape
                have HU2 := Lib.hid hu2
                have HV2 := Lib.hid hv2
                replace HU1 := Lib.hid (HU1.out.below hp23)
                replace HV1 := Lib.hid (HV1.out.below hp23)
                have nb47 : ¬ wT.heap.size = w3.heap.size := by omega
                have nb48 : ¬ w3.heap.size = wT.heap.size := by omega
                have nb51 : ¬ w2.heap.size = w3.heap.size := by omega
                have nb52 : ¬ w3.heap.size = w2.heap.size := by omega
                have nb55 : ¬ wT.heap.size = w3.heap.size + 1 := by omega
                have nb56 : ¬ w3.heap.size + 1 = wT.heap.size := by omega
                have nb59 : ¬ w2.heap.size = w3.heap.size + 1 := by omega
                have nb60 : ¬ w3.heap.size + 1 = w2.heap.size := by omega
                have nb63 : ¬ wT.heap.size = w2.heap.size := by omega
                have nb64 : ¬ w2.heap.size = wT.heap.size := by omega
                clear hb3 hu2 hv2
                refine hK.out _ _ ?_ (fun hHeld => ?_)
                · first | exact trivial | ((try dsimp only); (first | (with_reducible assumption) | (go_keep; done) | (simp [go_sem, *]; done) | go_keep))
                clear hK K
                try simp only [Act.put, List.setIfInBounds_toArray, List.set_cons_zero, List.set_cons_succ]
                refine wpAnyH_ready (rs := [8]) (by kernel_rfl) (by simp) ?_
                refine AllReadyH.cons (o := _) (by simp only [List.getElem?_toArray, List.getElem?_cons_succ, List.getElem?_cons_zero]; rfl) (fun K hK => ?_) ?_
                · go_simp
                  refine hK.out _ _ ?_ (fun hHeld => ?_)
                  · first | exact trivial | ((try dsimp only); (first | (with_reducible assumption) | (go_keep; done) | (simp [go_sem, *]; done) | go_keep))
                  clear hK K
                  try simp only [Act.put, List.setIfInBounds_toArray, List.set_cons_zero, List.set_cons_succ]
                  refine wpAnyH_ready (rs := [9]) (by kernel_rfl) (by simp) ?_
                  refine AllReadyH.cons (o := _) (by simp only [List.getElem?_toArray, List.getElem?_cons_succ, List.getElem?_cons_zero]; rfl) (fun K hK => ?_) ?_
                  · go_simp
                    refine hK.out _ _ ?_ (fun hHeld => ?_)
                    · first | exact trivial | ((try dsimp only); (first | (with_reducible assumption) | (go_keep; done) | (simp [go_sem, *]; done) | go_keep))
                    clear hK K
                    try simp only [Act.put, List.setIfInBounds_toArray, List.set_cons_zero, List.set_cons_succ]
                    refine wpAnyH_done (by kernel_rfl) ?_ _
                    go_wp2_with fail
                    go_meet
                    exact ⟨_, _, _, _, _, _, rfl, rfl, by simp [go_sem, *], by simp [go_sem, *], by simp [go_sem, *], by simp [go_sem, *], by simp [go_sem, *], by simp [go_sem, *], (by first | omega | (simp; omega) | (simp; done)), (by first | omega | (simp; omega) | (simp; done)), Lib.hid (HU1.out.keep (by repeat' (first | (with_reducible exact Zone.refl _ _ _) | (with_reducible refine zone_drewN ?_ _) | (with_reducible refine Zone.setCell ?_ (by first | (left; omega) | (right; omega) | (left; simp; omega) | (right; simp; omega) | (left; simp; done) | (right; simp; done)) _) | (with_reducible refine Zone.alloc ?_ (by first | omega | (simp; omega) | simp) _) | (with_reducible refine Zone.drew ?_)))).all, Lib.hid (HV1.out.keep (by repeat' (first | (with_reducible exact Zone.refl _ _ _) | (with_reducible refine zone_drewN ?_ _) | (with_reducible refine Zone.setCell ?_ (by first | (left; omega) | (right; omega) | (left; simp; omega) | (right; simp; omega) | (left; simp; done) | (right; simp; done)) _) | (with_reducible refine Zone.alloc ?_ (by first | omega | (simp; omega) | simp) _) | (with_reducible refine Zone.drew ?_)))).all, Lib.hid (HU2.out.keep (by repeat' (first | (with_reducible exact Zone.refl _ _ _) | (with_reducible refine zone_drewN ?_ _) | (with_reducible refine Zone.setCell ?_ (by first | (left; omega) | (right; omega) | (left; simp; omega) | (right; simp; omega) | (left; simp; done) | (right; simp; done)) _) | (with_reducible refine Zone.alloc ?_ (by first | omega | (simp; omega) | simp) _) | (with_reducible refine Zone.drew ?_)))).all, Lib.hid (HV2.out.keep (by repeat' (first | (with_reducible exact Zone.refl _ _ _) | (with_reducible refine zone_drewN ?_ _) | (with_reducible refine Zone.setCell ?_ (by first | (left; omega) | (right; omega) | (left; simp; omega) | (right; simp; omega) | (left; simp; done) | (right; simp; done)) _) | (with_reducible refine Zone.alloc ?_ (by first | omega | (simp; omega) | simp) _) | (with_reducible refine Zone.drew ?_)))).all, (by repeat' (first | (with_reducible exact Below.refl _ _) | (with_reducible assumption) | (with_reducible refine Below.alloc ?_ (by first | omega | (simp; omega) | simp) _) | (with_reducible refine Below.setCell ?_ (by first | omega | (simp; omega) | simp) _) | (with_reducible refine Below.drew ?_) | (with_reducible refine below_drewN ?_ _)))⟩
                  exact AllReadyH.nil
                exact AllReadyH.nil
              exact AllReadyH.nil
            exact AllReadyH.nil
          refine AllReadyH.cons (o := _) (by simp only [List.getElem?_toArray, List.getElem?_cons_succ, List.getElem?_cons_zero]; rfl) (fun K hK => ?_) ?_
          · go_simp
            refine hK.out _ _ ?_ (fun hHeld => ?_)
            · first | exact trivial | ((try dsimp only); (first | (with_reducible assumption) | (go_keep; done) | (simp [go_sem, *]; done) | go_keep))
            clear hK K
            try simp only [Act.put, List.setIfInBounds_toArray, List.set_cons_zero, List.set_cons_succ]
            refine wpAnyH_ready (rs := [2]) (by kernel_rfl) (by simp) ?_
            refine AllReadyH.cons (o := _) (by simp only [List.getElem?_toArray, List.getElem?_cons_succ, List.getElem?_cons_zero]; rfl) (fun K hK => ?_) ?_
            · go_simp
              refine (listTermsI_any _ _ _ _ rs es T (HY.out.below ?b1) (hrd.out.below ?b2) H1.out HTK.out hTL).mono ?_
              case b1 => exact (by repeat' (first | (with_reducible exact Below.refl _ _) | (with_reducible assumption) | (with_reducible refine Below.alloc ?_ (by first | omega | (simp; omega) | simp) _) | (with_reducible refine Below.setCell ?_ (by first | omega | (simp; omega) | simp) _) | (with_reducible refine Below.drew ?_) | (with_reducible refine below_drewN ?_ _)))
              case b2 => exact (by repeat' (first | (with_reducible exact Below.refl _ _) | (with_reducible assumption) | (with_reducible refine Below.alloc ?_ (by first | omega | (simp; omega) | simp) _) | (with_reducible refine Below.setCell ?_ (by first | omega | (simp; omega) | simp) _) | (with_reducible refine Below.drew ?_) | (with_reducible refine below_drewN ?_ _)))
              rintro e2 w2 ⟨u1, v1, rfl, hu1, hv1, hb2⟩
              have hp2 : Below wT.heap.size wT w2 := Below.trans (show Below wT.heap.size wT _ from (by repeat' (first | (with_reducible exact Below.refl _ _) | (with_reducible assumption) | (with_reducible refine Below.alloc ?_ (by first | omega | (simp; omega) | simp) _) | (with_reducible refine Below.setCell ?_ (by first | omega | (simp; omega) | simp) _) | (with_reducible refine Below.drew ?_) | (with_reducible refine below_drewN ?_ _)))) (hb2.mono (by first | omega | (simp only [World.size_alloc, World.size_setCell, World.size_drew] at *; omega) | (simp; omega) | simp))
              have sz2 := hp2.size
              have hS2 := And.intro (oldc hp2 ly q_y0) (And.intro (oldc hp2 ly q_y1) (And.intro (oldc hp2 lx q_x0) (oldc hp2 lx q_x1)))
              have hBw2 : Below w.heap.size w w2 := hBT.trans (hp2.mono hBT.size)
              have : w.heap.size < w2.heap.size := by omega
              have : ¬ w.heap.size = w2.heap.size := by omega
              have : ¬ w2.heap.size = w.heap.size := by omega
              have : ¬ w.heap.size = w2.heap.size + 1 := by omega
              have : ¬ w2.heap.size + 1 = w.heap.size := by omega
              have : w.heap.size + 1 < w2.heap.size := by omega
              have : ¬ w.heap.size + 1 = w2.heap.size := by omega
              have : ¬ w2.heap.size = w.heap.size + 1 := by omega
              have : ¬ w.heap.size + 1 = w2.heap.size + 1 := by omega
              have : ¬ w2.heap.size + 1 = w.heap.size + 1 := by omega
              have zal : wT.heap.size < w2.heap.size := by have := hb2.size; (try simp at this); omega
              have za0 : w2.cell? ⟨wT.heap.size, 0, none⟩ = some (.slice none 0 0) := oldc hb2 (by first | omega | (simp; omega) | (simp; done)) (by simp [go_sem])
              have za1 : w2.cell? ⟨wT.heap.size, 1, none⟩ = some (.slice none 0 0) := oldc hb2 (by first | omega | (simp; omega) | (simp; done)) (by simp [go_sem])
              have za2 : w2.cell? ⟨wT.heap.size, 2, none⟩ = some (.slice none 0 0) := oldc hb2 (by first | omega | (simp; omega) | (simp; done)) (by simp [go_sem])
              have zaf : ∀ o, w2.frozen? ⟨wT.heap.size, o, none⟩ = false := fun o => (hb2.frozen (p := ⟨wT.heap.size, o, none⟩) (by first | omega | (simp; omega) | (simp; done))).trans (by simp [go_sem])
              have zbl : wT.heap.size + 1 < w2.heap.size := by have := hb2.size; (try simp at this); omega
              have zb0 : w2.cell? ⟨wT.heap.size + 1, 0, none⟩ = some (.slice none 0 0) := oldc hb2 (by first | omega | (simp; omega) | (simp; done)) (by simp [go_sem])
              have zb1 : w2.cell? ⟨wT.heap.size + 1, 1, none⟩ = some (.slice none 0 0) := oldc hb2 (by first | omega | (simp; omega) | (simp; done)) (by simp [go_sem])
              have zb2 : w2.cell? ⟨wT.heap.size + 1, 2, none⟩ = some (.slice none 0 0) := oldc hb2 (by first | omega | (simp; omega) | (simp; done)) (by simp [go_sem])
              have zbf : ∀ o, w2.frozen? ⟨wT.heap.size + 1, o, none⟩ = false := fun o => (hb2.frozen (p := ⟨wT.heap.size + 1, o, none⟩) (by first | omega | (simp; omega) | (simp; done))).trans (by simp [go_sem])
              obtain ⟨ao1, n1, cp1, rfl, -⟩ := hu1.shape
              obtain ⟨bo1, m1, dp1, rfl, -⟩ := hv1.shape
              have HU1 := Lib.hid hu1
              have HV1 := Lib.hid hv1
              clear hb2 hu1 hv1
              refine hK.out _ _ ?_ (fun hHeld => ?_)
              · first | exact trivial | ((try dsimp only); (first | (with_reducible assumption) | (go_keep; done) | (simp [go_sem, *]; done) | go_keep))
              clear hK K
              try simp only [Act.put, List.setIfInBounds_toArray, List.set_cons_zero, List.set_cons_succ]
              refine wpAnyH_ready (rs := [5]) (by kernel_rfl) (by simp) ?_
              refine AllReadyH.cons (o := _) (by simp only [List.getElem?_toArray, List.getElem?_cons_succ, List.getElem?_cons_zero]; rfl) (fun K hK => ?_) ?_
              · go_simp
                refine (listTermsI_any _ _ _ _ rs2 es2 T (HX.out.below ?b1) (hrd.out.below ?b2) H2.out HTK.out hTL).mono ?_
                case b1 => exact (by repeat' (first | (with_reducible exact Below.refl _ _) | (with_reducible assumption) | (with_reducible refine Below.alloc ?_ (by first | omega | (simp; omega) | simp) _) | (with_reducible refine Below.setCell ?_ (by first | omega | (simp; omega) | simp) _) | (with_reducible refine Below.drew ?_) | (with_reducible refine below_drewN ?_ _)))
                case b2 => exact (by repeat' (first | (with_reducible exact Below.refl _ _) | (with_reducible assumption) | (with_reducible refine Below.alloc ?_ (by first | omega | (simp; omega) | simp) _) | (with_reducible refine Below.setCell ?_ (by first | omega | (simp; omega) | simp) _) | (with_reducible refine Below.drew ?_) | (with_reducible refine below_drewN ?_ _)))
                rintro e3 w3 ⟨u2, v2, rfl, hu2, hv2, hb3⟩
                have hp3 : Below wT.heap.size wT w3 := Below.trans (show Below wT.heap.size wT _ from (by repeat' (first | (with_reducible exact Below.refl _ _) | (with_reducible assumption) | (with_reducible refine Below.alloc ?_ (by first | omega | (simp; omega) | simp) _) | (with_reducible refine Below.setCell ?_ (by first | omega | (simp; omega) | simp) _) | (with_reducible refine Below.drew ?_) | (with_reducible refine below_drewN ?_ _)))) (hb3.mono (by first | omega | (simp only [World.size_alloc, World.size_setCell, World.size_drew] at *; omega) | (simp; omega) | simp))
                have hp23 : Below w2.heap.size w2 w3 := Below.trans (show Below w2.heap.size w2 _ from (by repeat' (first | (with_reducible exact Below.refl _ _) | (with_reducible assumption) | (with_reducible refine Below.alloc ?_ (by first | omega | (simp; omega) | simp) _) | (with_reducible refine Below.setCell ?_ (by first | omega | (simp; omega) | simp) _) | (with_reducible refine Below.drew ?_) | (with_reducible refine below_drewN ?_ _)))) (hb3.mono (by first | omega | (simp only [World.size_alloc, World.size_setCell, World.size_drew] at *; omega) | (simp; omega) | simp))
                have sz3 := hp3.size
                have sz23 := hp23.size
                have hS3 := And.intro (oldc hp3 ly q_y0) (And.intro (oldc hp3 ly q_y1) (And.intro (oldc hp3 lx q_x0) (oldc hp3 lx q_x1)))
                have hBw3 : Below w.heap.size w w3 := hBT.trans (hp3.mono hBT.size)
                have : w.heap.size < w3.heap.size := by omega
                have : ¬ w.heap.size = w3.heap.size := by omega
                have : ¬ w3.heap.size = w.heap.size := by omega
                have : ¬ w.heap.size = w3.heap.size + 1 := by omega
                have : ¬ w3.heap.size + 1 = w.heap.size := by omega
                have : w.heap.size + 1 < w3.heap.size := by omega
                have : ¬ w.heap.size + 1 = w3.heap.size := by omega
                have : ¬ w3.heap.size = w.heap.size + 1 := by omega
                have : ¬ w.heap.size + 1 = w3.heap.size + 1 := by omega
                have : ¬ w3.heap.size + 1 = w.heap.size + 1 := by omega
                have za0 := oldc hp23 zal za0
                have za1 := oldc hp23 zal za1
                have za2 := oldc hp23 zal za2
                have zaf : ∀ o, w3.frozen? ⟨wT.heap.size, o, none⟩ = false := fun o => (hp23.frozen (p := ⟨wT.heap.size, o, none⟩) zal).trans (zaf o)
                have zal := Nat.lt_of_lt_of_le zal hp23.size
                have zb0 := oldc hp23 zbl zb0
                have zb1 := oldc hp23 zbl zb1
                have zb2 := oldc hp23 zbl zb2
                have zbf : ∀ o, w3.frozen? ⟨wT.heap.size + 1, o, none⟩ = false := fun o => (hp23.frozen (p := ⟨wT.heap.size + 1, o, none⟩) zbl).trans (zbf o)
                have zbl := Nat.lt_of_lt_of_le zbl hp23.size
                obtain ⟨ao2, n2, cp2, rfl, -⟩ := hu2.shape
                obtain ⟨bo2, m2, dp2, rfl, -⟩ := hv2.shape
                have HU2 := Lib.hid hu2
                have HV2 := Lib.hid hv2
                replace HU1 := Lib.hid (HU1.out.below hp23)
                replace HV1 := Lib.hid (HV1.out.below hp23)
                have nb47 : ¬ wT.heap.size = w3.heap.size := by omega
                have nb48 : ¬ w3.heap.size = wT.heap.size := by omega
                have nb49 : ¬ wT.heap.size + 1 = w3.heap.size := by omega
                have nb50 : ¬ w3.heap.size = wT.heap.size + 1 := by omega
                have nb55 : ¬ wT.heap.size = w3.heap.size + 1 := by omega
                have nb56 : ¬ w3.heap.size + 1 = wT.heap.size := by omega
                have nb57 : ¬ wT.heap.size + 1 = w3.heap.size + 1 := by omega
                have nb58 : ¬ w3.heap.size + 1 = wT.heap.size + 1 := by omega
                clear hb3 hu2 hv2
                refine hK.out _ _ ?_ (fun hHeld => ?_)
                · first | exact trivial | ((try dsimp only); (first | (with_reducible assumption) | (go_keep; done) | (simp [go_sem, *]; done) | go_keep))
                clear hK K
                try simp only [Act.put, List.setIfInBounds_toArray, List.set_cons_zero, List.set_cons_succ]
                refine wpAnyH_ready (rs := [8]) (by kernel_rfl) (by simp) ?_
                refine AllReadyH.cons (o := _) (by simp only [List.getElem?_toArray, List.getElem?_cons_succ, List.getElem?_cons_zero]; rfl) (fun K hK => ?_) ?_
                · go_simp
                  refine hK.out _ _ ?_ (fun hHeld => ?_)
                  · first | exact trivial | ((try dsimp only); (first | (with_reducible assumption) | (go_keep; done) | (simp [go_sem, *]; done) | go_keep))
                  clear hK K
                  try simp only [Act.put, List.setIfInBounds_toArray, List.set_cons_zero, List.set_cons_succ]
                  refine wpAnyH_ready (rs := [9]) (by kernel_rfl) (by simp) ?_
                  refine AllReadyH.cons (o := _) (by simp only [List.getElem?_toArray, List.getElem?_cons_succ, List.getElem?_cons_zero]; rfl) (fun K hK => ?_) ?_
                  · go_simp
                    refine hK.out _ _ ?_ (fun hHeld => ?_)
                    · first | exact trivial | ((try dsimp only); (first | (with_reducible assumption) | (go_keep; done) | (simp [go_sem, *]; done) | go_keep))
                    clear hK K
                    try simp only [Act.put, List.setIfInBounds_toArray, List.set_cons_zero, List.set_cons_succ]
                    refine wpAnyH_done (by kernel_rfl) ?_ _
                    go_wp2_with fail
                    go_meet
                    exact ⟨_, _, _, _, _, _, rfl, rfl, by simp [go_sem, *], by simp [go_sem, *], by simp [go_sem, *], by simp [go_sem, *], by simp [go_sem, *], by simp [go_sem, *], (by first | omega | (simp; omega) | (simp; done)), (by first | omega | (simp; omega) | (simp; done)), Lib.hid (HU1.out.keep (by repeat' (first | (with_reducible exact Zone.refl _ _ _) | (with_reducible refine zone_drewN ?_ _) | (with_reducible refine Zone.setCell ?_ (by first | (left; omega) | (right; omega) | (left; simp; omega) | (right; simp; omega) | (left; simp; done) | (right; simp; done)) _) | (with_reducible refine Zone.alloc ?_ (by first | omega | (simp; omega) | simp) _) | (with_reducible refine Zone.drew ?_)))).all, Lib.hid (HV1.out.keep (by repeat' (first | (with_reducible exact Zone.refl _ _ _) | (with_reducible refine zone_drewN ?_ _) | (with_reducible refine Zone.setCell ?_ (by first | (left; omega) | (right; omega) | (left; simp; omega) | (right; simp; omega) | (left; simp; done) | (right; simp; done)) _) | (with_reducible refine Zone.alloc ?_ (by first | omega | (simp; omega) | simp) _) | (with_reducible refine Zone.drew ?_)))).all, Lib.hid (HU2.out.keep (by repeat' (first | (with_reducible exact Zone.refl _ _ _) | (with_reducible refine zone_drewN ?_ _) | (with_reducible refine Zone.setCell ?_ (by first | (left; omega) | (right; omega) | (left; simp; omega) | (right; simp; omega) | (left; simp; done) | (right; simp; done)) _) | (with_reducible refine Zone.alloc ?_ (by first | omega | (simp; omega) | simp) _) | (with_reducible refine Zone.drew ?_)))).all, Lib.hid (HV2.out.keep (by repeat' (first | (with_reducible exact Zone.refl _ _ _) | (with_reducible refine zone_drewN ?_ _) | (with_reducible refine Zone.setCell ?_ (by first | (left; omega) | (right; omega) | (left; simp; omega) | (right; simp; omega) | (left; simp; done) | (right; simp; done)) _) | (with_reducible refine Zone.alloc ?_ (by first | omega | (simp; omega) | simp) _) | (with_reducible refine Zone.drew ?_)))).all, (by repeat' (first | (with_reducible exact Below.refl _ _) | (with_reducible assumption) | (with_reducible refine Below.alloc ?_ (by first | omega | (simp; omega) | simp) _) | (with_reducible refine Below.setCell ?_ (by first | omega | (simp; omega) | simp) _) | (with_reducible refine Below.drew ?_) | (with_reducible refine below_drewN ?_ _)))⟩
                  exact AllReadyH.nil
                exact AllReadyH.nil
              exact AllReadyH.nil
            exact AllReadyH.nil
          exact AllReadyH.nil
        refine AllReadyH.cons (o := _) (by simp only [List.getElem?_toArray, List.getElem?_cons_succ, List.getElem?_cons_zero]; rfl) (fun K hK => ?_) ?_
        · go_simp
          refine hK.out _ _ ?_ (fun hHeld => ?_)
          · first | exact trivial | ((try dsimp only); (first | (with_reducible assumption) | (go_keep; done) | (simp [go_sem, *]; done) | go_keep))
          clear hK K
          try simp only [Act.put, List.setIfInBounds_toArray, List.set_cons_zero, List.set_cons_succ]
          refine wpAnyH_ready (rs := [2, 6]) (by kernel_rfl) (by simp) ?_
          refine AllReadyH.cons (o := _) (by simp only [List.getElem?_toArray, List.getElem?_cons_succ, List.getElem?_cons_zero]; rfl) (fun K hK => ?_) ?_
          · go_simp
            refine (listTermsI_any _ _ _ _ rs es T (HY.out.below ?b1) (hrd.out.below ?b2) H1.out HTK.out hTL).mono ?_
            case b1 => exact (by repeat' (first | (with_reducible exact Below.refl _ _) | (with_reducible assumption) | (with_reducible refine Below.alloc ?_ (by first | omega | (simp; omega) | simp) _) | (with_reducible refine Below.setCell ?_ (by first | omega | (simp; omega) | simp) _) | (with_reducible refine Below.drew ?_) | (with_reducible refine below_drewN ?_ _)))
            case b2 => exact (by repeat' (first | (with_reducible exact Below.refl _ _) | (with_reducible assumption) | (with_reducible refine Below.alloc ?_ (by first | omega | (simp; omega) | simp) _) | (with_reducible refine Below.setCell ?_ (by first | omega | (simp; omega) | simp) _) | (with_reducible refine Below.drew ?_) | (with_reducible refine below_drewN ?_ _)))
            rintro e2 w2 ⟨u1, v1, rfl, hu1, hv1, hb2⟩
            have hp2 : Below wT.heap.size wT w2 := Below.trans (show Below wT.heap.size wT _ from (by repeat' (first | (with_reducible exact Below.refl _ _) | (with_reducible assumption) | (with_reducible refine Below.alloc ?_ (by first | omega | (simp; omega) | simp) _) | (with_reducible refine Below.setCell ?_ (by first | omega | (simp; omega) | simp) _) | (with_reducible refine Below.drew ?_) | (with_reducible refine below_drewN ?_ _)))) (hb2.mono (by first | omega | (simp only [World.size_alloc, World.size_setCell, World.size_drew] at *; omega) | (simp; omega) | simp))
            have sz2 := hp2.size
            have hS2 := And.intro (oldc hp2 ly q_y0) (And.intro (oldc hp2 ly q_y1) (And.intro (oldc hp2 lx q_x0) (oldc hp2 lx q_x1)))
            have hBw2 : Below w.heap.size w w2 := hBT.trans (hp2.mono hBT.size)
            have : w.heap.size < w2.heap.size := by omega
            have : ¬ w.heap.size = w2.heap.size := by omega
            have : ¬ w2.heap.size = w.heap.size := by omega
            have : ¬ w.heap.size = w2.heap.size + 1 := by omega
            have : ¬ w2.heap.size + 1 = w.heap.size := by omega
            have : w.heap.size + 1 < w2.heap.size := by omega
            have : ¬ w.heap.size + 1 = w2.heap.size := by omega
            have : ¬ w2.heap.size = w.heap.size + 1 := by omega
            have : ¬ w.heap.size + 1 = w2.heap.size + 1 := by omega
            have : ¬ w2.heap.size + 1 = w.heap.size + 1 := by omega
            have zal : wT.heap.size < w2.heap.size := by have := hb2.size; (try simp at this); omega
            have za0 : w2.cell? ⟨wT.heap.size, 0, none⟩ = some (.slice none 0 0) := oldc hb2 (by first | omega | (simp; omega) | (simp; done)) (by simp [go_sem])
            have za1 : w2.cell? ⟨wT.heap.size, 1, none⟩ = some (.slice none 0 0) := oldc hb2 (by first | omega | (simp; omega) | (simp; done)) (by simp [go_sem])
            have za2 : w2.cell? ⟨wT.heap.size, 2, none⟩ = some (.slice none 0 0) := oldc hb2 (by first | omega | (simp; omega) | (simp; done)) (by simp [go_sem])
            have zaf : ∀ o, w2.frozen? ⟨wT.heap.size, o, none⟩ = false := fun o => (hb2.frozen (p := ⟨wT.heap.size, o, none⟩) (by first | omega | (simp; omega) | (simp; done))).trans (by simp [go_sem])
            obtain ⟨ao1, n1, cp1, rfl, -⟩ := hu1.shape
            obtain ⟨bo1, m1, dp1, rfl, -⟩ := hv1.shape
            have HU1 := Lib.hid hu1
            have HV1 := Lib.hid hv1
            clear hb2 hu1 hv1
            refine hK.out _ _ ?_ (fun hHeld => ?_)
            · first | exact trivial | ((try dsimp only); (first | (with_reducible assumption) | (go_keep; done) | (simp [go_sem, *]; done) | go_keep))
            clear hK K
            try simp only [Act.put, List.setIfInBounds_toArray, List.set_cons_zero, List.set_cons_succ]
            refine wpAnyH_ready (rs := [5, 6]) (by kernel_rfl) (by simp) ?_
            refine AllReadyH.cons (o := _) (by simp only [List.getElem?_toArray, List.getElem?_cons_succ, List.getElem?_cons_zero]; rfl) (fun K hK => ?_) ?_
            · go_simp
              refine (listTermsI_any _ _ _ _ rs2 es2 T (HX.out.below ?b1) (hrd.out.below ?b2) H2.out HTK.out hTL).mono ?_
              case b1 => exact (by repeat' (first | (with_reducible exact Below.refl _ _) | (with_reducible assumption) | (with_reducible refine Below.alloc ?_ (by first | omega | (simp; omega) | simp) _) | (with_reducible refine Below.setCell ?_ (by first | omega | (simp; omega) | simp) _) | (with_reducible refine Below.drew ?_) | (with_reducible refine below_drewN ?_ _)))
              case b2 => exact (by repeat' (first | (with_reducible exact Below.refl _ _) | (with_reducible assumption) | (with_reducible refine Below.alloc ?_ (by first | omega | (simp; omega) | simp) _) | (with_reducible refine Below.setCell ?_ (by first | omega | (simp; omega) | simp) _) | (with_reducible refine Below.drew ?_) | (with_reducible refine below_drewN ?_ _)))
              rintro e3 w3 ⟨u2, v2, rfl, hu2, hv2, hb3⟩
              have hp3 : Below wT.heap.size wT w3 := Below.trans (show Below wT.heap.size wT _ from (by repeat' (first | (with_reducible exact Below.refl _ _) | (with_reducible assumption) | (with_reducible refine Below.alloc ?_ (by first | omega | (simp; omega) | simp) _) | (with_reducible refine Below.setCell ?_ (by first | omega | (simp; omega) | simp) _) | (with_reducible refine Below.drew ?_) | (with_reducible refine below_drewN ?_ _)))) (hb3.mono (by first | omega | (simp only [World.size_alloc, World.size_setCell, World.size_drew] at *; omega) | (simp; omega) | simp))
              have hp23 : Below w2.heap.size w2 w3 := Below.trans (show Below w2.heap.size w2 _ from (by repeat' (first | (with_reducible exact Below.refl _ _) | (with_reducible assumption) | (with_reducible refine Below.alloc ?_ (by first | omega | (simp; omega) | simp) _) | (with_reducible refine Below.setCell ?_ (by first | omega | (simp; omega) | simp) _) | (with_reducible refine Below.drew ?_) | (with_reducible refine below_drewN ?_ _)))) (hb3.mono (by first | omega | (simp only [World.size_alloc, World.size_setCell, World.size_drew] at *; omega) | (simp; omega) | simp))
              have sz3 := hp3.size
              have sz23 := hp23.size
              have hS3 := And.intro (oldc hp3 ly q_y0) (And.intro (oldc hp3 ly q_y1) (And.intro (oldc hp3 lx q_x0) (oldc hp3 lx q_x1)))
              have hBw3 : Below w.heap.size w w3 := hBT.trans (hp3.mono hBT.size)
              have : w.heap.size < w3.heap.size := by omega
              have : ¬ w.heap.size = w3.heap.size := by omega
              have : ¬ w3.heap.size = w.heap.size := by omega
              have : ¬ w.heap.size = w3.heap.size + 1 := by omega
              have : ¬ w3.heap.size + 1 = w.heap.size := by omega
              have : w.heap.size + 1 < w3.heap.size := by omega
              have : ¬ w.heap.size + 1 = w3.heap.size := by omega
              have : ¬ w3.heap.size = w.heap.size + 1 := by omega
              have : ¬ w.heap.size + 1 = w3.heap.size + 1 := by omega
              have : ¬ w3.heap.size + 1 = w.heap.size + 1 := by omega
              have za0 := oldc hp23 zal za0
              have za1 := oldc hp23 zal za1
              have za2 := oldc hp23 zal za2
              have zaf : ∀ o, w3.frozen? ⟨wT.heap.size, o, none⟩ = false := fun o => (hp23.frozen (p := ⟨wT.heap.size, o, none⟩) zal).trans (zaf o)
              have zal := Nat.lt_of_lt_of_le zal hp23.size
              obtain ⟨ao2, n2, cp2, rfl, -⟩ := hu2.shape
              obtain ⟨bo2, m2, dp2, rfl, -⟩ := hv2.shape
              have HU2 := Lib.hid hu2
              have HV2 := Lib.hid hv2
              replace HU1 := Lib.hid (HU1.out.below hp23)
              replace HV1 := Lib.hid (HV1.out.below hp23)
              have nb47 : ¬ wT.heap.size = w3.heap.size := by omega
              have nb48 : ¬ w3.heap.size = wT.heap.size := by omega
              have nb55 : ¬ wT.heap.size = w3.heap.size + 1 := by omega
              have nb56 : ¬ w3.heap.size + 1 = wT.heap.size := by omega
              clear hb3 hu2 hv2
              refine hK.out _ _ ?_ (fun hHeld => ?_)
              · first | exact trivial | ((try dsimp only); (first | (with_reducible assumption) | (go_keep; done) | (simp [go_sem, *]; done) | go_keep))
              clear hK K
              try simp only [Act.put, List.setIfInBounds_toArray, List.set_cons_zero, List.set_cons_succ]
              refine wpAnyH_ready (rs := [6]) (by kernel_rfl) (by simp) ?_
              refine AllReadyH.cons (o := _) (by simp only [List.getElem?_toArray, List.getElem?_cons_succ, List.getElem?_cons_zero]; rfl) (fun K hK => ?_) ?_
              · go_simp
                refine hK.out _ _ ?_ (fun hHeld => ?_)
                · first | exact trivial | ((try dsimp only); (first | (with_reducible assumption) | (go_keep; done) | (simp [go_sem, *]; done) | go_keep))
                clear hK K
                try simp only [Act.put, List.setIfInBounds_toArray, List.set_cons_zero, List.set_cons_succ]
                refine wpAnyH_ready (rs := [8]) (by kernel_rfl) (by simp) ?_
                refine AllReadyH.cons (o := _) (by simp only [List.getElem?_toArray, List.getElem?_cons_succ, List.getElem?_cons_zero]; rfl) (fun K hK => ?_) ?_
                · go_simp
                  refine hK.out _ _ ?_ (fun hHeld => ?_)
                  · first | exact trivial | ((try dsimp only); (first | (with_reducible assumption) | (go_keep; done) | (simp [go_sem, *]; done) | go_keep))
                  clear hK K
                  try simp only [Act.put, List.setIfInBounds_toArray, List.set_cons_zero, List.set_cons_succ]
                  refine wpAnyH_ready (rs := [9]) (by kernel_rfl) (by simp) ?_
                  refine AllReadyH.cons (o := _) (by simp only [List.getElem?_toArray, List.getElem?_cons_succ, List.getElem?_cons_zero]; rfl) (fun K hK => ?_) ?_
                  · go_simp
                    refine hK.out _ _ ?_ (fun hHeld => ?_)
                    · first | exact trivial | ((try dsimp only); (first | (with_reducible assumption) | (go_keep; done) | (simp [go_sem, *]; done) | go_keep))
                    clear hK K
                    try simp only [Act.put, List.setIfInBounds_toArray, List.set_cons_zero, List.set_cons_succ]
                    refine wpAnyH_done (by kernel_rfl) ?_ _
                    go_wp2_with fail
                    go_meet
                    exact ⟨_, _, _, _, _, _, rfl, rfl, by simp [go_sem, *], by simp [go_sem, *], by simp [go_sem, *], by simp [go_sem, *], by simp [go_sem, *], by simp [go_sem, *], (by first | omega | (simp; omega) | (simp; done)), (by first | omega | (simp; omega) | (simp; done)), Lib.hid (HU1.out.keep (by repeat' (first | (with_reducible exact Zone.refl _ _ _) | (with_reducible refine zone_drewN ?_ _) | (with_reducible refine Zone.setCell ?_ (by first | (left; omega) | (right; omega) | (left; simp; omega) | (right; simp; omega) | (left; simp; done) | (right; simp; done)) _) | (with_reducible refine Zone.alloc ?_ (by first | omega | (simp; omega) | simp) _) | (with_reducible refine Zone.drew ?_)))).all, Lib.hid (HV1.out.keep (by repeat' (first | (with_reducible exact Zone.refl _ _ _) | (with_reducible refine zone_drewN ?_ _) | (with_reducible refine Zone.setCell ?_ (by first | (left; omega) | (right; omega) | (left; simp; omega) | (right; simp; omega) | (left; simp; done) | (right; simp; done)) _) | (with_reducible refine Zone.alloc ?_ (by first | omega | (simp; omega) | simp) _) | (with_reducible refine Zone.drew ?_)))).all, Lib.hid (HU2.out.keep (by repeat' (first | (with_reducible exact Zone.refl _ _ _) | (with_reducible refine zone_drewN ?_ _) | (with_reducible refine Zone.setCell ?_ (by first | (left; omega) | (right; omega) | (left; simp; omega) | (right; simp; omega) | (left; simp; done) | (right; simp; done)) _) | (with_reducible refine Zone.alloc ?_ (by first | omega | (simp; omega) | simp) _) | (with_reducible refine Zone.drew ?_)))).all, Lib.hid (HV2.out.keep (by repeat' (first | (with_reducible exact Zone.refl _ _ _) | (with_reducible refine zone_drewN ?_ _) | (with_reducible refine Zone.setCell ?_ (by first | (left; omega) | (right; omega) | (left; simp; omega) | (right; simp; omega) | (left; simp; done) | (right; simp; done)) _) | (with_reducible refine Zone.alloc ?_ (by first | omega | (simp; omega) | simp) _) | (with_reducible refine Zone.drew ?_)))).all, (by repeat' (first | (with_reducible exact Below.refl _ _) | (with_reducible assumption) | (with_reducible refine Below.alloc ?_ (by first | omega | (simp; omega) | simp) _) | (with_reducible refine Below.setCell ?_ (by first | omega | (simp; omega) | simp) _) | (with_reducible refine Below.drew ?_) | (with_reducible refine below_drewN ?_ _)))⟩
                  exact AllReadyH.nil
                exact AllReadyH.nil
              exact AllReadyH.nil
            refine AllReadyH.cons (o := _) (by simp only [List.getElem?_toArray, List.getElem?_cons_succ, List.getElem?_cons_zero]; rfl) (fun K hK => ?_) ?_
            · go_simp
              refine hK.out _ _ ?_ (fun hHeld => ?_)
              · first | exact trivial | ((try dsimp only); (first | (with_reducible assumption) | (go_keep; done) | (simp [go_sem, *]; done) | go_keep))
              clear hK K
              try simp only [Act.put, List.setIfInBounds_toArray, List.set_cons_zero, List.set_cons_succ]
              refine wpAnyH_ready (rs := [5]) (by kernel_rfl) (by simp) ?_
              refine AllReadyH.cons (o := _) (by simp only [List.getElem?_toArray, List.getElem?_cons_succ, List.getElem?_cons_zero]; rfl) (fun K hK => ?_) ?_
              · go_simp
                refine (listTermsI_any _ _ _ _ rs2 es2 T (HX.out.below ?b1) (hrd.out.below ?b2) H2.out HTK.out hTL).mono ?_
                case b1 => exact (by repeat' (first | (with_reducible exact Below.refl _ _) | (with_reducible assumption) | (with_reducible refine Below.alloc ?_ (by first | omega | (simp; omega) | simp) _) | (with_reducible refine Below.setCell ?_ (by first | omega | (simp; omega) | simp) _) | (with_reducible refine Below.drew ?_) | (with_reducible refine below_drewN ?_ _)))
                case b2 => exact (by repeat' (first | (with_reducible exact Below.refl _ _) | (with_reducible assumption) | (with_reducible refine Below.alloc ?_ (by first | omega | (simp; omega) | simp) _) | (with_reducible refine Below.setCell ?_ (by first | omega | (simp; omega) | simp) _) | (with_reducible refine Below.drew ?_) | (with_reducible refine below_drewN ?_ _)))
                rintro e3 w3 ⟨u2, v2, rfl, hu2, hv2, hb3⟩
                have hp3 : Below wT.heap.size wT w3 := Below.trans (show Below wT.heap.size wT _ from (by repeat' (first | (with_reducible exact Below.refl _ _) | (with_reducible assumption) | (with_reducible refine Below.alloc ?_ (by first | omega | (simp; omega) | simp) _) | (with_reducible refine Below.setCell ?_ (by first | omega | (simp; omega) | simp) _) | (with_reducible refine Below.drew ?_) | (with_reducible refine below_drewN ?_ _)))) (hb3.mono (by first | omega | (simp only [World.size_alloc, World.size_setCell, World.size_drew] at *; omega) | (simp; omega) | simp))
                have hp23 : Below w2.heap.size w2 w3 := Below.trans (show Below w2.heap.size w2 _ from (by repeat' (first | (with_reducible exact Below.refl _ _) | (with_reducible assumption) | (with_reducible refine Below.alloc ?_ (by first | omega | (simp; omega) | simp) _) | (with_reducible refine Below.setCell ?_ (by first | omega | (simp; omega) | simp) _) | (with_reducible refine Below.drew ?_) | (with_reducible refine below_drewN ?_ _)))) (hb3.mono (by first | omega | (simp only [World.size_alloc, World.size_setCell, World.size_drew] at *; omega) | (simp; omega) | simp))
                have sz3 := hp3.size
                have sz23 := hp23.size
                have hS3 := And.intro (oldc hp3 ly q_y0) (And.intro (oldc hp3 ly q_y1) (And.intro (oldc hp3 lx q_x0) (oldc hp3 lx q_x1)))
                have hBw3 : Below w.heap.size w w3 := hBT.trans (hp3.mono hBT.size)
                have : w.heap.size < w3.heap.size := by omega
                have : ¬ w.heap.size = w3.heap.size := by omega
                have : ¬ w3.heap.size = w.heap.size := by omega
                have : ¬ w.heap.size = w3.heap.size + 1 := by omega
                have : ¬ w3.heap.size + 1 = w.heap.size := by omega
                have : w.heap.size + 1 < w3.heap.size := by omega
                have : ¬ w.heap.size + 1 = w3.heap.size := by omega
                have : ¬ w3.heap.size = w.heap.size + 1 := by omega
                have : ¬ w.heap.size + 1 = w3.heap.size + 1 := by omega
                have : ¬ w3.heap.size + 1 = w.heap.size + 1 := by omega
                have za0 := oldc hp23 zal za0
                have za1 := oldc hp23 zal za1
                have za2 := oldc hp23 zal za2
                have zaf : ∀ o, w3.frozen? ⟨wT.heap.size, o, none⟩ = false := fun o => (hp23.frozen (p := ⟨wT.heap.size, o, none⟩) zal).trans (zaf o)
                have zal := Nat.lt_of_lt_of_le zal hp23.size
                have zcl : w2.heap.size < w3.heap.size := by have := hb3.size; (try simp at this); omega
                have zc0 : w3.cell? ⟨w2.heap.size, 0, none⟩ = some (.slice none 0 0) := oldc hb3 (by first | omega | (simp; omega) | (simp; done)) (by simp [go_sem])
                have zc1 : w3.cell? ⟨w2.heap.size, 1, none⟩ = some (.slice none 0 0) := oldc hb3 (by first | omega | (simp; omega) | (simp; done)) (by simp [go_sem])
                have zc2 : w3.cell? ⟨w2.heap.size, 2, none⟩ = some (.slice none 0 0) := oldc hb3 (by first | omega | (simp; omega) | (simp; done)) (by simp [go_sem])
                have zcf : ∀ o, w3.frozen? ⟨w2.heap.size, o, none⟩ = false := fun o => (hb3.frozen (p := ⟨w2.heap.size, o, none⟩) (by first | omega | (simp; omega) | (simp; done))).trans (by simp [go_sem])
                obtain ⟨ao2, n2, cp2, rfl, -⟩ := hu2.shape
                obtain ⟨bo2, m2, dp2, rfl, -⟩ := hv2.shape
                have HU2 := Lib.hid hu2
                have HV2 := Lib.hid hv2
                replace HU1 := Lib.hid (HU1.out.below hp23)
                replace HV1 := Lib.hid (HV1.out.below hp23)
                have nb47 : ¬ wT.heap.size = w3.heap.size := by omega
                have nb48 : ¬ w3.heap.size = wT.heap.size := by omega
                have nb51 : ¬ w2.heap.size = w3.heap.size := by omega
                have nb52 : ¬ w3.heap.size = w2.heap.size := by omega
                have nb55 : ¬ wT.heap.size = w3.heap.size + 1 := by omega
                have nb56 : ¬ w3.heap.size + 1 = wT.heap.size := by omega
                have nb59 : ¬ w2.heap.size = w3.heap.size + 1 := by omega
                have nb60 : ¬ w3.heap.size + 1 = w2.heap.size := by omega
                have nb63 : ¬ wT.heap.size = w2.heap.size := by omega
                have nb64 : ¬ w2.heap.size = wT.heap.size := by omega
                clear hb3 hu2 hv2
                refine hK.out _ _ ?_ (fun hHeld => ?_)
                · first | exact trivial | ((try dsimp only); (first | (with_reducible assumption) | (go_keep; done) | (simp [go_sem, *]; done) | go_keep))
                clear hK K
                try simp only [Act.put, List.setIfInBounds_toArray, List.set_cons_zero, List.set_cons_succ]
                refine wpAnyH_ready (rs := [8]) (by kernel_rfl) (by simp) ?_
                refine AllReadyH.cons (o := _) (by simp only [List.getElem?_toArray, List.getElem?_cons_succ, List.getElem?_cons_zero]; rfl) (fun K hK => ?_) ?_
                · go_simp
                  refine hK.out _ _ ?_ (fun hHeld => ?_)
                  · first | exact trivial | ((try dsimp only); (first | (with_reducible assumption) | (go_keep; done) | (simp [go_sem, *]; done) | go_keep))
                  clear hK K
                  try simp only [Act.put, List.setIfInBounds_toArray, List.set_cons_zero, List.set_cons_succ]
                  refine wpAnyH_ready (rs := [9]) (by kernel_rfl) (by simp) ?_
                  refine AllReadyH.cons (o := _) (by simp only [List.getElem?_toArray, List.getElem?_cons_succ, List.getElem?_cons_zero]; rfl) (fun K hK => ?_) ?_
                  · go_simp
                    refine hK.out _ _ ?_ (fun hHeld => ?_)
                    · first | exact trivial | ((try dsimp only); (first | (with_reducible assumption) | (go_keep; done) | (simp [go_sem, *]; done) | go_keep))
                    clear hK K
                    try simp only [Act.put, List.setIfInBounds_toArray, List.set_cons_zero, List.set_cons_succ]
                    refine wpAnyH_done (by kernel_rfl) ?_ _
                    go_wp2_with fail
                    go_meet
                    exact ⟨_, _, _, _, _, _, rfl, rfl, by simp [go_sem, *], by simp [go_sem, *], by simp [go_sem, *], by simp [go_sem, *], by simp [go_sem, *], by simp [go_sem, *], (by first | omega | (simp; omega) | (simp; done)), (by first | omega | (simp; omega) | (simp; done)), Lib.hid (HU1.out.keep (by repeat' (first | (with_reducible exact Zone.refl _ _ _) | (with_reducible refine zone_drewN ?_ _) | (with_reducible refine Zone.setCell ?_ (by first | (left; omega) | (right; omega) | (left; simp; omega) | (right; simp; omega) | (left; simp; done) | (right; simp; done)) _) | (with_reducible refine Zone.alloc ?_ (by first | omega | (simp; omega) | simp) _) | (with_reducible refine Zone.drew ?_)))).all, Lib.hid (HV1.out.keep (by repeat' (first | (with_reducible exact Zone.refl _ _ _) | (with_reducible refine zone_drewN ?_ _) | (with_reducible refine Zone.setCell ?_ (by first | (left; omega) | (right; omega) | (left; simp; omega) | (right; simp; omega) | (left; simp; done) | (right; simp; done)) _) | (with_reducible refine Zone.alloc ?_ (by first | omega | (simp; omega) | simp) _) | (with_reducible refine Zone.drew ?_)))).all, Lib.hid (HU2.out.keep (by repeat' (first | (with_reducible exact Zone.refl _ _ _) | (with_reducible refine zone_drewN ?_ _) | (with_reducible refine Zone.setCell ?_ (by first | (left; omega) | (right; omega) | (left; simp; omega) | (right; simp; omega) | (left; simp; done) | (right; simp; done)) _) | (with_reducible refine Zone.alloc ?_ (by first | omega | (simp; omega) | simp) _) | (with_reducible refine Zone.drew ?_)))).all, Lib.hid (HV2.out.keep (by repeat' (first | (with_reducible exact Zone.refl _ _ _) | (with_reducible refine zone_drewN ?_ _) | (with_reducible refine Zone.setCell ?_ (by first | (left; omega) | (right; omega) | (left; simp; omega) | (right; simp; omega) | (left; simp; done) | (right; simp; done)) _) | (with_reducible refine Zone.alloc ?_ (by first | omega | (simp; omega) | simp) _) | (with_reducible refine Zone.drew ?_)))).all, (by repeat' (first | (with_reducible exact Below.refl _ _) | (with_reducible assumption) | (with_reducible refine Below.alloc ?_ (by first | omega | (simp; omega) | simp) _) | (with_reducible refine Below.setCell ?_ (by first | omega | (simp; omega) | simp) _) | (with_reducible refine Below.drew ?_) | (with_reducible refine below_drewN ?_ _)))⟩
                  exact AllReadyH.nil
                exact AllReadyH.nil
              exact AllReadyH.nil
            exact AllReadyH.nil
          refine AllReadyH.cons (o := _) (by simp only [List.getElem?_toArray, List.getElem?_cons_succ, List.getElem?_cons_zero]; rfl) (fun K hK => ?_) ?_
          · go_simp
            refine hK.out _ _ ?_ (fun hHeld => ?_)
            · first | exact trivial | ((try dsimp only); (first | (with_reducible assumption) | (go_keep; done) | (simp [go_sem, *]; done) | go_keep))
            clear hK K
            try simp only [Act.put, List.setIfInBounds_toArray, List.set_cons_zero, List.set_cons_succ]
            refine wpAnyH_ready (rs := [2]) (by kernel_rfl) (by simp) ?_
            refine AllReadyH.cons (o := _) (by simp only [List.getElem?_toArray, List.getElem?_cons_succ, List.getElem?_cons_zero]; rfl) (fun K hK => ?_) ?_
            · go_simp
              refine (listTermsI_any _ _ _ _ rs es T (HY.out.below ?b1) (hrd.out.below ?b2) H1.out HTK.out hTL).mono ?_
              case b1 => exact (by repeat' (first | (with_reducible exact Below.refl _ _) | (with_reducible assumption) | (with_reducible refine Below.alloc ?_ (by first | omega | (simp; omega) | simp) _) | (with_reducible refine Below.setCell ?_ (by first | omega | (simp; omega) | simp) _) | (with_reducible refine Below.drew ?_) | (with_reducible refine below_drewN ?_ _)))
              case b2 => exact (by repeat' (first | (with_reducible exact Below.refl _ _) | (with_reducible assumption) | (with_reducible refine Below.alloc ?_ (by first | omega | (simp; omega) | simp) _) | (with_reducible refine Below.setCell ?_ (by first | omega | (simp; omega) | simp) _) | (with_reducible refine Below.drew ?_) | (with_reducible refine below_drewN ?_ _)))
              rintro e2 w2 ⟨u1, v1, rfl, hu1, hv1, hb2⟩
              have hp2 : Below wT.heap.size wT w2 := Below.trans (show Below wT.heap.size wT _ from (by repeat' (first | (with_reducible exact Below.refl _ _) | (with_reducible assumption) | (with_reducible refine Below.alloc ?_ (by first | omega | (simp; omega) | simp) _) | (with_reducible refine Below.setCell ?_ (by first | omega | (simp; omega) | simp) _) | (with_reducible refine Below.drew ?_) | (with_reducible refine below_drewN ?_ _)))) (hb2.mono (by first | omega | (simp only [World.size_alloc, World.size_setCell, World.size_drew] at *; omega) | (simp; omega) | simp))
              have sz2 := hp2.size
              have hS2 := And.intro (oldc hp2 ly q_y0) (And.intro (oldc hp2 ly q_y1) (And.intro (oldc hp2 lx q_x0) (oldc hp2 lx q_x1)))
              have hBw2 : Below w.heap.size w w2 := hBT.trans (hp2.mono hBT.size)
              have : w.heap.size < w2.heap.size := by omega
              have : ¬ w.heap.size = w2.heap.size := by omega
              have : ¬ w2.heap.size = w.heap.size := by omega
              have : ¬ w.heap.size = w2.heap.size + 1 := by omega
              have : ¬ w2.heap.size + 1 = w.heap.size := by omega
              have : w.heap.size + 1 < w2.heap.size := by omega
              have : ¬ w.heap.size + 1 = w2.heap.size := by omega
              have : ¬ w2.heap.size = w.heap.size + 1 := by omega
              have : ¬ w.heap.size + 1 = w2.heap.size + 1 := by omega
              have : ¬ w2.heap.size + 1 = w.heap.size + 1 := by omega
              have zal : wT.heap.size < w2.heap.size := by have := hb2.size; (try simp at this); omega
              have za0 : w2.cell? ⟨wT.heap.size, 0, none⟩ = some (.slice none 0 0) := oldc hb2 (by first | omega | (simp; omega) | (simp; done)) (by simp [go_sem])
              have za1 : w2.cell? ⟨wT.heap.size, 1, none⟩ = some (.slice none 0 0) := oldc hb2 (by first | omega | (simp; omega) | (simp; done)) (by simp [go_sem])
              have za2 : w2.cell? ⟨wT.heap.size, 2, none⟩ = some (.slice none 0 0) := oldc hb2 (by first | omega | (simp; omega) | (simp; done)) (by simp [go_sem])
              have zaf : ∀ o, w2.frozen? ⟨wT.heap.size, o, none⟩ = false := fun o => (hb2.frozen (p := ⟨wT.heap.size, o, none⟩) (by first | omega | (simp; omega) | (simp; done))).trans (by simp [go_sem])
              have zbl : wT.heap.size + 1 < w2.heap.size := by have := hb2.size; (try simp at this); omega
              have zb0 : w2.cell? ⟨wT.heap.size + 1, 0, none⟩ = some (.slice none 0 0) := oldc hb2 (by first | omega | (simp; omega) | (simp; done)) (by simp [go_sem])
              have zb1 : w2.cell? ⟨wT.heap.size + 1, 1, none⟩ = some (.slice none 0 0) := oldc hb2 (by first | omega | (simp; omega) | (simp; done)) (by simp [go_sem])
              have zb2 : w2.cell? ⟨wT.heap.size + 1, 2, none⟩ = some (.slice none 0 0) := oldc hb2 (by first | omega | (simp; omega) | (simp; done)) (by simp [go_sem])
              have zbf : ∀ o, w2.frozen? ⟨wT.heap.size + 1, o, none⟩ = false := fun o => (hb2.frozen (p := ⟨wT.heap.size + 1, o, none⟩) (by first | omega | (simp; omega) | (simp; done))).trans (by simp [go_sem])
              obtain ⟨ao1, n1, cp1, rfl, -⟩ := hu1.shape
              obtain ⟨bo1, m1, dp1, rfl, -⟩ := hv1.shape
              have HU1 := Lib.hid hu1
              have HV1 := Lib.hid hv1
              clear hb2 hu1 hv1
              refine hK.out _ _ ?_ (fun hHeld => ?_)
              · first | exact trivial | ((try dsimp only); (first | (with_reducible assumption) | (go_keep; done) | (simp [go_sem, *]; done) | go_keep))
              clear hK K
              try simp only [Act.put, List.setIfInBounds_toArray, List.set_cons_zero, List.set_cons_succ]
              refine wpAnyH_ready (rs := [5]) (by kernel_rfl) (by simp) ?_
              refine AllReadyH.cons (o := _) (by simp only [List.getElem?_toArray, List.getElem?_cons_succ, List.getElem?_cons_zero]; rfl) (fun K hK => ?_) ?_
              · go_simp
                refine (listTermsI_any _ _ _ _ rs2 es2 T (HX.out.below ?b1) (hrd.out.below ?b2) H2.out HTK.out hTL).mono ?_
                case b1 => exact (by repeat' (first | (with_reducible exact Below.refl _ _) | (with_reducible assumption) | (with_reducible refine Below.alloc ?_ (by first | omega | (simp; omega) | simp) _) | (with_reducible refine Below.setCell ?_ (by first | omega | (simp; omega) | simp) _) | (with_reducible refine Below.drew ?_) | (with_reducible refine below_drewN ?_ _)))
                case b2 => exact (by repeat' (first | (with_reducible exact Below.refl _ _) | (with_reducible assumption) | (with_reducible refine Below.alloc ?_ (by first | omega | (simp; omega) | simp) _) | (with_reducible refine Below.setCell ?_ (by first | omega | (simp; omega) | simp) _) | (with_reducible refine Below.drew ?_) | (with_reducible refine below_drewN ?_ _)))
                rintro e3 w3 ⟨u2, v2, rfl, hu2, hv2, hb3⟩
                have hp3 : Below wT.heap.size wT w3 := Below.trans (show Below wT.heap.size wT _ from (by repeat' (first | (with_reducible exact Below.refl _ _) | (with_reducible assumption) | (with_reducible refine Below.alloc ?_ (by first | omega | (simp; omega) | simp) _) | (with_reducible refine Below.setCell ?_ (by first | omega | (simp; omega) | simp) _) | (with_reducible refine Below.drew ?_) | (with_reducible refine below_drewN ?_ _)))) (hb3.mono (by first | omega | (simp only [World.size_alloc, World.size_setCell, World.size_drew] at *; omega) | (simp; omega) | simp))
                have hp23 : Below w2.heap.size w2 w3 := Below.trans (show Below w2.heap.size w2 _ from (by repeat' (first | (with_reducible exact Below.refl _ _) | (with_reducible assumption) | (with_reducible refine Below.alloc ?_ (by first | omega | (simp; omega) | simp) _) | (with_reducible refine Below.setCell ?_ (by first | omega | (simp; omega) | simp) _) | (with_reducible refine Below.drew ?_) | (with_reducible refine below_drewN ?_ _)))) (hb3.mono (by first | omega | (simp only [World.size_alloc, World.size_setCell, World.size_drew] at *; omega) | (simp; omega) | simp))
                have sz3 := hp3.size
                have sz23 := hp23.size
                have hS3 := And.intro (oldc hp3 ly q_y0) (And.intro (oldc hp3 ly q_y1) (And.intro (oldc hp3 lx q_x0) (oldc hp3 lx q_x1)))
                have hBw3 : Below w.heap.size w w3 := hBT.trans (hp3.mono hBT.size)
                have : w.heap.size < w3.heap.size := by omega
                have : ¬ w.heap.size = w3.heap.size := by omega
                have : ¬ w3.heap.size = w.heap.size := by omega
                have : ¬ w.heap.size = w3.heap.size + 1 := by omega
                have : ¬ w3.heap.size + 1 = w.heap.size := by omega
                have : w.heap.size + 1 < w3.heap.size := by omega
                have : ¬ w.heap.size + 1 = w3.heap.size := by omega
                have : ¬ w3.heap.size = w.heap.size + 1 := by omega
                have : ¬ w.heap.size + 1 = w3.heap.size + 1 := by omega
                have : ¬ w3.heap.size + 1 = w.heap.size + 1 := by omega
                have za0 := oldc hp23 zal za0
                have za1 := oldc hp23 zal za1
                have za2 := oldc hp23 zal za2
                have zaf : ∀ o, w3.frozen? ⟨wT.heap.size, o, none⟩ = false := fun o => (hp23.frozen (p := ⟨wT.heap.size, o, none⟩) zal).trans (zaf o)
                have zal := Nat.lt_of_lt_of_le zal hp23.size
                have zb0 := oldc hp23 zbl zb0
                have zb1 := oldc hp23 zbl zb1
                have zb2 := oldc hp23 zbl zb2
                have zbf : ∀ o, w3.frozen? ⟨wT.heap.size + 1, o, none⟩ = false := fun o => (hp23.frozen (p := ⟨wT.heap.size + 1, o, none⟩) zbl).trans (zbf o)
                have zbl := Nat.lt_of_lt_of_le zbl hp23.size
                obtain ⟨ao2, n2, cp2, rfl, -⟩ := hu2.shape
                obtain ⟨bo2, m2, dp2, rfl, -⟩ := hv2.shape
                have HU2 := Lib.hid hu2
                have HV2 := Lib.hid hv2
                replace HU1 := Lib.hid (HU1.out.below hp23)
                replace HV1 := Lib.hid (HV1.out.below hp23)
                have nb47 : ¬ wT.heap.size = w3.heap.size := by omega
                have nb48 : ¬ w3.heap.size = wT.heap.size := by omega
                have nb49 : ¬ wT.heap.size + 1 = w3.heap.size := by omega
                have nb50 : ¬ w3.heap.size = wT.heap.size + 1 := by omega
                have nb55 : ¬ wT.heap.size = w3.heap.size + 1 := by omega
                have nb56 : ¬ w3.heap.size + 1 = wT.heap.size := by omega
                have nb57 : ¬ wT.heap.size + 1 = w3.heap.size + 1 := by omega
                have nb58 : ¬ w3.heap.size + 1 = wT.heap.size + 1 := by omega
                clear hb3 hu2 hv2
                refine hK.out _ _ ?_ (fun hHeld => ?_)
                · first | exact trivial | ((try dsimp only); (first | (with_reducible assumption) | (go_keep; done) | (simp [go_sem, *]; done) | go_keep))
                clear hK K
                try simp only [Act.put, List.setIfInBounds_toArray, List.set_cons_zero, List.set_cons_succ]
                refine wpAnyH_ready (rs := [8]) (by kernel_rfl) (by simp) ?_
                refine AllReadyH.cons (o := _) (by simp only [List.getElem?_toArray, List.getElem?_cons_succ, List.getElem?_cons_zero]; rfl) (fun K hK => ?_) ?_
                · go_simp
                  refine hK.out _ _ ?_ (fun hHeld => ?_)
                  · first | exact trivial | ((try dsimp only); (first | (with_reducible assumption) | (go_keep; done) | (simp [go_sem, *]; done) | go_keep))
                  clear hK K
                  try simp only [Act.put, List.setIfInBounds_toArray, List.set_cons_zero, List.set_cons_succ]
                  refine wpAnyH_ready (rs := [9]) (by kernel_rfl) (by simp) ?_
                  refine AllReadyH.cons (o := _) (by simp only [List.getElem?_toArray, List.getElem?_cons_succ, List.getElem?_cons_zero]; rfl) (fun K hK => ?_) ?_
                  · go_simp
                    refine hK.out _ _ ?_ (fun hHeld => ?_)
                    · first | exact trivial | ((try dsimp only); (first | (with_reducible assumption) | (go_keep; done) | (simp [go_sem, *]; done) | go_keep))
                    clear hK K
                    try simp only [Act.put, List.setIfInBounds_toArray, List.set_cons_zero, List.set_cons_succ]
                    refine wpAnyH_done (by kernel_rfl) ?_ _
                    go_wp2_with fail
                    go_meet
                    exact ⟨_, _, _, _, _, _, rfl, rfl, by simp [go_sem, *], by simp [go_sem, *], by simp [go_sem, *], by simp [go_sem, *], by simp [go_sem, *], by simp [go_sem, *], (by first | omega | (simp; omega) | (simp; done)), (by first | omega | (simp; omega) | (simp; done)), Lib.hid (HU1.out.keep (by repeat' (first | (with_reducible exact Zone.refl _ _ _) | (with_reducible refine zone_drewN ?_ _) | (with_reducible refine Zone.setCell ?_ (by first | (left; omega) | (right; omega) | (left; simp; omega) | (right; simp; omega) | (left; simp; done) | (right; simp; done)) _) | (with_reducible refine Zone.alloc ?_ (by first | omega | (simp; omega) | simp) _) | (with_reducible refine Zone.drew ?_)))).all, Lib.hid (HV1.out.keep (by repeat' (first | (with_reducible exact Zone.refl _ _ _) | (with_reducible refine zone_drewN ?_ _) | (with_reducible refine Zone.setCell ?_ (by first | (left; omega) | (right; omega) | (left; simp; omega) | (right; simp; omega) | (left; simp; done) | (right; simp; done)) _) | (with_reducible refine Zone.alloc ?_ (by first | omega | (simp; omega) | simp) _) | (with_reducible refine Zone.drew ?_)))).all, Lib.hid (HU2.out.keep (by repeat' (first | (with_reducible exact Zone.refl _ _ _) | (with_reducible refine zone_drewN ?_ _) | (with_reducible refine Zone.setCell ?_ (by first | (left; omega) | (right; omega) | (left; simp; omega) | (right; simp; omega) | (left; simp; done) | (right; simp; done)) _) | (with_reducible refine Zone.alloc ?_ (by first | omega | (simp; omega) | simp) _) | (with_reducible refine Zone.drew ?_)))).all, Lib.hid (HV2.out.keep (by repeat' (first | (with_reducible exact Zone.refl _ _ _) | (with_reducible refine zone_drewN ?_ _) | (with_reducible refine Zone.setCell ?_ (by first | (left; omega) | (right; omega) | (left; simp; omega) | (right; simp; omega) | (left; simp; done) | (right; simp; done)) _) | (with_reducible refine Zone.alloc ?_ (by first | omega | (simp; omega) | simp) _) | (with_reducible refine Zone.drew ?_)))).all, (by repeat' (first | (with_reducible exact Below.refl _ _) | (with_reducible assumption) | (with_reducible refine Below.alloc ?_ (by first | omega | (simp; omega) | simp) _) | (with_reducible refine Below.setCell ?_ (by first | omega | (simp; omega) | simp) _) | (with_reducible refine Below.drew ?_) | (with_reducible refine below_drewN ?_ _)))⟩
                  exact AllReadyH.nil
                exact AllReadyH.nil
              exact AllReadyH.nil
            exact AllReadyH.nil
          exact AllReadyH.nil
        exact AllReadyH.nil
      case rest =>
        obtain ⟨G1, G2, u1, v1, u2, v2, rfl, rfl, g10, g11, g12, g20, g21, g22, lG1, lG2, HU1, HV1, HU2, HV2, hbX⟩ := hcut
        clear q_y0 q_y1 q_x0 q_x1
        obtain ⟨WX, hWX⟩ : ∃ W : World, W = wc := ⟨_, rfl⟩
        subst hWX
        obtain ⟨ao1, n1, cp1, rfl, -⟩ := HU1.out.shape
        obtain ⟨bo1, m1, dp1, rfl, -⟩ := HV1.out.shape
        obtain ⟨ao2, n2, cp2, rfl, -⟩ := HU2.out.shape
        obtain ⟨bo2, m2, dp2, rfl, -⟩ := HV2.out.shape
        have hbX0 : Below W0.heap.size W0 WX := hbT0.trans (hbX.mono sT)
        have sX := hbX0.size
        have hBX : Below w.heap.size w WX := hB0.trans (hbX0.mono s0)
        have sXw := hBX.size
        go_wp2
        go_loopw [11, 12, 44] (fun _ _ s44 wr => ∃ i : Nat, i ≤ T.length ∧ s44 = .int .i64 i ∧ Hid (divD (rs, es) (rs2, es2) T i = true) ∧ Below WX.heap.size WX wr) (fun _ _ s44 _ => T.length - (intOf s44).toNat)
        case atStart => exact ⟨0, Nat.zero_le _, rfl, Lib.hid rfl, Below.refl _ _⟩
        case round =>
          obtain ⟨wd, hwd⟩ : ∃ wm : World, wm = wr := ⟨_, rfl⟩
          subst hwd
          obtain ⟨i, hi1, rfl, HI, hXd⟩ := hrel
          have sXd := hXd.size
          by_cases hli : i < T.length
          · have hIi : (i : Int) < (T.length : Int) := by omega
            obtain ⟨s, hs⟩ : ∃ s, T[i]? = some s := ⟨_, List.getElem?_eq_getElem hli⟩
            have HS := Lib.hid hs
            clear hs
            go_wp2_with fail
            go_loopw [12, 48] (fun _ s48 wr => ∃ j : Nat, j ≤ i ∧ s48 = .int .i64 j ∧ Hid (rowD (rs, es) (rs2, es2) T i j = true) ∧ Below WX.heap.size WX wr) (fun _ s48 _ => i - (intOf s48).toNat)
            case atStart => exact ⟨0, Nat.zero_le _, rfl, Lib.hid rfl, hXd⟩
            case round =>
              obtain ⟨we, hwe⟩ : ∃ wm : World, wm = wr := ⟨_, rfl⟩
              subst hwe
              obtain ⟨j, hj1, rfl, HJ, hXe⟩ := hrel
              have sXe := hXe.size
              by_cases hlj : j < i
              · have hJj : (j : Int) < (i : Int) := by omega
                obtain ⟨t, ht⟩ : ∃ t, T[j]? = some t := ⟨_, List.getElem?_eq_getElem (by omega)⟩
                have HT := Lib.hid ht
                clear ht
                obtain ⟨p, hlet_p⟩ : ∃ r, r = decide (termOf (rs, es) s = termOf (rs, es) t) := ⟨_, rfl⟩
                have HP := Lib.hid hlet_p
                clear hlet_p
                obtain ⟨q, hlet_q⟩ : ∃ r, r = decide (termOf (rs2, es2) s = termOf (rs2, es2) t) := ⟨_, rfl⟩
                have HQ := Lib.hid hlet_q
                clear hlet_q
                have HAG := Lib.hid (show agD (rs, es) (rs2, es2) T i j = decide (p = q) by unfold agD; rw [HS.out, HT.out, HP.out, HQ.out])
                have q10 := oldc hXe lG1 g10
                have q11 := oldc hXe lG1 g11
                have q12 := oldc hXe lG1 g12
                have q20 := oldc hXe lG2 g20
                have q21 := oldc hXe lG2 g21
                have q22 := oldc hXe lG2 g22
                have kG1 : G1 < we.heap.size := by omega
                have kG2 : G2 < we.heap.size := by omega
                go_upto_region 14 with fail
                refine wp_region_held_drew (S := (fun w' => w'.cell? ⟨G1, 0, none⟩ = some (.slice tao T.length tcap) ∧ w'.cell? ⟨G1, 1, none⟩ = some (.slice ao1 n1 cp1) ∧ w'.cell? ⟨G1, 2, none⟩ = some (.slice bo1 m1 dp1) ∧ w'.cell? ⟨G2, 0, none⟩ = some (.slice tao T.length tcap) ∧ w'.cell? ⟨G2, 1, none⟩ = some (.slice ao2 n2 cp2) ∧ w'.cell? ⟨G2, 2, none⟩ = some (.slice bo2 m2 dp2))) (by kernel_rfl) ?_ (fun hHeld => ?_)
                · first | exact trivial | ((try dsimp only); go_keep)
                refine wpAnyH_take (i := 0) (oi := _) (v := ?_) (by simp only [List.getElem?_toArray, List.getElem?_cons_succ, List.getElem?_cons_zero]; rfl) (by kernel_rfl) (by kernel_rfl) (by kernel_rfl) (by exact fun _ _ _ h => h) (Or.inl ⟨by rfl, ?_⟩) (by assumption) ?_
                rotate_left
                · intro w hSw; (try dsimp only at hSw); go_simp <;> with_reducible rfl
                try simp only [Act.put, List.setIfInBounds_toArray, List.set_cons_zero, List.set_cons_succ]
                refine wpAnyH_take (i := 1) (oi := _) (v := ?_) (by simp only [List.getElem?_toArray, List.getElem?_cons_succ, List.getElem?_cons_zero]; rfl) (by kernel_rfl) (by kernel_rfl) (by kernel_rfl) (by exact fun _ _ _ h => h) (Or.inl ⟨by rfl, ?_⟩) (by assumption) ?_
                rotate_left
                · intro w hSw; (try dsimp only at hSw); go_simp <;> with_reducible rfl
                try simp only [Act.put, List.setIfInBounds_toArray, List.set_cons_zero, List.set_cons_succ]
                refine wpAnyH_take (i := 2) (oi := _) (v := ?_) (by simp only [List.getElem?_toArray, List.getElem?_cons_succ, List.getElem?_cons_zero]; rfl) (by kernel_rfl) (by kernel_rfl) (by kernel_rfl) (by exact fun _ _ _ h => h) (Or.inl ⟨by rfl, ?_⟩) (by assumption) ?_
                rotate_left
                · intro w hSw; (try dsimp only at hSw); go_simp <;> with_reducible rfl
                try simp only [Act.put, List.setIfInBounds_toArray, List.set_cons_zero, List.set_cons_succ]
                refine wpAnyH_take (i := 4) (oi := _) (v := ?_) (by simp only [List.getElem?_toArray, List.getElem?_cons_succ, List.getElem?_cons_zero]; rfl) (by kernel_rfl) (by kernel_rfl) (by kernel_rfl) (by exact fun _ _ _ h => h) (Or.inl ⟨by rfl, ?_⟩) (by assumption) ?_
                rotate_left
                · intro w hSw; (try dsimp only at hSw); go_simp <;> with_reducible rfl
                try simp only [Act.put, List.setIfInBounds_toArray, List.set_cons_zero, List.set_cons_succ]
                refine wpAnyH_take (i := 5) (oi := _) (v := ?_) (by simp only [List.getElem?_toArray, List.getElem?_cons_succ, List.getElem?_cons_zero]; rfl) (by kernel_rfl) (by kernel_rfl) (by kernel_rfl) (by exact fun _ _ _ h => h) (Or.inl ⟨by rfl, ?_⟩) (by assumption) ?_
                rotate_left
                · intro w hSw; (try dsimp only at hSw); go_simp <;> with_reducible rfl
                try simp only [Act.put, List.setIfInBounds_toArray, List.set_cons_zero, List.set_cons_succ]
                refine wpAnyH_take (i := 6) (oi := _) (v := ?_) (by simp only [List.getElem?_toArray, List.getElem?_cons_succ, List.getElem?_cons_zero]; rfl) (by kernel_rfl) (by kernel_rfl) (by kernel_rfl) (by exact fun _ _ _ h => h) (Or.inl ⟨by rfl, ?_⟩) (by assumption) ?_
                rotate_left
                · intro w hSw; (try dsimp only at hSw); go_simp <;> with_reducible rfl
                try simp only [Act.put, List.setIfInBounds_toArray, List.set_cons_zero, List.set_cons_succ]
                refine wpAnyH_ready (rs := [3]) (by kernel_rfl) (by simp) ?_
                refine AllReadyH.cons (o := _) (by simp only [List.getElem?_toArray, List.getElem?_cons_succ, List.getElem?_cons_zero]; rfl) (fun K hK => ?_) ?_
                · go_simp
                  refine (agreeI_b _ tao T.length tcap _ _ (tmL (rs, es) T) (tmB (rs, es) T) ((HU1.out.below hXe).below ?b1) ((HV1.out.below hXe).below ?b2) i j (by rw [tmL_len]; omega) (by rw [tmL_len]; omega) (by rw [tmB_len]; omega) (by rw [tmB_len]; omega) (by rw [tmL_len]; omega) (by rw [tmB_len]; omega) _ _ (tmL_at HS.out) (tmL_at HT.out) _ _ (tmB_at HS.out) (tmB_at HT.out) p (HP.out.trans (agr_eq _ _).symm)).mono ?_
                  case b1 => exact (by repeat' (first | (with_reducible exact Below.refl _ _) | (with_reducible assumption) | (with_reducible refine Below.alloc ?_ (by first | omega | (simp; omega) | simp) _) | (with_reducible refine Below.setCell ?_ (by first | omega | (simp; omega) | simp) _) | (with_reducible refine Below.drew ?_) | (with_reducible refine below_drewN ?_ _)))
                  case b2 => exact (by repeat' (first | (with_reducible exact Below.refl _ _) | (with_reducible assumption) | (with_reducible refine Below.alloc ?_ (by first | omega | (simp; omega) | simp) _) | (with_reducible refine Below.setCell ?_ (by first | omega | (simp; omega) | simp) _) | (with_reducible refine Below.drew ?_) | (with_reducible refine below_drewN ?_ _)))
                  rintro e4 w4 ⟨rfl, hb4⟩
                  have hp4 : Below we.heap.size we w4 := Below.trans (show Below we.heap.size we _ from (by repeat' (first | (with_reducible exact Below.refl _ _) | (with_reducible assumption) | (with_reducible refine Below.alloc ?_ (by first | omega | (simp; omega) | simp) _) | (with_reducible refine Below.setCell ?_ (by first | omega | (simp; omega) | simp) _) | (with_reducible refine Below.drew ?_) | (with_reducible refine below_drewN ?_ _)))) (hb4.mono (by first | omega | (simp only [World.size_alloc, World.size_setCell, World.size_drew] at *; omega) | (simp; omega) | simp))
                  have hS4 := And.intro (oldc hp4 kG1 q10) (And.intro (oldc hp4 kG1 q11) (And.intro (oldc hp4 kG1 q12) (And.intro (oldc hp4 kG2 q20) (And.intro (oldc hp4 kG2 q21) (oldc hp4 kG2 q22)))))
                  have sz4 := hp4.size
                  clear hb4
                  refine hK.out _ _ ?_ (fun hHeld => ?_)
                  · first | exact trivial | ((try dsimp only); (first | (with_reducible assumption) | (go_keep; done) | (simp [go_sem, *]; done) | go_keep))
                  clear hK K
                  try simp only [Act.put, List.setIfInBounds_toArray, List.set_cons_zero, List.set_cons_succ]
                  refine wpAnyH_ready (rs := [7]) (by kernel_rfl) (by simp) ?_
                  refine AllReadyH.cons (o := _) (by simp only [List.getElem?_toArray, List.getElem?_cons_succ, List.getElem?_cons_zero]; rfl) (fun K hK => ?_) ?_
                  · go_simp
                    refine (agreeI_b _ tao T.length tcap _ _ (tmL (rs2, es2) T) (tmB (rs2, es2) T) ((HU2.out.below hXe).below ?b1) ((HV2.out.below hXe).below ?b2) i j (by rw [tmL_len]; omega) (by rw [tmL_len]; omega) (by rw [tmB_len]; omega) (by rw [tmB_len]; omega) (by rw [tmL_len]; omega) (by rw [tmB_len]; omega) _ _ (tmL_at HS.out) (tmL_at HT.out) _ _ (tmB_at HS.out) (tmB_at HT.out) q (HQ.out.trans (agr_eq _ _).symm)).mono ?_
                    case b1 => exact (by repeat' (first | (with_reducible exact Below.refl _ _) | (with_reducible assumption) | (with_reducible refine Below.alloc ?_ (by first | omega | (simp; omega) | simp) _) | (with_reducible refine Below.setCell ?_ (by first | omega | (simp; omega) | simp) _) | (with_reducible refine Below.drew ?_) | (with_reducible refine below_drewN ?_ _)))
                    case b2 => exact (by repeat' (first | (with_reducible exact Below.refl _ _) | (with_reducible assumption) | (with_reducible refine Below.alloc ?_ (by first | omega | (simp; omega) | simp) _) | (with_reducible refine Below.setCell ?_ (by first | omega | (simp; omega) | simp) _) | (with_reducible refine Below.drew ?_) | (with_reducible refine below_drewN ?_ _)))
                    rintro e5 w5 ⟨rfl, hb5⟩
                    have hp5 : Below we.heap.size we w5 := Below.trans (show Below we.heap.size we _ from (by repeat' (first | (with_reducible exact Below.refl _ _) | (with_reducible assumption) | (with_reducible refine Below.alloc ?_ (by first | omega | (simp; omega) | simp) _) | (with_reducible refine Below.setCell ?_ (by first | omega | (simp; omega) | simp) _) | (with_reducible refine Below.drew ?_) | (with_reducible refine below_drewN ?_ _)))) (hb5.mono (by first | omega | (simp only [World.size_alloc, World.size_setCell, World.size_drew] at *; omega) | (simp; omega) | simp))
                    have hS5 := And.intro (oldc hp5 kG1 q10) (And.intro (oldc hp5 kG1 q11) (And.intro (oldc hp5 kG1 q12) (And.intro (oldc hp5 kG2 q20) (And.intro (oldc hp5 kG2 q21) (oldc hp5 kG2 q22)))))
                    clear hb5
                    refine hK.out _ _ ?_ (fun hHeld => ?_)
                    · first | exact trivial | ((try dsimp only); (first | (with_reducible assumption) | (go_keep; done) | (simp [go_sem, *]; done) | go_keep))
                    clear hK K
                    try simp only [Act.put, List.setIfInBounds_toArray, List.set_cons_zero, List.set_cons_succ]
                    refine wpAnyH_take (i := 8) (oi := _) (v := ?_) (by simp only [List.getElem?_toArray, List.getElem?_cons_succ, List.getElem?_cons_zero]; rfl) (by kernel_rfl) (by kernel_rfl) (by kernel_rfl) (by exact fun _ _ _ h => h) (Or.inl ⟨by rfl, ?_⟩) (by assumption) ?_
                    rotate_left
                    · intro w hSw; (try dsimp only at hSw); go_simp <;> with_reducible rfl
                    try simp only [Act.put, List.setIfInBounds_toArray, List.set_cons_zero, List.set_cons_succ]
                    refine wpAnyH_done (by kernel_rfl) ?_ _
                    have hXw5 : Below WX.heap.size WX w5 := hXe.trans (hp5.mono sXe)
                    have hBw5 : Below w.heap.size w w5 := hBX.trans (hXw5.mono sXw)
                    have HNA := Lib.hid HAG.out
                    cases p <;> cases q
                    · have HJ2 := Lib.hid (show rowD (rs, es) (rs2, es2) T i (j + 1) = true by rw [rowD_succ, HJ.out, HNA.out]; rfl)
                      clear HJ HI
                      go_wp2
                      go_roundw
                      case rel => exact ⟨j + 1, by omega, by go_num, HJ2, hXw5⟩
                      case measure => simp [intOf]; omega
                    · have HF := Lib.hid (show R = false from divF_end HRD.out HD.out HDD.out hk2 (divD_bad hli (rowD_bad hlj (HNA.out.trans (by decide)))))
                      clear HRD HD HDD HK HI HJ
                      go_wp2
                      go_ret
                      exact ⟨ret_bool HF.out.symm, hBw5⟩
                    · have HF := Lib.hid (show R = false from divF_end HRD.out HD.out HDD.out hk2 (divD_bad hli (rowD_bad hlj (HNA.out.trans (by decide)))))
                      clear HRD HD HDD HK HI HJ
                      go_wp2
                      go_ret
                      exact ⟨ret_bool HF.out.symm, hBw5⟩
                    · have HJ2 := Lib.hid (show rowD (rs, es) (rs2, es2) T i (j + 1) = true by rw [rowD_succ, HJ.out, HNA.out]; rfl)
                      clear HJ HI
                      go_wp2
                      go_roundw
                      case rel => exact ⟨j + 1, by omega, by go_num, HJ2, hXw5⟩
                      case measure => simp [intOf]; omega
                  exact AllReadyH.nil
                exact AllReadyH.nil
              · obtain rfl : j = i := by omega
                have nJ : ¬ (j : Int) < (j : Int) := by omega
                have HI2 := Lib.hid (show divD (rs, es) (rs2, es2) T (j + 1) = true by rw [divD_succ, HI.out, HJ.out]; rfl)
                clear HI HJ
                go_wp2_with fail
                go_roundw
                case rel => exact ⟨j + 1, by omega, by go_num, HI2, hXe⟩
                case measure => simp [intOf]; omega
          · obtain rfl : i = T.length := by omega
            have nI : ¬ (T.length : Int) < (T.length : Int) := by omega
            have HDT := Lib.hid (show D = true by rw [HD.out]; exact HI.out)
            have HK2 := Lib.hid (show (1 ≤ k + 1 → d1 = true) ∧ (2 ≤ k + 1 → d2 = true) from ⟨fun _ => by by_cases h0 : k = 0; exact (HDD.out.1 h0).symm.trans HDT.out; exact HK.out.1 (by omega), fun _ => (HDD.out.2 (by omega)).symm.trans HDT.out⟩)
            clear HI HK HDD
            go_wp2
            go_roundw
            case rel => exact ⟨k + 1, by omega, by go_num, HK2, hbX0.trans (hXd.mono sX)⟩
            case measure => simp [intOf]; omega
    · obtain rfl : k = 2 := by omega
      have HF := Lib.hid (show R = true by rw [HRD.out, HK.out.1 (by omega), HK.out.2 (by omega)]; rfl)
      clear HRD HK
      go_wp2
      go_ret
      exact ⟨ret_bool HF.out.symm, hBb⟩
end Go.Proofs.Ytnfgdkbapffjcaa
