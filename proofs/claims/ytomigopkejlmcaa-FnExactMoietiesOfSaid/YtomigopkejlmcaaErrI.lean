/- Contract of classErrors (impl). Written by err_gen.py. -/
import Derived.Test.YtomigopkejlmcaaErr
import Derived.Test.YtomigopkejlmcaaGrow3
namespace Go.Proofs.Ytomigopkejlmcaa
set_option linter.unusedVariables false
set_option linter.unusedSimpArgs false
open Go.RowKit

theorem inz1 (b : Nat) : InZ b (b + 1) [b] := fun i hi => by simp at hi; omega

set_option maxRecDepth 20000 in
set_option maxHeartbeats 8000000 in
theorem classErrI_any {z z1 z' : Bool} {lo hi lo1 hi1 lo' hi' : Nat} (w : World) (v v2 u1 u2 v3 : Value) (f : Fam) (c : Cls) (g : List Int) (h : Rd z lo hi w [v, v2] f) (hc : Rd z1 lo1 hi1 w [u1, u2] c) (h' : Rd z' lo' hi' w [v3] g) (hV : givenB f c g 0 = true) :
    Calls Try.prog 83 #[.agg #[v, v2], .agg #[u1, u2], v3] w (PostOw w (errsL f c g)) := by
  obtain ⟨hfam, hcls, hgl, hgr⟩ := givenB_facts hV
  obtain ⟨h40, h60, hP, hU⟩ := famB_facts hfam
  obtain ⟨c0, c8, c12, hpw, hpc⟩ := isCls_facts hcls
  have HG := Lib.hid (show ∀ i, i < f.1.length → 0 ≤ getI g (i : Int) ∧ getI g (i : Int) < (c.1.length : Int) from fun i hi => getI_in (n := c.1.length) (fun x hx => hgr x hx) (by omega))
  have HL := Lib.hid hgl
  have HC := Lib.hid c12
  have HP := Lib.hid hP
  have HU := Lib.hid hU
  have HPW := Lib.hid (isPerm_range hpw)
  clear hgr hgl c12 hP hU hfam hcls hpc hpw hV
  obtain ⟨ha, hb⟩ := h.fam
  obtain ⟨hw, hq⟩ := hc.two rfl
  clear h hc
  obtain ⟨ao, n, cap, rfl, hn, hnc, hcm, hnone⟩ := ha.shape
  obtain ⟨ao2, n2, cap2, rfl, hn2, hnc2, hcm2, hnone2⟩ := hb.shape
  subst hn hn2
  obtain ⟨bo, n3, dap, rfl, hn3, hnc3, hcm3, hnone3⟩ := hw.shape
  obtain ⟨bo2, n4, dap2, rfl, hn4, hnc4, hcm4, hnone4⟩ := hq.shape
  obtain ⟨go, n5, gap, rfl, hn5, hnc5, hcm5, hnone5⟩ := h'.shape
  subst hn3 hn4 hn5
  unfold maxLen at *
  have hc2 : 0 < c.2.length := by have := HC.out; omega
  obtain ⟨wb, woff, rfl, -, -, wbl⟩ := hw.pos (by omega)
  obtain ⟨qb, qoff, rfl, -, -, qbl⟩ := hq.pos hc2
  clear hnone hnone2 hnone3 hnone4 hnone5
  go_enter Try.func83, Try.ntmps83
  go_wp2_with (at_make; refine wpList_mk (α := Bool) rfl rfl slBool (y0 := false) (fun _ => ⟨rfl, rfl⟩) rfl rfl rfl rfl (by omega) (by unfold maxLen; omega) ?_; intro wA how hbA hlt1; have e0 : wA.cell? ⟨w.heap.size + 1, 0, none⟩ = some (.slice (some ⟨wb, woff, none⟩) c.1.length dap) := oldc hbA (by simp) (by simp [go_sem]))
  simp only [World.size_alloc] at how hlt1
  have hpwA : Below w.heap.size w wA := Below.after (by repeat' (first | (with_reducible exact Below.refl _ _) | (with_reducible assumption) | (with_reducible refine Below.alloc ?_ (by first | omega | (simp; omega) | simp) _) | (with_reducible refine Below.setCell ?_ (by first | omega | (simp; omega) | simp) _) | (with_reducible refine Below.drew ?_) | (with_reducible refine below_drewN ?_ _))) hbA (by first | omega | (simp only [World.size_alloc, World.size_setCell, World.size_drew] at *; omega) | (simp; omega) | simp)
  have swA := hpwA.size
  have hBwA : Below w.heap.size w wA := hpwA
  have l_f : w.heap.size < wA.heap.size := by have := hbA.size; simp at this; omega
  have q_f0 : wA.cell? ⟨w.heap.size, 0, none⟩ = some (.slice ao f.1.length cap) := oldc hbA (by first | omega | (simp; omega) | (simp; done)) (by simp [go_sem])
  have q_f1 : wA.cell? ⟨w.heap.size, 1, none⟩ = some (.slice ao2 f.2.length cap2) := oldc hbA (by first | omega | (simp; omega) | (simp; done)) (by simp [go_sem])
  have l_c : w.heap.size + 1 < wA.heap.size := by have := hbA.size; simp at this; omega
  have q_c0 : wA.cell? ⟨w.heap.size + 1, 0, none⟩ = some (.slice (some ⟨wb, woff, none⟩) c.1.length dap) := oldc hbA (by first | omega | (simp; omega) | (simp; done)) (by simp [go_sem])
  have q_c1 : wA.cell? ⟨w.heap.size + 1, 1, none⟩ = some (.slice (some ⟨qb, qoff, none⟩) c.2.length dap2) := oldc hbA (by first | omega | (simp; omega) | (simp; done)) (by simp [go_sem])
  clear hbA e0
  go_wp2_with fail
  refine (invI_any (z := z1) (lo := lo1) (hi := hi1) _ _ c.1 (hw.below (by repeat' (first | (with_reducible exact Below.refl _ _) | (with_reducible assumption) | (with_reducible refine Below.alloc ?_ (by first | omega | (simp; omega) | simp) _) | (with_reducible refine Below.setCell ?_ (by first | omega | (simp; omega) | simp) _) | (with_reducible refine Below.drew ?_) | (with_reducible refine below_drewN ?_ _)))) (by omega) HPW.out).mono ?_
  rintro e1 w1 ⟨hv, rfl, hoh, hbw1⟩
  have hpw1 : Below wA.heap.size wA w1 := Below.after (by repeat' (first | (with_reducible exact Below.refl _ _) | (with_reducible assumption) | (with_reducible refine Below.alloc ?_ (by first | omega | (simp; omega) | simp) _) | (with_reducible refine Below.setCell ?_ (by first | omega | (simp; omega) | simp) _) | (with_reducible refine Below.drew ?_) | (with_reducible refine below_drewN ?_ _))) hbw1 (by first | omega | (simp only [World.size_alloc, World.size_setCell, World.size_drew] at *; omega) | (simp; omega) | simp)
  have sw1 := hpw1.size
  have hBw1 : Below w.heap.size w w1 := Below.trans hBwA (Below.mono hpw1 hBwA.size)
  have q_f0 := oldc hpw1 l_f q_f0
  have q_f1 := oldc hpw1 l_f q_f1
  have q_c0 := oldc hpw1 l_c q_c0
  have q_c1 := oldc hpw1 l_c q_c1
  have l_c := Nat.lt_of_lt_of_le l_c sw1
  have l_f := Nat.lt_of_lt_of_le l_f sw1
  have how := Ow.below how hpw1
  clear hbw1 hpw1
  obtain ⟨ho, n6, hap, rfl, hn6, hnc6, hcm6, -⟩ := hoh.rd.shape
  rw [inv_len] at hn6
  subst hn6
  obtain ⟨hbk, hoff, rfl, hbk1, hbk2, hbk3⟩ := hoh.rd.pos (by omega)
  obtain ⟨W0, hW0⟩ : ∃ W : World, W = w1 := ⟨_, rfl⟩
  subst hW0
  have hB0 : Below w.heap.size w W0 := hBw1
  have hz1 := inz1 (w.heap.size + 1 + 1)
  have s0 := hB0.size
  have lW : w.heap.size + 1 + 1 < W0.heap.size := by omega
  have how0 := Lib.hid (show Ow (w.heap.size + 1 + 1) (w.heap.size + 1 + 1 + 1) W0 [.slice (some ⟨w.heap.size + 1 + 1, 0, none⟩) f.1.length f.1.length] (badsTo f.1 c g f.1.length 0) by rw [badsTo_zero]; exact how)
  clear how
  go_wp2
  go_loopw [9, 10, 26] (fun _ _ s26 wr => ∃ k : Nat, k ≤ f.1.length ∧ s26 = .int .i64 k ∧ Ow (w.heap.size + 1 + 1) (w.heap.size + 1 + 1 + 1) wr [.slice (some ⟨w.heap.size + 1 + 1, 0, none⟩) f.1.length f.1.length] (badsTo f.1 c g f.1.length k) ∧ OffF [w.heap.size + 1 + 1] W0 wr) (fun _ _ s26 _ => f.1.length - (intOf s26).toNat)
  case atStart => exact ⟨0, Nat.zero_le _, rfl, how0.out, OffF.refl _ _⟩
  case round =>
    rename_i wr
    clear how0
    obtain ⟨k, hk, rfl, hm, hoff2⟩ := hrel
    have hM := Lib.hid hm
    clear hm
    have sR := hoff2.size
    have hbw : Below w.heap.size w wr := hB0.trans (hoff2.toBelow s0 (fun b hb => by simp at hb; omega))
    have q_f0 := offc hoff2 hz1 (.inl (by omega)) l_f q_f0
    have q_f1 := offc hoff2 hz1 (.inl (by omega)) l_f q_f1
    have q_c0 := offc hoff2 hz1 (.inl (by omega)) l_c q_c0
    have q_c1 := offc hoff2 hz1 (.inl (by omega)) l_c q_c1
    have l_f := Nat.lt_of_lt_of_le l_f sR
    have l_c := Nat.lt_of_lt_of_le l_c sR
    by_cases hlt : k < f.1.length
    · have hI : (k : Int) < (f.1.length : Int) := by omega
      have hgw := h'.below hbw
      have hcw := hq.below hbw
      have hhw := (hoh.rd.keep (hoff2.zone (l := _) (u := W0.heap.size) (Nat.le_refl _) hz1 (.inl (by omega))))
      obtain ⟨b, off, nm, sx, fa, mo, bo, di, rfl, HX, p0, p1, p2, p3, p4, p5, -, -, -, -, -, -, -, -, hbl, -⟩ := (ha.below hbw).per_at hlt
      obtain ⟨-, -, -, hfa, hmo, -⟩ := HP.out.at hlt HX.out
      obtain ⟨gb, goff, rfl, -, -, gbl⟩ := hgw.pos (by have := HL.out; omega)
      have kI : (k : Int) < (g.length : Int) := by have := HL.out; omega
      have cgk := hgw.num (i := k) (by have := HL.out; omega)
      have qbl' : qb < wr.heap.size := by omega
      have hbl' : hbk < wr.heap.size := by omega
      have lWr : w.heap.size + 1 + 1 < wr.heap.size := by omega
      have nWr : ¬ w.heap.size + 1 + 1 = wr.heap.size := by omega
      have mWr : ¬ wr.heap.size = w.heap.size + 1 + 1 := by omega
      obtain ⟨x, hx0⟩ : ∃ x, x = getI g (k : Int) := ⟨_, rfl⟩
      rw [← hx0] at cgk
      have HX0 := Lib.hid hx0.symm
      clear hx0
      rcases hfa with rfl | ⟨hfa0, hfa1⟩
      · skip
        rcases hmo with rfl | ⟨hmo0, hmo1⟩
        · skip
          have HB := Lib.hid (show badAt f.1 c g k = false by rw [badAt_at HX.out, badP]; simp)
          clear HX HG HL HC hgw hcw hhw ha
          go_wp2_with fail
          go_quiet (fail)
          go_wp2
          go_roundw
          case rel => exact ⟨k + 1, by omega, by go_num, by rw [← badsTo_no hlt HB.out]; exact hM.out.keep (by repeat' (first | (with_reducible exact Zone.refl _ _ _) | (with_reducible refine zone_drewN ?_ _) | (with_reducible refine Zone.setCell ?_ (by first | (left; omega) | (right; omega) | (left; simp; omega) | (right; simp; omega) | (left; simp; done) | (right; simp; done)) _) | (with_reducible refine Zone.alloc ?_ (by first | omega | (simp; omega) | simp) _) | (with_reducible refine Zone.drew ?_))), (by repeat' (first | (with_reducible exact OffF.refl _ _) | (with_reducible assumption) | (with_reducible refine offF_drewN ?_ _) | (with_reducible refine OffF.drew ?_) | (with_reducible refine OffF.setCell ?_ (by simp) _) | (with_reducible refine OffF.alloc ?_ _)))⟩
          case measure => simp [intOf]; omega
        · skip
          obtain ⟨v, rfl⟩ := Int.eq_ofNat_of_zero_le hmo0
          have hvn : v < f.1.length := by omega
          have vI : (v : Int) < (g.length : Int) := by have := HL.out; omega
          have cgv := hgw.num (i := v) (by have := HL.out; omega)
          obtain ⟨gv0, gv1⟩ := HG.out v hvn
          obtain ⟨gv, hgv⟩ := Int.eq_ofNat_of_zero_le gv0
          rw [hgv] at cgv gv1
          have gvl : gv < c.1.length := by omega
          have cvh := hhw.num (i := gv) gvl
          obtain ⟨hv0, hv1⟩ := getI_in (inv_range (xs := c.1)) (i := gv) (by rw [inv_len]; exact gvl)
          have HV := Lib.hid (show getI g (v : Int) = (gv : Int) from hgv)
          obtain ⟨hv, hhv⟩ := Int.eq_ofNat_of_zero_le hv0
          rw [hhv] at cvh hv1
          have gvI : (gv : Int) < (c.1.length : Int) := by omega
          have hvI : (hv : Int) < (c.2.length : Int) := by have := HC.out; omega
          have cz := hcw.num (i := hv) (by have := HC.out; omega)
          obtain ⟨z0, hz0⟩ : ∃ y, y = getI c.2 (hv : Int) := ⟨_, rfl⟩
          rw [← hz0] at cz
          have HZ := Lib.hid (show getI c.2 (getI (inv c.1) (getI g (v : Int))) = z0 by rw [HV.out, hhv, hz0])
          clear hgv hhv hz0 gv0 gv1 hv0 hv1 HV
          by_cases e2 : x = z0
          · have e2a : (x == z0) = true := by simpa using e2
            have e2b : (x != z0) = false := by simpa using e2
            have E2 := Lib.hid e2
            clear e2
            have HB := Lib.hid (show badAt f.1 c g k = false by rw [badAt_at HX.out, badP]; rw [HZ.out, HX0.out, E2.out]; simp)
            clear HX HG HL HC hgw hcw hhw ha
            go_wp2_with fail
            go_quiet (fail)
            go_wp2
            go_roundw
            case rel => exact ⟨k + 1, by omega, by go_num, by rw [← badsTo_no hlt HB.out]; exact hM.out.keep (by repeat' (first | (with_reducible exact Zone.refl _ _ _) | (with_reducible refine zone_drewN ?_ _) | (with_reducible refine Zone.setCell ?_ (by first | (left; omega) | (right; omega) | (left; simp; omega) | (right; simp; omega) | (left; simp; done) | (right; simp; done)) _) | (with_reducible refine Zone.alloc ?_ (by first | omega | (simp; omega) | simp) _) | (with_reducible refine Zone.drew ?_))), (by repeat' (first | (with_reducible exact OffF.refl _ _) | (with_reducible assumption) | (with_reducible refine offF_drewN ?_ _) | (with_reducible refine OffF.drew ?_) | (with_reducible refine OffF.setCell ?_ (by simp) _) | (with_reducible refine OffF.alloc ?_ _)))⟩
            case measure => simp [intOf]; omega
          · have e2a : (x == z0) = false := by simpa using e2
            have e2b : (x != z0) = true := by simpa using e2
            have E2 := Lib.hid e2
            clear e2
            have HB := Lib.hid (show badAt f.1 c g k = true by rw [badAt_at HX.out, badP]; rw [HZ.out, HX0.out]; simp [E2.out])
            clear HX HG HL HC hgw hcw hhw ha
            go_wp2_with fail
            go_quiet (fail)
            obtain ⟨yb, -, hcb, hfb, -⟩ := hM.out.bool_at0 (i := k) hlt
            go_wp2
            go_roundw
            case rel => exact ⟨k + 1, by omega, by go_num, by rw [← badsTo_set hlt, HB.out]; exact Ow.bool_set0 (hM.out.keep (by repeat' (first | (with_reducible exact Zone.refl _ _ _) | (with_reducible refine zone_drewN ?_ _) | (with_reducible refine Zone.setCell ?_ (by first | (left; omega) | (right; omega) | (left; simp; omega) | (right; simp; omega) | (left; simp; done) | (right; simp; done)) _) | (with_reducible refine Zone.alloc ?_ (by first | omega | (simp; omega) | simp) _) | (with_reducible refine Zone.drew ?_)))) hlt true, (by repeat' (first | (with_reducible exact OffF.refl _ _) | (with_reducible assumption) | (with_reducible refine offF_drewN ?_ _) | (with_reducible refine OffF.drew ?_) | (with_reducible refine OffF.setCell ?_ (by simp) _) | (with_reducible refine OffF.alloc ?_ _)))⟩
            case measure => simp [intOf]; omega
      · skip
        obtain ⟨u, rfl⟩ := Int.eq_ofNat_of_zero_le hfa0
        have hun : u < f.1.length := by omega
        have uI : (u : Int) < (g.length : Int) := by have := HL.out; omega
        have cgu := hgw.num (i := u) (by have := HL.out; omega)
        obtain ⟨gu0, gu1⟩ := HG.out u hun
        have HU := Lib.hid (show getI g (u : Int) = getI g (u : Int) from rfl)
        obtain ⟨gu, hgu⟩ := Int.eq_ofNat_of_zero_le gu0
        rw [hgu] at cgu gu1
        have guI : (gu : Int) < (c.2.length : Int) := by have := HC.out; omega
        have cy := hcw.num (i := gu) (by have := HC.out; omega)
        obtain ⟨y, hy⟩ : ∃ y, y = getI c.2 (gu : Int) := ⟨_, rfl⟩
        rw [← hy] at cy
        have HY := Lib.hid (show getI c.2 (getI g (u : Int)) = y by rw [hgu, hy])
        clear hgu hy HU gu0 gu1
        by_cases e1 : x = y
        · have e1a : (x == y) = true := by simpa using e1
          have e1b : (x != y) = false := by simpa using e1
          have E1 := Lib.hid e1
          clear e1
          rcases hmo with rfl | ⟨hmo0, hmo1⟩
          · skip
            have HB := Lib.hid (show badAt f.1 c g k = false by rw [badAt_at HX.out, badP]; rw [HY.out, HX0.out]; simp [E1.out])
            clear HX HG HL HC hgw hcw hhw ha
            go_wp2_with fail
            go_quiet (fail)
            go_wp2
            go_roundw
            case rel => exact ⟨k + 1, by omega, by go_num, by rw [← badsTo_no hlt HB.out]; exact hM.out.keep (by repeat' (first | (with_reducible exact Zone.refl _ _ _) | (with_reducible refine zone_drewN ?_ _) | (with_reducible refine Zone.setCell ?_ (by first | (left; omega) | (right; omega) | (left; simp; omega) | (right; simp; omega) | (left; simp; done) | (right; simp; done)) _) | (with_reducible refine Zone.alloc ?_ (by first | omega | (simp; omega) | simp) _) | (with_reducible refine Zone.drew ?_))), (by repeat' (first | (with_reducible exact OffF.refl _ _) | (with_reducible assumption) | (with_reducible refine offF_drewN ?_ _) | (with_reducible refine OffF.drew ?_) | (with_reducible refine OffF.setCell ?_ (by simp) _) | (with_reducible refine OffF.alloc ?_ _)))⟩
            case measure => simp [intOf]; omega
          · skip
            obtain ⟨v, rfl⟩ := Int.eq_ofNat_of_zero_le hmo0
            have hvn : v < f.1.length := by omega
            have vI : (v : Int) < (g.length : Int) := by have := HL.out; omega
            have cgv := hgw.num (i := v) (by have := HL.out; omega)
            obtain ⟨gv0, gv1⟩ := HG.out v hvn
            obtain ⟨gv, hgv⟩ := Int.eq_ofNat_of_zero_le gv0
            rw [hgv] at cgv gv1
            have gvl : gv < c.1.length := by omega
            have cvh := hhw.num (i := gv) gvl
            obtain ⟨hv0, hv1⟩ := getI_in (inv_range (xs := c.1)) (i := gv) (by rw [inv_len]; exact gvl)
            have HV := Lib.hid (show getI g (v : Int) = (gv : Int) from hgv)
            obtain ⟨hv, hhv⟩ := Int.eq_ofNat_of_zero_le hv0
            rw [hhv] at cvh hv1
            have gvI : (gv : Int) < (c.1.length : Int) := by omega
            have hvI : (hv : Int) < (c.2.length : Int) := by have := HC.out; omega
            have cz := hcw.num (i := hv) (by have := HC.out; omega)
            obtain ⟨z0, hz0⟩ : ∃ y, y = getI c.2 (hv : Int) := ⟨_, rfl⟩
            rw [← hz0] at cz
            have HZ := Lib.hid (show getI c.2 (getI (inv c.1) (getI g (v : Int))) = z0 by rw [HV.out, hhv, hz0])
            clear hgv hhv hz0 gv0 gv1 hv0 hv1 HV
            by_cases e2 : x = z0
            · have e2a : (x == z0) = true := by simpa using e2
              have e2b : (x != z0) = false := by simpa using e2
              have E2 := Lib.hid e2
              clear e2
              have HB := Lib.hid (show badAt f.1 c g k = false by rw [badAt_at HX.out, badP]; rw [HY.out, HZ.out, HX0.out]; simp [← E1.out, E2.out])
              clear HX HG HL HC hgw hcw hhw ha
              go_wp2_with fail
              go_quiet (fail)
              go_wp2
              go_roundw
              case rel => exact ⟨k + 1, by omega, by go_num, by rw [← badsTo_no hlt HB.out]; exact hM.out.keep (by repeat' (first | (with_reducible exact Zone.refl _ _ _) | (with_reducible refine zone_drewN ?_ _) | (with_reducible refine Zone.setCell ?_ (by first | (left; omega) | (right; omega) | (left; simp; omega) | (right; simp; omega) | (left; simp; done) | (right; simp; done)) _) | (with_reducible refine Zone.alloc ?_ (by first | omega | (simp; omega) | simp) _) | (with_reducible refine Zone.drew ?_))), (by repeat' (first | (with_reducible exact OffF.refl _ _) | (with_reducible assumption) | (with_reducible refine offF_drewN ?_ _) | (with_reducible refine OffF.drew ?_) | (with_reducible refine OffF.setCell ?_ (by simp) _) | (with_reducible refine OffF.alloc ?_ _)))⟩
              case measure => simp [intOf]; omega
            · have e2a : (x == z0) = false := by simpa using e2
              have e2b : (x != z0) = true := by simpa using e2
              have E2 := Lib.hid e2
              clear e2
              have HB := Lib.hid (show badAt f.1 c g k = true by rw [badAt_at HX.out, badP]; rw [HY.out, HZ.out, HX0.out]; simp [← E1.out, E2.out])
              clear HX HG HL HC hgw hcw hhw ha
              go_wp2_with fail
              go_quiet (fail)
              obtain ⟨yb, -, hcb, hfb, -⟩ := hM.out.bool_at0 (i := k) hlt
              go_wp2
              go_roundw
              case rel => exact ⟨k + 1, by omega, by go_num, by rw [← badsTo_set hlt, HB.out]; exact Ow.bool_set0 (hM.out.keep (by repeat' (first | (with_reducible exact Zone.refl _ _ _) | (with_reducible refine zone_drewN ?_ _) | (with_reducible refine Zone.setCell ?_ (by first | (left; omega) | (right; omega) | (left; simp; omega) | (right; simp; omega) | (left; simp; done) | (right; simp; done)) _) | (with_reducible refine Zone.alloc ?_ (by first | omega | (simp; omega) | simp) _) | (with_reducible refine Zone.drew ?_)))) hlt true, (by repeat' (first | (with_reducible exact OffF.refl _ _) | (with_reducible assumption) | (with_reducible refine offF_drewN ?_ _) | (with_reducible refine OffF.drew ?_) | (with_reducible refine OffF.setCell ?_ (by simp) _) | (with_reducible refine OffF.alloc ?_ _)))⟩
              case measure => simp [intOf]; omega
        · have e1a : (x == y) = false := by simpa using e1
          have e1b : (x != y) = true := by simpa using e1
          have E1 := Lib.hid e1
          clear e1
          have HB := Lib.hid (show badAt f.1 c g k = true by rw [badAt_at HX.out, badP]; rw [HY.out, HX0.out]; simp [E1.out])
          clear HX HG HL HC hgw hcw hhw ha
          go_wp2_with fail
          go_quiet (fail)
          obtain ⟨yb, -, hcb, hfb, -⟩ := hM.out.bool_at0 (i := k) hlt
          go_wp2
          go_roundw
          case rel => exact ⟨k + 1, by omega, by go_num, by rw [← badsTo_set hlt, HB.out]; exact Ow.bool_set0 (hM.out.keep (by repeat' (first | (with_reducible exact Zone.refl _ _ _) | (with_reducible refine zone_drewN ?_ _) | (with_reducible refine Zone.setCell ?_ (by first | (left; omega) | (right; omega) | (left; simp; omega) | (right; simp; omega) | (left; simp; done) | (right; simp; done)) _) | (with_reducible refine Zone.alloc ?_ (by first | omega | (simp; omega) | simp) _) | (with_reducible refine Zone.drew ?_)))) hlt true, (by repeat' (first | (with_reducible exact OffF.refl _ _) | (with_reducible assumption) | (with_reducible refine offF_drewN ?_ _) | (with_reducible refine OffF.drew ?_) | (with_reducible refine OffF.setCell ?_ (by simp) _) | (with_reducible refine OffF.alloc ?_ _)))⟩
          case measure => simp [intOf]; omega
    · obtain rfl : k = f.1.length := by omega
      have nI : ¬ (f.1.length : Int) < (f.1.length : Int) := by omega
      clear HP ha hoh
      obtain ⟨M, hMe⟩ : ∃ M, M = badsTo f.1 c g f.1.length f.1.length := ⟨_, rfl⟩
      have hm := hM.out
      rw [← hMe] at hm
      have HM := Lib.hid (show errM f c g = (f.2.drop 0).foldl (badU c g) M by rw [hMe, List.drop_zero, errM])
      have hml : M.length = f.1.length := by rw [hMe]; exact badsTo_len _ _ _ _ _ (Nat.le_refl _)
      have HML := Lib.hid hml
      have hM0 := Lib.hid hm
      clear hM hm hMe hml
      obtain ⟨W1, hW1⟩ : ∃ W : World, W = wr := ⟨_, rfl⟩
      subst hW1
      have s1 := hbw.size
      have lW1 : w.heap.size + 1 + 1 < W1.heap.size := by omega
      go_wp2
      go_loopw [12, 81] (fun _ s81 wr => ∃ (k : Nat) (M : List Bool), k ≤ f.2.length ∧ s81 = .int .i64 k ∧ Hid (errM f c g = (f.2.drop k).foldl (badU c g) M) ∧ Hid (M.length = f.1.length) ∧ Ow (w.heap.size + 1 + 1) (w.heap.size + 1 + 1 + 1) wr [.slice (some ⟨w.heap.size + 1 + 1, 0, none⟩) f.1.length f.1.length] M ∧ OffF [w.heap.size + 1 + 1] W1 wr) (fun _ s81 _ => f.2.length - (intOf s81).toNat)
      case atStart => exact ⟨0, M, Nat.zero_le _, rfl, HM, HML, hM0.out, OffF.refl _ _⟩
      case round =>
        rename_i wr
        clear hM0 HM HML M
        obtain ⟨k, M, hk, rfl, HM, HML, hm, hoff3⟩ := hrel
        have hM := Lib.hid hm
        clear hm
        have sR := hoff3.size
        have hbw3 : Below w.heap.size w wr := hbw.trans (hoff3.toBelow s1 (fun b hb => by simp at hb; omega))
        have q_f1 := offc hoff3 hz1 (.inl (by omega)) l_f q_f1
        have q_c0 := offc hoff3 hz1 (.inl (by omega)) l_c q_c0
        have l_f := Nat.lt_of_lt_of_le l_f sR
        have l_c := Nat.lt_of_lt_of_le l_c sR
        by_cases hlt : k < f.2.length
        · have hI : (k : Int) < (f.2.length : Int) := by omega
          have hgw := h'.below hbw3
          have hww := hw.below hbw3
          obtain ⟨b, off, m, wo, fr, tl, rfl, hu, p0, p1, p2, p3, -, -, -, -, -, -, hbl, -⟩ := (hb.below hbw3).uni_at hlt
          obtain ⟨⟨um1, um2⟩, ⟨uw1, uw2⟩⟩ := uniOk_facts (HU.out k hlt) hu.out
          obtain ⟨mi, rfl⟩ := Int.eq_ofNat_of_zero_le um1
          obtain ⟨wi, rfl⟩ := Int.eq_ofNat_of_zero_le uw1
          have hmn : mi < f.1.length := by omega
          have hwn : wi < f.1.length := by omega
          obtain ⟨gb, goff, rfl, -, -, gbl⟩ := hgw.pos (by have := HL.out; omega)
          have mI : (mi : Int) < (g.length : Int) := by have := HL.out; omega
          have wI : (wi : Int) < (g.length : Int) := by have := HL.out; omega
          have nI : (wi : Int) < (f.1.length : Int) := by omega
          have cx := hgw.num (i := wi) (by have := HL.out; omega)
          have cm := hgw.num (i := mi) (by have := HL.out; omega)
          obtain ⟨gm0, gm1⟩ := HG.out mi hmn
          obtain ⟨gm, hgm⟩ := Int.eq_ofNat_of_zero_le gm0
          rw [hgm] at cm gm1
          have gmI : (gm : Int) < (c.1.length : Int) := gm1
          have cy := hww.num (i := gm) (by omega)
          have wbl' : wb < wr.heap.size := by omega
          have lWr : w.heap.size + 1 + 1 < wr.heap.size := by omega
          have nWr : ¬ w.heap.size + 1 + 1 = wr.heap.size := by omega
          have mWr : ¬ wr.heap.size = w.heap.size + 1 + 1 := by omega
          obtain ⟨x, hx0⟩ : ∃ x, x = getI g (wi : Int) := ⟨_, rfl⟩
          obtain ⟨y, hy0⟩ : ∃ y, y = getI c.1 (gm : Int) := ⟨_, rfl⟩
          rw [← hx0] at cx
          rw [← hy0] at cy
          have HS := Lib.hid (show (f.2.drop k).foldl (badU c g) M = (f.2.drop (k + 1)).foldl (badU c g) (if x = y then M else M.set wi true) by
            rw [drop_cons hu.out, List.foldl_cons, badU, hgm, ← hx0, ← hy0, Int.toNat_natCast])
          clear hu hgm hx0 hy0 gm0 gm1 HG HL HU hgw hww hb
          by_cases e1 : x = y
          · have e1a : (x == y) = true := by simpa using e1
            have e1b : (x != y) = false := by simpa using e1
            have HN := Lib.hid (show errM f c g = (f.2.drop (k + 1)).foldl (badU c g) M by rw [HM.out, HS.out, if_pos e1])
            clear e1 HM HS
            go_wp2_with fail
            go_quiet (fail)
            go_wp2
            go_roundw
            case rel => exact ⟨k + 1, M, by omega, by go_num, HN, HML, hM.out.keep (by repeat' (first | (with_reducible exact Zone.refl _ _ _) | (with_reducible refine zone_drewN ?_ _) | (with_reducible refine Zone.setCell ?_ (by first | (left; omega) | (right; omega) | (left; simp; omega) | (right; simp; omega) | (left; simp; done) | (right; simp; done)) _) | (with_reducible refine Zone.alloc ?_ (by first | omega | (simp; omega) | simp) _) | (with_reducible refine Zone.drew ?_))), (by repeat' (first | (with_reducible exact OffF.refl _ _) | (with_reducible assumption) | (with_reducible refine offF_drewN ?_ _) | (with_reducible refine OffF.drew ?_) | (with_reducible refine OffF.setCell ?_ (by simp) _) | (with_reducible refine OffF.alloc ?_ _)))⟩
            case measure => simp [intOf]; omega
          · have e1a : (x == y) = false := by simpa using e1
            have e1b : (x != y) = true := by simpa using e1
            have HN := Lib.hid (show errM f c g = (f.2.drop (k + 1)).foldl (badU c g) (M.set wi true) by rw [HM.out, HS.out, if_neg e1])
            have HNL := Lib.hid (show (M.set wi true).length = f.1.length by rw [List.length_set]; exact HML.out)
            clear e1 HM HS
            obtain ⟨yb, -, hcb, hfb, -⟩ := hM.out.bool_at0 (i := wi) hwn
            go_wp2_with fail
            go_quiet (fail)
            go_wp2
            go_roundw
            case rel => exact ⟨k + 1, M.set wi true, by omega, by go_num, HN, HNL, Ow.bool_set0 (hM.out.keep (by repeat' (first | (with_reducible exact Zone.refl _ _ _) | (with_reducible refine zone_drewN ?_ _) | (with_reducible refine Zone.setCell ?_ (by first | (left; omega) | (right; omega) | (left; simp; omega) | (right; simp; omega) | (left; simp; done) | (right; simp; done)) _) | (with_reducible refine Zone.alloc ?_ (by first | omega | (simp; omega) | simp) _) | (with_reducible refine Zone.drew ?_)))) hwn true, (by repeat' (first | (with_reducible exact OffF.refl _ _) | (with_reducible assumption) | (with_reducible refine offF_drewN ?_ _) | (with_reducible refine OffF.drew ?_) | (with_reducible refine OffF.setCell ?_ (by simp) _) | (with_reducible refine OffF.alloc ?_ _)))⟩
            case measure => simp [intOf]; omega
        · obtain rfl : k = f.2.length := by omega
          have nI2 : ¬ (f.2.length : Int) < (f.2.length : Int) := by omega
          have HE := Lib.hid (show errsL f c g = listedTo M M.length by
            have := HM.out
            rw [List.drop_length] at this
            rw [errsL, this, HML.out, List.foldl_nil])
          clear HM HU HG HL HC hb h'
          obtain ⟨W2, hW2⟩ : ∃ W : World, W = wr := ⟨_, rfl⟩
          subst hW2
          have s2 := hbw3.size
          have hml := HML.out
          have hM := Lib.hid (show Ow (w.heap.size + 1 + 1) (w.heap.size + 1 + 1 + 1) W2 [.slice (some ⟨w.heap.size + 1 + 1, 0, none⟩) M.length M.length] M by rw [hml]; exact hM.out)
          rw [← hml]
          have hml2 : M.length ≤ 40 := by omega
          clear hml HML
          go_wp2
          go_loopw [13, 14, 15, 107] (fun s13 _ _ s107 wi => ∃ k : Nat, k ≤ M.length ∧ s107 = .int .i64 k ∧ Hid (GL true W2.heap.size W2.heap.size wi.heap.size wi 3 s13 (listedTo M k)) ∧ Below W2.heap.size W2 wi) (fun _ _ _ s107 _ => M.length - (intOf s107).toNat)
          case atStart => exact ⟨0, Nat.zero_le _, rfl, Lib.hid (GL.start _ _ _ _ _ _), Below.refl _ _⟩
          case round =>
            obtain ⟨wi, hwi⟩ : ∃ wm : World, wm = wr := ⟨_, rfl⟩
            subst hwi
            obtain ⟨k, hk, rfl, hG, hbi⟩ := hrel
            have sI := hbi.size
            have hbwi : Below w.heap.size w wi := hbw3.trans (hbi.mono (by omega))
            by_cases hlt : k < M.length
            · have hI : (k : Int) < (M.length : Int) := by omega
              obtain ⟨t, ht, hct, hft, -, -, -⟩ := (hM.out.below hbi).bool_at0 (i := k) hlt
              have hG := hG.out
              have hll := listedTo_len M k
              cases t
              · have HN := Lib.hid (show GL true W2.heap.size W2.heap.size wi.heap.size wi 3 _ (listedTo M (k + 1)) by rw [listedTo_out ht.out]; exact hG)
                clear ht hG
                go_wp2
                go_roundw
                case rel => exact ⟨k + 1, by omega, by go_num, HN, hbi⟩
                case measure => simp [intOf]; omega
              · have HX := Lib.hid (listedTo_in ht.out)
                clear ht
                go_wp2_with (at_builtin; refine wpList_push rfl rfl slInt (by show (0 : Nat) < 1; omega) (hG.alloc _) rfl (ad := ⟨wi.heap.size, 0, none⟩) rfl (cs := [.int .i64 k]) (y := (k : Int)) (lx := wi.heap.size) (hx' := wi.heap.size) ?c1 (It.flat (z := true) (w0 := wi) (fp := []) ⟨rfl, ⟨by omega, by omega⟩, rfl⟩) (by omega) (.inl (by first | omega | (simp only [World.size_alloc, World.size_setCell, World.size_drew] at *; omega) | (simp; omega) | simp)) (by unfold maxLen; omega) (by omega) ?c2 ?_)
                case c1 =>
                  intro j c hj
                  match j, hj with
                  | 0, hj => simp at hj; subst hj; simp [Addr.add]
                case c2 => first | omega | (simp; omega)
                intro v1 w3 hG3 _ hb3
                have HN := Lib.hid (show GL true W2.heap.size W2.heap.size w3.heap.size w3 3 v1 (listedTo M (k + 1)) by rw [HX.out]; exact hG3)
                have hbi3 : Below W2.heap.size W2 w3 := Below.trans (by repeat' (first | (with_reducible exact Below.refl _ _) | (with_reducible assumption) | (with_reducible refine Below.alloc ?_ (by first | omega | (simp; omega) | simp) _) | (with_reducible refine Below.setCell ?_ (by first | omega | (simp; omega) | simp) _) | (with_reducible refine Below.drew ?_) | (with_reducible refine below_drewN ?_ _))) hb3
                clear hG hG3 hb3
                go_wp2
                go_roundw
                case rel => exact ⟨k + 1, by omega, by go_num, HN, hbi3⟩
                case measure => simp [intOf]; omega
            · obtain rfl : k = M.length := by omega
              have nI3 : ¬ (M.length : Int) < (M.length : Int) := by omega
              have HO := Lib.hid (show Ow w.heap.size wi.heap.size wi [_] (errsL f c g) by rw [HE.out]; exact GL.ow (l0 := w.heap.size) hG.out s2 s2)
              clear hG
              go_wp2
              go_ret
              exact ⟨_, rfl, HO.out, hbwi⟩
end Go.Proofs.Ytomigopkejlmcaa
