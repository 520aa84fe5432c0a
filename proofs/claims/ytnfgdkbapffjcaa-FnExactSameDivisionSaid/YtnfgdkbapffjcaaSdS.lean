/- Contract of SameDivision (spec). Written by sds_gen.py. -/
import Derived.Test.YtnfgdkbapffjcaaLtI
import Derived.Test.YtnfgdkbapffjcaaTwoS
import Derived.Test.YtnfgdkbapffjcaaDiv
namespace Go.Proofs.Ytnfgdkbapffjcaa
set_option linter.unusedVariables false
set_option linter.unusedSimpArgs false
open Go.RowKit

set_option maxRecDepth 20000 in
set_option maxHeartbeats 16000000 in
theorem sameDivS_b {z z1 : Bool} {lo hi lo1 hi1 : Nat} (w : World) (y1 y2 z1' z2' : Value) (y x : Trm) (h : Rd z lo hi w [y1, y2] y) (h' : Rd z1 lo1 hi1 w [z1', z2'] x) (n : Int) (R : Bool) (hR : R = sameDiv y x n) :
    Calls Try.prog 9 #[.agg #[y1, y2], .agg #[z1', z2'], .int .i64 n] w (PostB w R) := by
  obtain ⟨rs, es⟩ := y
  obtain ⟨rs2, es2⟩ := x
  have HY := Lib.hid h
  have HX := Lib.hid h'
  obtain ⟨hy1, hy2⟩ := h.two rfl
  obtain ⟨hx1, hx2⟩ := h'.two rfl
  dsimp only at hy1 hy2 hx1 hx2
  obtain ⟨ra, rn, rcap, rfl, -⟩ := hy1.shape
  obtain ⟨ea, en, ecap, rfl, -⟩ := hy2.shape
  obtain ⟨ra2, rn2, rcap2, rfl, -⟩ := hx1.shape
  obtain ⟨ea2, en2, ecap2, rfl, -⟩ := hx2.shape
  obtain ⟨r1, hlet_r1⟩ : ∃ r, r = isTerm (rs, es) := ⟨_, rfl⟩
  have H1 := Lib.hid hlet_r1
  clear hlet_r1
  obtain ⟨r2, hlet_r2⟩ : ∃ r, r = isTerm (rs2, es2) := ⟨_, rfl⟩
  have H2 := Lib.hid hlet_r2
  clear hlet_r2
  obtain ⟨d1, hlet_d1⟩ : ∃ r, r = divD (rs, es) (rs2, es2) (typesX 1 n) (typesX 1 n).length := ⟨_, rfl⟩
  have HD1 := Lib.hid hlet_d1
  clear hlet_d1
  obtain ⟨d2, hlet_d2⟩ : ∃ r, r = divD (rs, es) (rs2, es2) (typesX 2 n) (typesX 2 n).length := ⟨_, rfl⟩
  have HD2 := Lib.hid hlet_d2
  clear hlet_d2
  have HR := Lib.hid (show R = ((r1 && (r2 && decide (1 ≤ n ∧ n ≤ 3))) && (d1 && d2)) by rw [hR, sameDiv, sameV, H1.out, H2.out, HD1.out, HD2.out])
  clear h h' hy1 hy2 hx1 hx2 hR
  go_enter Try.func9, Try.ntmps9
  go_wp2_with fail
  refine (isTermS_b _ _ _ rs es (HY.out.below (by repeat' (first | (with_reducible exact Below.refl _ _) | (with_reducible assumption) | (with_reducible refine Below.alloc ?_ (by first | omega | (simp; omega) | simp) _) | (with_reducible refine Below.setCell ?_ (by first | omega | (simp; omega) | simp) _) | (with_reducible refine Below.drew ?_) | (with_reducible refine below_drewN ?_ _)))) r1 H1.out).mono ?_
  rintro e1 w1 ⟨rfl, hbw1⟩
  have hpw1 : Below w.heap.size w w1 := Below.after (by repeat' (first | (with_reducible exact Below.refl _ _) | (with_reducible assumption) | (with_reducible refine Below.alloc ?_ (by first | omega | (simp; omega) | simp) _) | (with_reducible refine Below.setCell ?_ (by first | omega | (simp; omega) | simp) _) | (with_reducible refine Below.drew ?_) | (with_reducible refine below_drewN ?_ _))) hbw1 (by first | omega | (simp only [World.size_alloc, World.size_setCell, World.size_drew] at *; omega) | (simp; omega) | simp)
  have sw1 := hpw1.size
  have hBw1 : Below w.heap.size w w1 := hpw1
  have l_y : w.heap.size < w1.heap.size := by have := hbw1.size; simp at this; omega
  have q_y0 : w1.cell? ⟨w.heap.size, 0, none⟩ = some (.slice ra rn rcap) := oldc hbw1 (by first | omega | (simp; omega) | (simp; done)) (by simp [go_sem])
  have q_y1 : w1.cell? ⟨w.heap.size, 1, none⟩ = some (.slice ea en ecap) := oldc hbw1 (by first | omega | (simp; omega) | (simp; done)) (by simp [go_sem])
  have l_x : w.heap.size + 1 < w1.heap.size := by have := hbw1.size; simp at this; omega
  have q_x0 : w1.cell? ⟨w.heap.size + 1, 0, none⟩ = some (.slice ra2 rn2 rcap2) := oldc hbw1 (by first | omega | (simp; omega) | (simp; done)) (by simp [go_sem])
  have q_x1 : w1.cell? ⟨w.heap.size + 1, 1, none⟩ = some (.slice ea2 en2 ecap2) := oldc hbw1 (by first | omega | (simp; omega) | (simp; done)) (by simp [go_sem])
  clear hbw1 hpw1
  cases r1
  · obtain rfl : R = false := by rw [HR.out]; rfl
    clear HR H1 H2 HY HX
    go_wp2
    go_ret
    exact ⟨rfl, hBw1⟩
  go_wp2_with fail
  refine (isTermS_b _ _ _ rs2 es2 (HX.out.below (by repeat' (first | (with_reducible exact Below.refl _ _) | (with_reducible assumption) | (with_reducible refine Below.alloc ?_ (by first | omega | (simp; omega) | simp) _) | (with_reducible refine Below.setCell ?_ (by first | omega | (simp; omega) | simp) _) | (with_reducible refine Below.drew ?_) | (with_reducible refine below_drewN ?_ _)))) r2 H2.out).mono ?_
  rintro e2 w2 ⟨rfl, hbw2⟩
  have hpw2 : Below w1.heap.size w1 w2 := Below.after (by repeat' (first | (with_reducible exact Below.refl _ _) | (with_reducible assumption) | (with_reducible refine Below.alloc ?_ (by first | omega | (simp; omega) | simp) _) | (with_reducible refine Below.setCell ?_ (by first | omega | (simp; omega) | simp) _) | (with_reducible refine Below.drew ?_) | (with_reducible refine below_drewN ?_ _))) hbw2 (by first | omega | (simp only [World.size_alloc, World.size_setCell, World.size_drew] at *; omega) | (simp; omega) | simp)
  have sw2 := hpw2.size
  have hBw2 : Below w.heap.size w w2 := Below.trans hBw1 (Below.mono hpw2 hBw1.size)
  have q_y0 := oldc hpw2 l_y q_y0
  have q_y1 := oldc hpw2 l_y q_y1
  have q_x0 := oldc hpw2 l_x q_x0
  have q_x1 := oldc hpw2 l_x q_x1
  have l_x := Nat.lt_of_lt_of_le l_x sw2
  have l_y := Nat.lt_of_lt_of_le l_y sw2
  clear hbw2 hpw2
  cases r2
  · obtain rfl : R = false := by rw [HR.out]; rfl
    clear HR H1 H2 HY HX
    go_wp2
    go_ret
    exact ⟨rfl, hBw2⟩
  obtain ⟨r3, hlet_r3⟩ : ∃ r, r = decide (1 ≤ n ∧ n ≤ 3) := ⟨_, rfl⟩
  have H3 := Lib.hid hlet_r3
  clear hlet_r3
  go_wp2_with fail
  refine (l1In_b n 1 3 _ r3 H3.out).mono ?_
  rintro e3 w3 ⟨rfl, hbw3⟩
  have hpw3 : Below w2.heap.size w2 w3 := Below.after (by repeat' (first | (with_reducible exact Below.refl _ _) | (with_reducible assumption) | (with_reducible refine Below.alloc ?_ (by first | omega | (simp; omega) | simp) _) | (with_reducible refine Below.setCell ?_ (by first | omega | (simp; omega) | simp) _) | (with_reducible refine Below.drew ?_) | (with_reducible refine below_drewN ?_ _))) hbw3 (by first | omega | (simp only [World.size_alloc, World.size_setCell, World.size_drew] at *; omega) | (simp; omega) | simp)
  have sw3 := hpw3.size
  have hBw3 : Below w.heap.size w w3 := Below.trans hBw2 (Below.mono hpw3 hBw2.size)
  have q_y0 := oldc hpw3 l_y q_y0
  have q_y1 := oldc hpw3 l_y q_y1
  have q_x0 := oldc hpw3 l_x q_x0
  have q_x1 := oldc hpw3 l_x q_x1
  have l_x := Nat.lt_of_lt_of_le l_x sw3
  have l_y := Nat.lt_of_lt_of_le l_y sw3
  clear hbw3 hpw3
  cases r3
  · obtain rfl : R = false := by rw [HR.out, ← H3.out]; rfl
    clear HR H1 H2 H3 HY HX
    go_wp2
    go_ret
    exact ⟨rfl, hBw3⟩
  have HRD := Lib.hid (show R = (d1 && d2) by rw [HR.out, ← H3.out]; rfl)
  have hn13 : 1 ≤ n ∧ n ≤ 3 := of_decide_eq_true H3.out.symm
  have HRS := Lib.hid (show allRules rs from (areRules_facts (isTerm_facts H1.out.symm).1).2.1)
  have HRS2 := Lib.hid (show allRules rs2 from (areRules_facts (isTerm_facts H2.out.symm).1).2.1)
  clear HR H3
  obtain ⟨W0, hW0⟩ : ∃ W0 : World, W0 = w3 := ⟨_, rfl⟩
  subst hW0
  have hB0 : Below w.heap.size w W0 := hBw3
  have s0 := hB0.size
  have ya0 := q_y0
  have ya1 := q_y1
  have xa0 := q_x0
  have xa1 := q_x1
  have lya : w.heap.size < W0.heap.size := l_y
  have lxa : w.heap.size + 1 < W0.heap.size := l_x
  clear q_y0 q_y1 q_x0 q_x1 l_y l_x
  go_wp2
  go_loopw [7, 8, 9, 11, 12, 13] (fun s7 _ _ _ _ _ wr => ∃ k : Nat, k ≤ 2 ∧ s7 = .int .i64 (1 + (k : Int)) ∧ Hid ((1 ≤ k → d1 = true) ∧ (2 ≤ k → d2 = true)) ∧ Below W0.heap.size W0 wr) (fun s7 _ _ _ _ _ _ => 3 - (intOf s7).toNat)
  case atStart => exact ⟨0, by omega, rfl, Lib.hid ⟨fun h => by omega, fun h => by omega⟩, Below.refl _ _⟩
  case round =>
    obtain ⟨wb, hwb⟩ : ∃ wm : World, wm = wr := ⟨_, rfl⟩
    subst hwb
    obtain ⟨k, hk, rfl, HK, hbb⟩ := hrel
    have sB := hbb.size
    have hBb : Below w.heap.size w wb := hB0.trans (hbb.mono s0)
    by_cases hk2 : k < 2
    · have hc : 1 + (k : Int) ≤ 2 := by omega
      go_wp2_with fail
      refine (typesFromS_any _ (1 + (k : Int)) n).mono ?_
      rintro e wT ⟨ut, rfl, ho, hbT⟩
      obtain ⟨T, hT⟩ : ∃ T, T = typesX (1 + (k : Int)) n := ⟨_, rfl⟩
      rw [← hT] at ho
      have hrd := Lib.hid ho.rd
      obtain ⟨tao, tn, tcap, rfl, htn, -, htm, -⟩ := ho.rd.shape
      subst htn
      have HTK := Lib.hid (show ∀ t ∈ T, isKin t = true from fun t ht => by rw [hT] at ht; exact (typesX_kin ht).1)
      have hTL : T.length ≤ 600 := by rw [hT]; exact typesX_len _ n
      obtain ⟨D, hlet_D⟩ : ∃ r, r = divD (rs, es) (rs2, es2) T T.length := ⟨_, rfl⟩
      have HD := Lib.hid hlet_D
      clear hlet_D
      have HDD := Lib.hid (show (k = 0 → D = d1) ∧ (k = 1 → D = d2) from ⟨fun e => by subst e; rw [HD.out, HD1.out, hT]; rfl, fun e => by subst e; rw [HD.out, HD2.out, hT]; rfl⟩)
      have hbT1 : Below wb.heap.size wb wT := Below.trans (show Below wb.heap.size wb _ from (by repeat' (first | (with_reducible exact Below.refl _ _) | (with_reducible assumption) | (with_reducible refine Below.alloc ?_ (by first | omega | (simp; omega) | simp) _) | (with_reducible refine Below.setCell ?_ (by first | omega | (simp; omega) | simp) _) | (with_reducible refine Below.drew ?_) | (with_reducible refine below_drewN ?_ _)))) (hbT.mono (by first | omega | (simp only [World.size_alloc, World.size_setCell, World.size_drew] at *; omega) | (simp; omega) | simp))
      have hbT0 : Below W0.heap.size W0 wT := hbb.trans (hbT1.mono sB)
      have sT := hbT0.size
      have sTb : wb.heap.size + 1 < wT.heap.size := by have := hbT.size; simp at this; omega
      have hBT : Below w.heap.size w wT := hB0.trans (hbT0.mono s0)
      have q_y0 := oldc hbT0 lya ya0
      have q_y1 := oldc hbT0 lya ya1
      have q_x0 := oldc hbT0 lxa xa0
      have q_x1 := oldc hbT0 lxa xa1
      have ly : w.heap.size < wT.heap.size := by omega
      have lx : w.heap.size + 1 < wT.heap.size := by omega
      clear ho hT hbT
      go_wp2
      go_loopw [8, 9, 11, 37] (fun s8 s9 _ s37 wr => ∃ i : Nat, i ≤ T.length ∧ s37 = .int .i64 i ∧ Hid (TwoS wT.heap.size wr 9 9 s8 s9 (tmL (rs, es) (T.take i)) (tmL (rs2, es2) (T.take i))) ∧ Below wT.heap.size wT wr) (fun _ _ _ s37 _ => T.length - (intOf s37).toNat)
      case atStart => exact ⟨0, Nat.zero_le _, rfl, Lib.hid ⟨GLZ.lit (by omega), GLZ.lit (by omega), fun g h => by simp [Value.ownBlock] at h ⊢; omega⟩, Below.refl _ _⟩
      case round =>
        obtain ⟨wc, hwc⟩ : ∃ wm : World, wm = wr := ⟨_, rfl⟩
        subst hwc
        obtain ⟨i, hi1, rfl, hTw, hTc⟩ := hrel
        have sTc := hTc.size
        by_cases hli : i < T.length
        · have hIi : (i : Int) < (T.length : Int) := by omega
          obtain ⟨tb, toff, t, tvv, rfl, ht, c0, c1, hti, hvs, hrt0, -, -, tlt⟩ := hrd.out.kin_at hli
          obtain ⟨sao, sn, scap, rfl, hsn, -⟩ := hvs.shape
          subst hsn
          have k0 := oldc hTc tlt c0
          have k1 := oldc hTc tlt c1
          have hrt := Lib.hid hrt0
          have HK1 := Lib.hid (HTK.out t (List.mem_of_getElem? ht.out))
          obtain ⟨q, hlet_q⟩ : ∃ r, r = tmText (termOf (rs, es) t) := ⟨_, rfl⟩
          have HQ := Lib.hid hlet_q
          clear hlet_q
          obtain ⟨q2, hlet_q2⟩ : ∃ r, r = tmText (termOf (rs2, es2) t) := ⟨_, rfl⟩
          have HQ2 := Lib.hid hlet_q2
          clear hlet_q2
          have HQL := Lib.hid (show q.size ≤ maxLen by rw [HQ.out]; exact tmText_le H1.out t)
          have HQL2 := Lib.hid (show q2.size ≤ maxLen by rw [HQ2.out]; exact tmText_le H2.out t)
          obtain ⟨L1, hL1⟩ : ∃ L, L = tmL (rs, es) (T.take i) := ⟨_, rfl⟩
          obtain ⟨L2, hL2⟩ : ∃ L, L = tmL (rs2, es2) (T.take i) := ⟨_, rfl⟩
          have hN1 : L1.length ≤ 600 := by rw [hL1, tmL_len, List.length_take]; omega
          have hN2 : L2.length ≤ 600 := by rw [hL2, tmL_len, List.length_take]; omega
          have HL1 := Lib.hid (show L1 ++ [q] = tmL (rs, es) (T.take (i + 1)) by rw [hL1, take_snoc ht.out, HQ.out]; simp [tmL])
          have HL2 := Lib.hid (show L2 ++ [q2] = tmL (rs2, es2) (T.take (i + 1)) by rw [hL2, take_snoc ht.out, HQ2.out]; simp [tmL])
          rw [← hL1, ← hL2] at hTw
          obtain ⟨WA, hWA⟩ : ∃ WA : World, WA = wc.alloc (.cells #[.int .i64 t.1, .slice sao t.2.length scap] 53) := ⟨_, rfl⟩
          have hbA : Below wc.heap.size wc WA := by subst hWA; exact (by repeat' (first | (with_reducible exact Below.refl _ _) | (with_reducible assumption) | (with_reducible refine Below.alloc ?_ (by first | omega | (simp; omega) | simp) _) | (with_reducible refine Below.setCell ?_ (by first | omega | (simp; omega) | simp) _) | (with_reducible refine Below.drew ?_) | (with_reducible refine below_drewN ?_ _)))
          have szA : WA.heap.size = wc.heap.size + 1 := by subst hWA; simp
          have a0 : WA.cell? ⟨wc.heap.size, 0, none⟩ = some (.int .i64 t.1) := by subst hWA; simp [go_sem]
          have a1 : WA.cell? ⟨wc.heap.size, 1, none⟩ = some (.slice sao t.2.length scap) := by subst hWA; simp [go_sem]
          have la : wc.heap.size < WA.heap.size := by omega
          have hTA : Below wT.heap.size wT WA := hTc.trans (hbA.mono sTc)
          have sTA := hTA.size
          have r_y0 := oldc hTA ly q_y0
          have r_y1 := oldc hTA ly q_y1
          have r_x0 := oldc hTA lx q_x0
          have r_x1 := oldc hTA lx q_x1
          have hBA : Below w.heap.size w WA := hBT.trans (hTA.mono hBT.size)
          have hTwA := Lib.hid (hTw.out.below hbA)
          have HO1 := Lib.hid (fun g h => hTw.out.one.olt (g := g) h)
          have HO2 := Lib.hid (fun g h => hTw.out.two.olt (g := g) h)
          have p_y0 := oldc hTc ly q_y0
          have p_y1 := oldc hTc ly q_y1
          have lyc : w.heap.size < wc.heap.size := by omega
          clear hL1 hL2 ht c0 c1 hti hvs hrt0 hTw
          go_wp2_with fail
          rw [← hWA]
          clear hWA
          refine (termTS_x _ _ _ _ _ rs es t (HY.out.below hBA) (hrt.out.below hTA) HRS.out HK1.out q HQ.out _ rfl).mono ?_
          rintro e w1 ⟨rfl, hb1⟩
          have s1 := hb1.size
          have hT1 : Below wT.heap.size wT w1 := hTA.trans (hb1.mono sTA)
          have a0 := oldc hb1 la a0
          have a1 := oldc hb1 la a1
          have la1 : wc.heap.size < w1.heap.size := by omega
          have hTw1 := Lib.hid ((hTwA.out.below hb1).below ((Below.refl _ _).alloc (Nat.le_refl _) (.cells #[.string q] 9)))
          clear hb1 hTwA
          go_wp2_with (at_builtin; refine wpList_push_z rfl rfl slStrS (by show (0 : Nat) < 1; omega) hTw1.out.one rfl (ad := ⟨w1.heap.size, 0, none⟩) rfl (cs := [.string q]) (y := q) ?c1 ⟨rfl, HQL.out, rfl⟩ (by unfold maxLen; omega) (by omega) ?c2 ?_)
          case c1 => intro j c hj; match j, hj with | 0, hj => simp at hj; subst hj; simp [Addr.add, go_sem]
          case c2 => simp; omega
          rintro g1 cp1 w2 hG5 hg5 hb5 hat
          have hTw2 := Lib.hid (hTw1.out.mk1 hG5 hg5 (by simpa using hat))
          rw [HL1.out] at hTw2
          have s2 := hb5.size
          have hT2 : Below wT.heap.size wT w2 := Below.trans (show Below wT.heap.size wT _ from (by repeat' (first | (with_reducible exact Below.refl _ _) | (with_reducible assumption) | (with_reducible refine Below.alloc ?_ (by first | omega | (simp; omega) | simp) _) | (with_reducible refine Below.setCell ?_ (by first | omega | (simp; omega) | simp) _) | (with_reducible refine Below.drew ?_) | (with_reducible refine below_drewN ?_ _)))) hb5
          have sz2 : wc.heap.size < w2.heap.size := by have := hg5.size; simp at this; omega
          have a0 : w2.cell? ⟨wc.heap.size, 0, none⟩ = some (.int .i64 t.1) := (World.cell?_of_block (a := ⟨wc.heap.size, 0, none⟩) (hg5.block wc.heap.size (by first | omega | (simp; omega) | (simp; done)) (fun e => by have := HO1.out _ e.symm; omega))).trans ((Below.cell ((Below.refl w1.heap.size w1).alloc (Nat.le_refl _) _) (p := ⟨wc.heap.size, 0, none⟩) la1).trans a0)
          have a1 : w2.cell? ⟨wc.heap.size, 1, none⟩ = some (.slice sao t.2.length scap) := (World.cell?_of_block (a := ⟨wc.heap.size, 1, none⟩) (hg5.block wc.heap.size (by first | omega | (simp; omega) | (simp; done)) (fun e => by have := HO1.out _ e.symm; omega))).trans ((Below.cell ((Below.refl w1.heap.size w1).alloc (Nat.le_refl _) _) (p := ⟨wc.heap.size, 1, none⟩) la1).trans a1)
          have r_x0 := oldc hT2 lx q_x0
          have r_x1 := oldc hT2 lx q_x1
          have hBw2 : Below w.heap.size w w2 := hBT.trans (hT2.mono hBT.size)
          clear hTw1 hG5 hg5 hat hb5 r_y0 r_y1 hT1 p_y0 p_y1
          go_wp2_with fail
          refine (termTS_x _ _ _ _ _ rs2 es2 t (HX.out.below hBw2) (hrt.out.below hT2) HRS2.out HK1.out q2 HQ2.out _ rfl).mono ?_
          rintro e w3 ⟨rfl, hb3⟩
          have s3 := hb3.size
          have hT3 : Below wT.heap.size wT w3 := hT2.trans (hb3.mono hT2.size)
          have hTw3 := Lib.hid ((hTw2.out.below hb3).below ((Below.refl _ _).alloc (Nat.le_refl _) (.cells #[.string q2] 9)))
          clear hb3 hTw2 a0 a1
          go_wp2_with (at_builtin; refine wpList_push_z rfl rfl slStrS (by show (0 : Nat) < 1; omega) hTw3.out.two rfl (ad := ⟨w3.heap.size, 0, none⟩) rfl (cs := [.string q2]) (y := q2) ?c1 ⟨rfl, HQL2.out, rfl⟩ (by unfold maxLen; omega) (by omega) ?c2 ?_)
          case c1 => intro j c hj; match j, hj with | 0, hj => simp at hj; subst hj; simp [Addr.add, go_sem]
          case c2 => have := hT3.size; simp; omega
          rintro g2 cp2 w4 hG5 hg5 hb5 hat
          have hTw4 := Lib.hid (hTw3.out.mk2 hG5 hg5 (by simpa using hat))
          rw [HL2.out] at hTw4
          have hT4 : Below wT.heap.size wT w4 := Below.trans (show Below wT.heap.size wT _ from (by repeat' (first | (with_reducible exact Below.refl _ _) | (with_reducible assumption) | (with_reducible refine Below.alloc ?_ (by first | omega | (simp; omega) | simp) _) | (with_reducible refine Below.setCell ?_ (by first | omega | (simp; omega) | simp) _) | (with_reducible refine Below.drew ?_) | (with_reducible refine below_drewN ?_ _)))) hb5
          obtain ⟨am1, cm1, em1, -, -⟩ := hTw4.out.one.len
          obtain ⟨am2, cm2, em2, -, -⟩ := hTw4.out.two.len
          clear hTw3 hG5 hg5 hat hb5 hT3 hT2 em1 em2
          go_wp2
          go_roundw
          case rel => exact ⟨i + 1, by omega, by go_num, hTw4, hT4⟩
          case measure => simp [intOf]; omega
        · obtain rfl : i = T.length := by omega
          have nI : ¬ (T.length : Int) < (T.length : Int) := by omega
          have hTw2 := hTw.out
          rw [List.take_length] at hTw2
          obtain ⟨ao1, cp1, rfl, -, -⟩ := hTw2.one.len
          obtain ⟨ao2, cp2, rfl, -, -⟩ := hTw2.two.len
          have HU1 := Lib.hid hTw2.one.rd
          have HU2 := Lib.hid hTw2.two.rd
          simp only [tmL_len] at HU1 HU2 ⊢
          clear hTw hTw2
          go_wp2
          go_loopw [12, 13, 56] (fun _ _ s56 wr => ∃ i : Nat, i ≤ T.length ∧ s56 = .int .i64 i ∧ Hid (divD (rs, es) (rs2, es2) T i = true) ∧ Below wc.heap.size wc wr) (fun _ _ s56 _ => T.length - (intOf s56).toNat)
          case atStart => exact ⟨0, Nat.zero_le _, rfl, Lib.hid rfl, Below.refl _ _⟩
          case round =>
            obtain ⟨wd, hwd⟩ : ∃ wm : World, wm = wr := ⟨_, rfl⟩
            subst hwd
            obtain ⟨i, hi1, rfl, HI, hXd⟩ := hrel
            have sXd := hXd.size
            by_cases hli : i < T.length
            · have hIi : (i : Int) < (T.length : Int) := by omega
              obtain ⟨s, hs⟩ : ∃ s, T[i]? = some s := ⟨_, List.getElem?_eq_getElem hli⟩
              have HS := Lib.hid hs
              clear hs
              go_wp2_with fail
              go_loopw [13] (fun s13 wr => ∃ j : Nat, j ≤ i ∧ s13 = .int .i64 j ∧ Hid (rowD (rs, es) (rs2, es2) T i j = true) ∧ Below wc.heap.size wc wr) (fun s13 _ => i - (intOf s13).toNat)
              case atStart => exact ⟨0, Nat.zero_le _, rfl, Lib.hid rfl, hXd⟩
              case round =>
                obtain ⟨we, hwe⟩ : ∃ wm : World, wm = wr := ⟨_, rfl⟩
                subst hwe
                obtain ⟨j, hj1, rfl, HJ, hXe⟩ := hrel
                have sXe := hXe.size
                by_cases hlj : j < i
                · have hJj : (j : Int) < (i : Int) := by omega
                  have hJl : (j : Int) < (T.length : Int) := by omega
                  have ljT : j < T.length := by omega
                  obtain ⟨t, ht⟩ : ∃ t, T[j]? = some t := ⟨_, List.getElem?_eq_getElem ljT⟩
                  have HT := Lib.hid ht
                  clear ht
                  obtain ⟨p, hlet_p⟩ : ∃ r, r = decide (termOf (rs, es) s = termOf (rs, es) t) := ⟨_, rfl⟩
                  have HP := Lib.hid hlet_p
                  clear hlet_p
                  obtain ⟨q, hlet_q⟩ : ∃ r, r = decide (termOf (rs2, es2) s = termOf (rs2, es2) t) := ⟨_, rfl⟩
                  have HQ := Lib.hid hlet_q
                  clear hlet_q
                  have HAG := Lib.hid (show agD (rs, es) (rs2, es2) T i j = decide (p = q) by unfold agD; rw [HS.out, HT.out, HP.out, HQ.out])
                  obtain ⟨xb, xo, x1, rfl, hx1, c1, -, -, -, l1, -⟩ := (HU1.out.below hXe).str_at hli
                  obtain ⟨_, _, x2, e, hx2, c2, -, -, -, l2, -⟩ := (HU1.out.below hXe).str_at ljT
                  simp only [Option.some.injEq, Addr.mk.injEq, and_true] at e
                  obtain ⟨rfl, rfl⟩ := e
                  obtain ⟨yb, yo, y1, rfl, hy1, d1', -, -, -, l3, -⟩ := (HU2.out.below hXe).str_at hli
                  obtain ⟨_, _, y2, e, hy2, d2', -, -, -, l4, -⟩ := (HU2.out.below hXe).str_at ljT
                  simp only [Option.some.injEq, Addr.mk.injEq, and_true] at e
                  obtain ⟨rfl, rfl⟩ := e
                  have hp : (x1.toList == x2.toList) = p := by
                    rw [text_eq, Option.some.inj (hx1.out.symm.trans (tmL_at HS.out)), Option.some.inj (hx2.out.symm.trans (tmL_at HT.out)), HP.out]
                    exact txt_eq H1.out s t
                  have hq : (y1.toList == y2.toList) = q := by
                    rw [text_eq, Option.some.inj (hy1.out.symm.trans (tmL_at HS.out)), Option.some.inj (hy2.out.symm.trans (tmL_at HT.out)), HQ.out]
                    exact txt_eq H2.out s t
                  clear hx1 hx2 hy1 hy2
                  have HPP := Lib.hid hp
                  have HQQ := Lib.hid hq
                  clear hp hq
                  go_upto_region 20 with fail
                  refine wp_region_held_drew (S := (fun w' => w'.cell? ⟨xb, xo + i, none⟩ = some (.string x1) ∧ w'.cell? ⟨xb, xo + j, none⟩ = some (.string x2) ∧ w'.cell? ⟨yb, yo + i, none⟩ = some (.string y1) ∧ w'.cell? ⟨yb, yo + j, none⟩ = some (.string y2))) (by kernel_rfl) ?_ (fun hHeld => ?_)
                  · first | exact trivial | ((try dsimp only); go_keep)
                  refine wpAnyH_take (i := 0) (oi := _) (v := ?_) (by simp only [List.getElem?_toArray, List.getElem?_cons_succ, List.getElem?_cons_zero]; rfl) (by kernel_rfl) (by kernel_rfl) (by kernel_rfl) (by exact fun _ _ _ h => h) (Or.inl ⟨by rfl, ?_⟩) (by assumption) ?_
                  rotate_left
                  · intro w hSw; (try dsimp only at hSw); go_simp <;> with_reducible rfl
                  try simp only [Act.put, List.setIfInBounds_toArray, List.set_cons_zero, List.set_cons_succ]
                  refine wpAnyH_take (i := 1) (oi := _) (v := ?_) (by simp only [List.getElem?_toArray, List.getElem?_cons_succ, List.getElem?_cons_zero]; rfl) (by kernel_rfl) (by kernel_rfl) (by kernel_rfl) (by exact fun _ _ _ h => h) (Or.inl ⟨by rfl, ?_⟩) (by assumption) ?_
                  rotate_left
                  · intro w hSw; (try dsimp only at hSw); go_simp <;> with_reducible rfl
                  try simp only [Act.put, List.setIfInBounds_toArray, List.set_cons_zero, List.set_cons_succ]
                  refine wpAnyH_take (i := 4) (oi := _) (v := ?_) (by simp only [List.getElem?_toArray, List.getElem?_cons_succ, List.getElem?_cons_zero]; rfl) (by kernel_rfl) (by kernel_rfl) (by kernel_rfl) (by exact fun _ _ _ h => h) (Or.inl ⟨by rfl, ?_⟩) (by assumption) ?_
                  rotate_left
                  · intro w hSw; (try dsimp only at hSw); go_simp <;> with_reducible rfl
                  try simp only [Act.put, List.setIfInBounds_toArray, List.set_cons_zero, List.set_cons_succ]
                  refine wpAnyH_take (i := 5) (oi := _) (v := ?_) (by simp only [List.getElem?_toArray, List.getElem?_cons_succ, List.getElem?_cons_zero]; rfl) (by kernel_rfl) (by kernel_rfl) (by kernel_rfl) (by exact fun _ _ _ h => h) (Or.inl ⟨by rfl, ?_⟩) (by assumption) ?_
                  rotate_left
                  · intro w hSw; (try dsimp only at hSw); go_simp <;> with_reducible rfl
                  try simp only [Act.put, List.setIfInBounds_toArray, List.set_cons_zero, List.set_cons_succ]
                  refine wpAnyH_take (i := 9) (oi := _) (v := ?_) (by simp only [List.getElem?_toArray, List.getElem?_cons_succ, List.getElem?_cons_zero]; rfl) (by kernel_rfl) (by kernel_rfl) (by kernel_rfl) (by exact fun _ _ _ h => h) (Or.inl ⟨by rfl, ?_⟩) (by assumption) ?_
                  rotate_left
                  · intro w hSw; (try dsimp only at hSw); go_simp <;> with_reducible rfl
                  try simp only [Act.put, List.setIfInBounds_toArray, List.set_cons_zero, List.set_cons_succ]
                  refine wpAnyH_take (i := 10) (oi := _) (v := ?_) (by simp only [List.getElem?_toArray, List.getElem?_cons_succ, List.getElem?_cons_zero]; rfl) (by kernel_rfl) (by kernel_rfl) (by kernel_rfl) (by exact fun _ _ _ h => h) (Or.inl ⟨by rfl, ?_⟩) (by assumption) ?_
                  rotate_left
                  · intro w hSw; (try dsimp only at hSw); go_simp <;> with_reducible rfl
                  try simp only [Act.put, List.setIfInBounds_toArray, List.set_cons_zero, List.set_cons_succ]
                  refine wpAnyH_take (i := 13) (oi := _) (v := ?_) (by simp only [List.getElem?_toArray, List.getElem?_cons_succ, List.getElem?_cons_zero]; rfl) (by kernel_rfl) (by kernel_rfl) (by kernel_rfl) (by exact fun _ _ _ h => h) (Or.inl ⟨by rfl, ?_⟩) (by assumption) ?_
                  rotate_left
                  · intro w hSw; (try dsimp only at hSw); go_simp <;> with_reducible rfl
                  try simp only [Act.put, List.setIfInBounds_toArray, List.set_cons_zero, List.set_cons_succ]
                  refine wpAnyH_take (i := 14) (oi := _) (v := ?_) (by simp only [List.getElem?_toArray, List.getElem?_cons_succ, List.getElem?_cons_zero]; rfl) (by kernel_rfl) (by kernel_rfl) (by kernel_rfl) (by exact fun _ _ _ h => h) (Or.inl ⟨by rfl, ?_⟩) (by assumption) ?_
                  rotate_left
                  · intro w hSw; (try dsimp only at hSw); go_simp <;> with_reducible rfl
                  try simp only [Act.put, List.setIfInBounds_toArray, List.set_cons_zero, List.set_cons_succ]
                  refine wpAnyH_take (i := 2) (oi := _) (v := ?_) (by simp only [List.getElem?_toArray, List.getElem?_cons_succ, List.getElem?_cons_zero]; rfl) (by kernel_rfl) (by kernel_rfl) (by kernel_rfl) (by exact fun _ _ _ h => h) (Or.inl ⟨by rfl, ?_⟩) (by assumption) ?_
                  rotate_left
                  · intro w hSw; (try dsimp only at hSw); go_simp <;> with_reducible rfl
                  try simp only [Act.put, List.setIfInBounds_toArray, List.set_cons_zero, List.set_cons_succ]
                  refine wpAnyH_take (i := 6) (oi := _) (v := ?_) (by simp only [List.getElem?_toArray, List.getElem?_cons_succ, List.getElem?_cons_zero]; rfl) (by kernel_rfl) (by kernel_rfl) (by kernel_rfl) (by exact fun _ _ _ h => h) (Or.inl ⟨by rfl, ?_⟩) (by assumption) ?_
                  rotate_left
                  · intro w hSw; (try dsimp only at hSw); go_simp <;> with_reducible rfl
                  try simp only [Act.put, List.setIfInBounds_toArray, List.set_cons_zero, List.set_cons_succ]
                  refine wpAnyH_take (i := 11) (oi := _) (v := ?_) (by simp only [List.getElem?_toArray, List.getElem?_cons_succ, List.getElem?_cons_zero]; rfl) (by kernel_rfl) (by kernel_rfl) (by kernel_rfl) (by exact fun _ _ _ h => h) (Or.inl ⟨by rfl, ?_⟩) (by assumption) ?_
                  rotate_left
                  · intro w hSw; (try dsimp only at hSw); go_simp <;> with_reducible rfl
                  try simp only [Act.put, List.setIfInBounds_toArray, List.set_cons_zero, List.set_cons_succ]
                  refine wpAnyH_take (i := 15) (oi := _) (v := ?_) (by simp only [List.getElem?_toArray, List.getElem?_cons_succ, List.getElem?_cons_zero]; rfl) (by kernel_rfl) (by kernel_rfl) (by kernel_rfl) (by exact fun _ _ _ h => h) (Or.inl ⟨by rfl, ?_⟩) (by assumption) ?_
                  rotate_left
                  · intro w hSw; (try dsimp only at hSw); go_simp <;> with_reducible rfl
                  try simp only [Act.put, List.setIfInBounds_toArray, List.set_cons_zero, List.set_cons_succ]
                  refine wpAnyH_take (i := 3) (oi := _) (v := ?_) (by simp only [List.getElem?_toArray, List.getElem?_cons_succ, List.getElem?_cons_zero]; rfl) (by kernel_rfl) (by kernel_rfl) (by kernel_rfl) (by exact fun _ _ _ h => h) (Or.inl ⟨by rfl, ?_⟩) (by assumption) ?_
                  rotate_left
                  · intro w hSw; (try dsimp only at hSw); go_simp <;> with_reducible rfl
                  try simp only [Act.put, List.setIfInBounds_toArray, List.set_cons_zero, List.set_cons_succ]
                  refine wpAnyH_take (i := 7) (oi := _) (v := ?_) (by simp only [List.getElem?_toArray, List.getElem?_cons_succ, List.getElem?_cons_zero]; rfl) (by kernel_rfl) (by kernel_rfl) (by kernel_rfl) (by exact fun _ _ _ h => h) (Or.inl ⟨by rfl, ?_⟩) (by assumption) ?_
                  rotate_left
                  · intro w hSw; (try dsimp only at hSw); go_simp <;> with_reducible rfl
                  try simp only [Act.put, List.setIfInBounds_toArray, List.set_cons_zero, List.set_cons_succ]
                  refine wpAnyH_take (i := 12) (oi := _) (v := ?_) (by simp only [List.getElem?_toArray, List.getElem?_cons_succ, List.getElem?_cons_zero]; rfl) (by kernel_rfl) (by kernel_rfl) (by kernel_rfl) (by exact fun _ _ _ h => h) (Or.inl ⟨by rfl, ?_⟩) (by assumption) ?_
                  rotate_left
                  · intro w hSw; (try dsimp only at hSw); go_simp <;> with_reducible rfl
                  try simp only [Act.put, List.setIfInBounds_toArray, List.set_cons_zero, List.set_cons_succ]
                  refine wpAnyH_take (i := 16) (oi := _) (v := ?_) (by simp only [List.getElem?_toArray, List.getElem?_cons_succ, List.getElem?_cons_zero]; rfl) (by kernel_rfl) (by kernel_rfl) (by kernel_rfl) (by exact fun _ _ _ h => h) (Or.inl ⟨by rfl, ?_⟩) (by assumption) ?_
                  rotate_left
                  · intro w hSw; (try dsimp only at hSw); go_simp <;> with_reducible rfl
                  try simp only [Act.put, List.setIfInBounds_toArray, List.set_cons_zero, List.set_cons_succ]
                  refine wpAnyH_take (i := 8) (oi := _) (v := ?_) (by simp only [List.getElem?_toArray, List.getElem?_cons_succ, List.getElem?_cons_zero]; rfl) (by kernel_rfl) (by kernel_rfl) (by kernel_rfl) (by exact fun _ _ _ h => h) (Or.inl ⟨by rfl, ?_⟩) (by assumption) ?_
                  rotate_left
                  · intro w hSw; (try dsimp only at hSw); go_simp <;> with_reducible rfl
                  try simp only [Act.put, List.setIfInBounds_toArray, List.set_cons_zero, List.set_cons_succ]
                  refine wpAnyH_take (i := 17) (oi := _) (v := ?_) (by simp only [List.getElem?_toArray, List.getElem?_cons_succ, List.getElem?_cons_zero]; rfl) (by kernel_rfl) (by kernel_rfl) (by kernel_rfl) (by exact fun _ _ _ h => h) (Or.inl ⟨by rfl, ?_⟩) (by assumption) ?_
                  rotate_left
                  · intro w hSw; (try dsimp only at hSw); go_simp <;> with_reducible rfl
                  try simp only [Act.put, List.setIfInBounds_toArray, List.set_cons_zero, List.set_cons_succ]
                  refine wpAnyH_take (i := 18) (oi := _) (v := ?_) (by simp only [List.getElem?_toArray, List.getElem?_cons_succ, List.getElem?_cons_zero]; rfl) (by kernel_rfl) (by kernel_rfl) (by kernel_rfl) (by exact fun _ _ _ h => h) (Or.inl ⟨by rfl, ?_⟩) (by assumption) ?_
                  rotate_left
                  · intro w hSw; (try dsimp only at hSw); go_simp <;> with_reducible rfl
                  try simp only [Act.put, List.setIfInBounds_toArray, List.set_cons_zero, List.set_cons_succ]
                  refine wpAnyH_done (by kernel_rfl) ?_ _
                  rw [HPP.out, HQQ.out]
                  have hXw5 : Below wc.heap.size wc we.drew := (by repeat' (first | (with_reducible exact Below.refl _ _) | (with_reducible assumption) | (with_reducible refine Below.alloc ?_ (by first | omega | (simp; omega) | simp) _) | (with_reducible refine Below.setCell ?_ (by first | omega | (simp; omega) | simp) _) | (with_reducible refine Below.drew ?_) | (with_reducible refine below_drewN ?_ _)))
                  have hBw5 : Below w.heap.size w we.drew := (hBT.trans (hTc.mono hBT.size)).trans (hXw5.mono (by omega))
                  have HNA := Lib.hid HAG.out
                  cases p <;> cases q
                  · have HJ2 := Lib.hid (show rowD (rs, es) (rs2, es2) T i (j + 1) = true by rw [rowD_succ, HJ.out, HNA.out]; rfl)
                    clear HJ HI
                    go_wp2
                    go_roundw
                    case rel => exact ⟨j + 1, by omega, by go_num, HJ2, hXw5⟩
                    case measure => simp [intOf]; omega
                  · have HF := Lib.hid (show R = false from divF_end HRD.out HD.out HDD.out hk2 (divD_bad hli (rowD_bad hlj (HNA.out.trans (by decide)))))
                    clear HRD HD HDD HK HI HJ
                    go_wp2
                    go_ret
                    exact ⟨ret_bool HF.out.symm, hBw5⟩
                  · have HF := Lib.hid (show R = false from divF_end HRD.out HD.out HDD.out hk2 (divD_bad hli (rowD_bad hlj (HNA.out.trans (by decide)))))
                    clear HRD HD HDD HK HI HJ
                    go_wp2
                    go_ret
                    exact ⟨ret_bool HF.out.symm, hBw5⟩
                  · have HJ2 := Lib.hid (show rowD (rs, es) (rs2, es2) T i (j + 1) = true by rw [rowD_succ, HJ.out, HNA.out]; rfl)
                    clear HJ HI
                    go_wp2
                    go_roundw
                    case rel => exact ⟨j + 1, by omega, by go_num, HJ2, hXw5⟩
                    case measure => simp [intOf]; omega
                · obtain rfl : j = i := by omega
                  have nJ : ¬ (j : Int) < (j : Int) := by omega
                  have HI2 := Lib.hid (show divD (rs, es) (rs2, es2) T (j + 1) = true by rw [divD_succ, HI.out, HJ.out]; rfl)
                  clear HI HJ
                  go_wp2_with fail
                  go_roundw
                  case rel => exact ⟨j + 1, by omega, by go_num, HI2, hXe⟩
                  case measure => simp [intOf]; omega
            · obtain rfl : i = T.length := by omega
              have nI : ¬ (T.length : Int) < (T.length : Int) := by omega
              have HDT := Lib.hid (show D = true by rw [HD.out]; exact HI.out)
              have HK2 := Lib.hid (show (1 ≤ k + 1 → d1 = true) ∧ (2 ≤ k + 1 → d2 = true) from ⟨fun _ => by by_cases h0 : k = 0; exact (HDD.out.1 h0).symm.trans HDT.out; exact HK.out.1 (by omega), fun _ => (HDD.out.2 (by omega)).symm.trans HDT.out⟩)
              clear HI HK HDD
              go_wp2
              go_roundw
              case rel => exact ⟨k + 1, by omega, by go_num, HK2, (hbT0.trans (hTc.mono sT)).trans (hXd.mono (by omega))⟩
              case measure => simp [intOf]; omega
    · obtain rfl : k = 2 := by omega
      have HF := Lib.hid (show R = true by rw [HRD.out, HK.out.1 (by omega), HK.out.2 (by omega)]; rfl)
      clear HRD HK
      go_wp2
      go_ret
      exact ⟨ret_bool HF.out.symm, hBb⟩
end Go.Proofs.Ytnfgdkbapffjcaa
