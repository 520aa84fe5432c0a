/- Contract of IsReciprocal (impl). Written by ir_gen.py. -/
import Derived.Test.YtdpkldapobbnpaaGreatDoorSdM
import Derived.Test.YtdpkldapobbnpaaGreatDoorDivM
namespace Go.Proofs.YtdpkldapobbnpaaGreatDoor
set_option linter.unusedVariables false
set_option linter.unusedSimpArgs false
open Go.RowKit
set_option maxRecDepth 20000 in
set_option maxHeartbeats 16000000 in
theorem isRecipI_b {z : Bool} {lo hi : Nat} (w : World) (y1 y2 : Value) (y : Trm) (h : Rd z lo hi w [y1, y2] y) (n : Int) (R : Bool) (hR : R = isRecip y n) :
  Calls Tryz.prog 18 #[.agg #[y1, y2], .int .i64 n] w (PostB w R) := by
 obtain ⟨rs, es⟩ := y
 have HY := Lib.hid h
 obtain ⟨hy1, hy2⟩ := h.two rfl
 dsimp only at hy1 hy2
 obtain ⟨ra, rn, rcap, rfl, -⟩ := hy1.shape
 obtain ⟨ea, en, ecap, rfl, -⟩ := hy2.shape
 obtain ⟨r1, hlet_r1⟩ : ∃ r, r = isTerm (rs, es) := ⟨_, rfl⟩
 have H1 := Lib.hid hlet_r1
 clear hlet_r1
 obtain ⟨d1, hlet_d1⟩ : ∃ r, r = divR (rs, es) (typesX 1 n) (typesX 1 n).length := ⟨_, rfl⟩
 have HD1 := Lib.hid hlet_d1
 clear hlet_d1
 obtain ⟨d2, hlet_d2⟩ : ∃ r, r = divR (rs, es) (typesX 2 n) (typesX 2 n).length := ⟨_, rfl⟩
 have HD2 := Lib.hid hlet_d2
 clear hlet_d2
 have HR := Lib.hid (show R = ((r1 && decide (1 ≤ n ∧ n ≤ 3)) && (d1 && d2)) by rw [hR, isRecip, H1.out, HD1.out, HD2.out])
 clear h hy1 hy2 hR
 go_enter Tryz.func18, Tryz.ntmps18
 go_wp2_with fail
 refine (isTermI_b _ _ _ rs es (HY.out.below bwT) r1 H1.out).mono ?_
 rintro e1 w1 ⟨rfl, hbw1⟩
 have hpw1 : Below w.heap.size w w1 := Below.after bwT hbw1 szT
 have sw1 := hpw1.size
 have hBw1 : Below w.heap.size w w1 := hpw1
 have l_y : w.heap.size < w1.heap.size := by have := hbw1.size; simp at this; omega
 have q_y0 : w1.cell? ⟨w.heap.size, 0, none⟩ = some (.slice ra rn rcap) := oldc hbw1 ltT (by simp [go_sem])
 have q_y1 : w1.cell? ⟨w.heap.size, 1, none⟩ = some (.slice ea en ecap) := oldc hbw1 ltT (by simp [go_sem])
 clear hbw1 hpw1
 cases r1
 ·obtain rfl : R = false := by rw [HR.out]; rfl
  clear HR H1 HY
  go_wp2
  go_ret
  exact ⟨rfl, hBw1⟩
 by_cases hn1 : n < 1
 ·obtain rfl : R = false := by rw [HR.out, decide_eq_false (by omega)]; rfl
  clear HR H1 HY
  go_wp2
  go_ret
  exact ⟨rfl, hBw1⟩
 by_cases hn3 : 3 < n
 ·obtain rfl : R = false := by rw [HR.out, decide_eq_false (by omega)]; rfl
  clear HR H1 HY
  go_wp2
  go_ret
  exact ⟨rfl, hBw1⟩
 have HRD := Lib.hid (show R = (d1 && d2) by rw [HR.out, decide_eq_true (by omega)]; rfl)
 clear HR
 have HRS := Lib.hid (show allRules rs from (areRules_facts (isTerm_facts H1.out.symm).1).2.1)
 obtain ⟨W0, hW0⟩ : ∃ W0 : World, W0 = w1 := ⟨_, rfl⟩
 subst hW0
 have hB0 : Below w.heap.size w W0 := hBw1
 have s0 := hB0.size
 have ya0 := q_y0
 have ya1 := q_y1
 have lya : w.heap.size < W0.heap.size := l_y
 clear q_y0 q_y1 l_y
 go_wp2
 go_loopw [5, 6, 7, 9, 10, 11, 12, 13, 14, 15] (fun s5 _ _ _ _ _ _ _ _ _ wr => ∃ k : Nat, k ≤ 2 ∧ s5 = .int .i64 (1 + (k : Int)) ∧ Hid ((1 ≤ k → d1 = true) ∧ (2 ≤ k → d2 = true)) ∧ Below W0.heap.size W0 wr) (fun s5 _ _ _ _ _ _ _ _ _ _ => 3 - (intOf s5).toNat)
 case atStart => exact ⟨0, by omega, rfl, Lib.hid ⟨fun h => by omega, fun h => by omega⟩, Below.refl _ _⟩
 case round =>
  obtain ⟨wb, hwb⟩ : ∃ wm : World, wm = wr := ⟨_, rfl⟩
  subst hwb
  obtain ⟨k, hk, rfl, HK, hbb⟩ := hrel
  have sB := hbb.size
  have hBb : Below w.heap.size w wb := hB0.trans (hbb.mono s0)
  by_cases hk2 : k < 2
  ·have hc : 1 + (k : Int) ≤ 2 := by omega
   go_wp2_with fail
   refine (typesFromI_any _ (1 + (k : Int)) n).mono ?_
   rintro e wT ⟨ut, rfl, ho, hbT⟩
   obtain ⟨T, hT⟩ : ∃ T, T = typesX (1 + (k : Int)) n := ⟨_, rfl⟩
   rw [← hT] at ho
   have hrd := Lib.hid ho.rd
   obtain ⟨tao, tn, tcap, rfl, htn, -, htm, -⟩ := ho.rd.shape
   subst htn
   have HTK := Lib.hid (show ∀ t ∈ T, isKin t = true from fun t ht => by rw [hT] at ht; exact (typesX_kin ht).1)
   have hTL : T.length ≤ 600 := by rw [hT]; exact typesX_len _ n
   obtain ⟨D, hlet_D⟩ : ∃ r, r = divR (rs, es) T T.length := ⟨_, rfl⟩
   have HD := Lib.hid hlet_D
   clear hlet_D
   have HDD := Lib.hid (show (k = 0 → D = d1) ∧ (k = 1 → D = d2) from ⟨fun e => by subst e; rw [HD.out, HD1.out, hT]; rfl, fun e => by subst e; rw [HD.out, HD2.out, hT]; rfl⟩)
   have hbT1 : Below wb.heap.size wb wT := Below.trans (show Below wb.heap.size wb _ from bwT) (hbT.mono szT)
   have hbT0 : Below W0.heap.size W0 wT := hbb.trans (hbT1.mono sB)
   have sT := hbT0.size
   have hBT : Below w.heap.size w wT := hB0.trans (hbT0.mono s0)
   have q_y0 := oldc hbT0 lya ya0
   have q_y1 := oldc hbT0 lya ya1
   have ly : w.heap.size < wT.heap.size := by omega
   clear ho hT hbT hbT1
   go_wp2
   go_loopw [7, 9, 10, 11, 36] (fun s7 _ _ _ s36 wr => ∃ i : Nat, i ≤ T.length ∧ s36 = .int .i64 i ∧ Hid (GL true wT.heap.size wT.heap.size wr.heap.size wr 36 s7 ((T.take i).map revX)) ∧ Below wT.heap.size wT wr) (fun _ _ _ _ s36 _ => T.length - (intOf s36).toNat)
   case atStart => exact ⟨0, Nat.zero_le _, rfl, Lib.hid (GL.start _ _ _ _ _ _), Below.refl _ _⟩
   case round =>
    obtain ⟨wl, hwl⟩ : ∃ wm : World, wm = wr := ⟨_, rfl⟩
    subst hwl
    obtain ⟨i, hi1, rfl, hG, hTl⟩ := hrel
    have sTl := hTl.size
    by_cases hli : i < T.length
    ·have hIi : (i : Int) < (T.length : Int) := by omega
     obtain ⟨tb, toff, t, tvv, rfl, ht, c0, c1, hti, hvs, hrt0, -, -, tlt⟩ := hrd.out.kin_at hli
     obtain ⟨sao, sn, scap, rfl, hsn, -⟩ := hvs.shape
     subst hsn
     have k0 := oldc hTl tlt c0
     have k1 := oldc hTl tlt c1
     have hrt := Lib.hid hrt0
     have HL1 := Lib.hid (show (T.take i).map revX ++ [revX t] = (T.take (i + 1)).map revX by rw [take_snoc ht.out]; simp)
     have hN1 : ((T.take i).map revX).length ≤ 600 := by rw [List.length_map, List.length_take]; omega
     obtain ⟨L1, hL1⟩ : ∃ L, L = (T.take i).map revX := ⟨_, rfl⟩
     rw [← hL1] at hG HL1 hN1
     obtain ⟨u1, hu1⟩ : ∃ u, u = revX t := ⟨_, rfl⟩
     have HU := Lib.hid hu1
     rw [← hu1] at HL1
     clear hL1 ht c0 c1 hti hvs hrt0
     go_wp2_with fail
     refine (reverseI_any _ _ _ t (hrt.out.below ?b1)).mono ?_
     case b1 => exact bwT
     rw [← hu1]
     clear hu1
     rintro e w1 ⟨v1, rfl, ho1, hb1⟩
     obtain ⟨u1e, u1l⟩ := u1
     obtain ⟨_, hu1e, hu1b⟩ := ho1.rd.kin
     obtain ⟨vao, vn, vcap, rfl, hvn, -⟩ := hu1b.shape
     have s1 := hb1.size
     simp only [World.size_alloc] at s1
     have hT1 : Below wT.heap.size wT w1 := Below.trans (show Below wT.heap.size wT _ from hTl.alloc sTl _) (hb1.mono szT)
     have hG1 := Lib.hid (((hG.out.alloc _).below hb1).below ((Below.refl w1.heap.size w1).alloc (Nat.le_refl _) (.cells #[.int .i64 u1e, .slice vao vn vcap] 36)))
     have hG2 := Lib.hid (hG1.out.alloc (.cells #[.int .i64 u1e, .slice vao vn vcap] 36))
     have hy := Lib.hid ((Ow.below (Ow.below ho1 ((Below.refl w1.heap.size w1).alloc (Nat.le_refl _) (.cells #[.int .i64 u1e, .slice vao vn vcap] 36))) ((Below.refl _ _).alloc (Nat.le_refl _) (.cells #[.int .i64 u1e, .slice vao vn vcap] 36))).it)
     clear hb1 hG1 ho1 hG hu1b
     go_wp2_with (at_builtin; refine wpList_push_at rfl rfl slKin (by show (0 : Nat) < 2; omega) hG2.out rfl (ad := ⟨w1.heap.size + 1, 0, none⟩) rfl (cs := [.int .i64 u1e, .slice vao vn vcap]) (y := (u1e, u1l)) ?c1 hy.out (by simp; omega) (.inl (by simp)) (by unfold maxLen; omega) (by omega) (by simp; omega) ?_)
     case c1 =>
      intro j c hj
      match j, hj with
      | 0, hj => simp at hj; subst hj; simp [Addr.add, go_sem]
      | 1, hj => simp at hj; subst hj; simp [Addr.add, go_sem]
     rintro g1 cp1 w2 hG5 - hb5 -
     have hN := Lib.hid hG5
     rw [HL1.out] at hN
     have hT2 : Below wT.heap.size wT w2 := Below.trans (show Below wT.heap.size wT _ from bwT) hb5
     clear hG5 hb5 hG2 hy HL1
     go_wp2
     go_roundw
     case rel => exact ⟨i + 1, by omega, by go_num, hN, hT2⟩
     case measure => simp [intOf]; omega
    ·obtain rfl : i = T.length := by omega
     have nI : ¬ (T.length : Int) < (T.length : Int) := by omega
     have hG2 := hG.out
     rw [List.take_length] at hG2
     obtain ⟨T2, hT2⟩ : ∃ T2, T2 = T.map revX := ⟨_, rfl⟩
     have hT2l : T2.length = T.length := by rw [hT2]; simp
     have HT2K := Lib.hid (show ∀ t ∈ T2, isKin t = true from fun t ht => by rw [hT2] at ht; obtain ⟨s, -, rfl⟩ := List.mem_map.1 ht; exact revX_kin s)
     have HT2 := Lib.hid hT2
     rw [← hT2] at hG2
     obtain ⟨bao, bcap, rfl, -, -⟩ := hG2.len
     have hrd2 := Lib.hid (hG2.rd (l0 := 0) (Nat.zero_le _) (Nat.zero_le _))
     have hT2L : T2.length ≤ 600 := by omega
     have HT2l := Lib.hid hT2l
     clear hG hG2 hT2 hT2l
     have hbL0 : Below W0.heap.size W0 wl := hbT0.trans (hTl.mono sT)
     have hBL : Below w.heap.size w wl := hB0.trans (hbL0.mono s0)
     have p_y0 := oldc hTl ly q_y0
     have p_y1 := oldc hTl ly q_y1
     have lyl : w.heap.size < wl.heap.size := by omega
     have hrdl := Lib.hid (hrd.out.below hTl)
     go_upto_region 14 with fail
     go_cut [12, 13] (fun s12 s13 wx => ∃ (G1 G2 : Nat) (u1 v1 u2 v2 : Value), s12 = .pointer (some ⟨G1, 0, none⟩) ∧ s13 = .pointer (some ⟨G2, 0, none⟩) ∧ wx.cell? ⟨G1, 0, none⟩ = some (.slice tao T.length tcap) ∧ wx.cell? ⟨G1, 1, none⟩ = some u1 ∧ wx.cell? ⟨G1, 2, none⟩ = some v1 ∧ wx.cell? ⟨G2, 0, none⟩ = some (.slice bao T2.length bcap) ∧ wx.cell? ⟨G2, 1, none⟩ = some u2 ∧ wx.cell? ⟨G2, 2, none⟩ = some v2 ∧ G1 < wx.heap.size ∧ G2 < wx.heap.size ∧ Hid (Rd true 0 wx.heap.size wx [u1] (tmL (rs, es) T)) ∧ Hid (Rd true 0 wx.heap.size wx [v1] (tmB (rs, es) T)) ∧ Hid (Rd true 0 wx.heap.size wx [u2] (tmL (rs, es) T2)) ∧ Hid (Rd true 0 wx.heap.size wx [v2] (tmB (rs, es) T2)) ∧ Below wl.heap.size wl wx)
     case first =>
      refine wp_region_held_drew (S := (fun w' => w'.cell? ⟨w.heap.size, 0, none⟩ = some (.slice ra rn rcap) ∧ w'.cell? ⟨w.heap.size, 1, none⟩ = some (.slice ea en ecap))) (by kernel_rfl) ?_ (fun hHeld => ?_)
      ·first | exact trivial | ((try dsimp only); go_keep)
      refine tkA 0 ?_
      try simp only [Act.put, cA, cB, cC]
      refine tkA 1 ?_
      try simp only [Act.put, cA, cB, cC]
      refine tkA 3 ?_
      try simp only [Act.put, cA, cB, cC]
      refine tkA 4 ?_
      try simp only [Act.put, cA, cB, cC]
      refine wpAnyH_ready (rs := [2, 6, 7]) (by kernel_rfl) (by simp) ?_
      refine rdR (fun K hK => ?_) ?_
      ·go_simp
       refine (listTermsI_any _ _ _ _ rs es T (HY.out.below ?b1) (hrdl.out.below ?b2) H1.out HTK.out hTL).mono ?_
       case b1 => exact bwT
       case b2 => exact bwT
       rintro e2 w2 ⟨u1, v1, rfl, hu1, hv1, hb2⟩
       have hp2 : Below wl.heap.size wl w2 := Below.trans (show Below wl.heap.size wl _ from bwT) (hb2.mono szT)
       have sz2 := hp2.size
       have hS2 := And.intro (oldc hp2 lyl p_y0) (oldc hp2 lyl p_y1)
       have hBw2 : Below w.heap.size w w2 := hBL.trans (hp2.mono hBL.size)
       have : w.heap.size < w2.heap.size := by omega
       have : ¬ w.heap.size = w2.heap.size := by omega
       have : ¬ w2.heap.size = w.heap.size := by omega
       have : ¬ w.heap.size = w2.heap.size + 1 := by omega
       have : ¬ w2.heap.size + 1 = w.heap.size := by omega
       obtain ⟨ao1, n1, cp1, rfl, -⟩ := hu1.shape
       obtain ⟨bo1, m1, dp1, rfl, -⟩ := hv1.shape
       have HU1 := Lib.hid hu1
       have HV1 := Lib.hid hv1
       clear hb2 hu1 hv1
       refine hK.out _ _ ?_ (fun hHeld => ?_)
       ·exact kpT
       clear hK K
       try simp only [Act.put, cA, cB, cC]
       refine wpAnyH_ready (rs := [5, 6, 7]) (by kernel_rfl) (by simp) ?_
       refine rdR (fun K hK => ?_) ?_
       ·go_simp
        refine (listTermsI_any _ _ _ _ rs es T2 (HY.out.below ?b1) (hrd2.out.below ?b2) H1.out HT2K.out hT2L).mono ?_
        case b1 => exact bwT
        case b2 => exact bwT
        rintro e3 w3 ⟨u2, v2, rfl, hu2, hv2, hb3⟩
        have hp3 : Below wl.heap.size wl w3 := Below.trans (show Below wl.heap.size wl _ from bwT) (hb3.mono szT)
        have hp23 : Below w2.heap.size w2 w3 := Below.trans (show Below w2.heap.size w2 _ from bwT) (hb3.mono szT)
        have sz3 := hp3.size
        have sz23 := hp23.size
        have hS3 := And.intro (oldc hp3 lyl p_y0) (oldc hp3 lyl p_y1)
        have hBw3 : Below w.heap.size w w3 := hBL.trans (hp3.mono hBL.size)
        have : w.heap.size < w3.heap.size := by omega
        have : ¬ w.heap.size = w3.heap.size := by omega
        have : ¬ w3.heap.size = w.heap.size := by omega
        have : ¬ w.heap.size = w3.heap.size + 1 := by omega
        have : ¬ w3.heap.size + 1 = w.heap.size := by omega
        obtain ⟨ao2, n2, cp2, rfl, -⟩ := hu2.shape
        obtain ⟨bo2, m2, dp2, rfl, -⟩ := hv2.shape
        have HU2 := Lib.hid hu2
        have HV2 := Lib.hid hv2
        replace HU1 := Lib.hid (HU1.out.below hp23)
        replace HV1 := Lib.hid (HV1.out.below hp23)
        clear hb3 hu2 hv2
        refine hK.out _ _ ?_ (fun hHeld => ?_)
        ·exact kpT
        clear hK K
        try simp only [Act.put, cA, cB, cC]
        refine wpAnyH_ready (rs := [6, 7]) (by kernel_rfl) (by simp) ?_
        refine rdR (fun K hK => ?_) ?_
        ·go_simp
         refine hK.out _ _ ?_ (fun hHeld => ?_)
         ·exact kpT
         clear hK K
         try simp only [Act.put, cA, cB, cC]
         refine wpAnyH_ready (rs := [7]) (by kernel_rfl) (by simp) ?_
         refine rdR (fun K hK => ?_) ?_
         ·go_simp
          refine hK.out _ _ ?_ (fun hHeld => ?_)
          ·exact kpT
          clear hK K
          try simp only [Act.put, cA, cB, cC]
          refine wpAnyH_ready (rs := [8]) (by kernel_rfl) (by simp) ?_
          refine rdR (fun K hK => ?_) ?_
          ·go_simp
           refine hK.out _ _ ?_ (fun hHeld => ?_)
           ·exact kpT
           clear hK K
           try simp only [Act.put, cA, cB, cC]
           refine wpAnyH_ready (rs := [9]) (by kernel_rfl) (by simp) ?_
           refine rdR (fun K hK => ?_) ?_
           ·go_simp
            refine hK.out _ _ ?_ (fun hHeld => ?_)
            ·exact kpT
            clear hK K
            try simp only [Act.put, cA, cB, cC]
            refine wpAnyH_done (by kernel_rfl) ?_ _
            go_wp2_with fail
            go_meet
            exact ⟨_, _, _, _, _, _, rfl, rfl, by simp [go_sem, *], by simp [go_sem, *], by simp [go_sem, *], by simp [go_sem, *], by simp [go_sem, *], by simp [go_sem, *], ltT, ltT, Lib.hid (HU1.out.keep zgT).all, Lib.hid (HV1.out.keep zgT).all, Lib.hid (HU2.out.keep zgT).all, Lib.hid (HV2.out.keep zgT).all, bwT⟩
           exact AllReadyH.nil
          exact AllReadyH.nil
         exact AllReadyH.nil
        refine rdR (fun K hK => ?_) ?_
        ·go_simp
         refine hK.out _ _ ?_ (fun hHeld => ?_)
         ·exact kpT
         clear hK K
         try simp only [Act.put, cA, cB, cC]
         refine wpAnyH_ready (rs := [6]) (by kernel_rfl) (by simp) ?_
         refine rdR (fun K hK => ?_) ?_
         ·go_simp
          refine hK.out _ _ ?_ (fun hHeld => ?_)
          ·exact kpT
          clear hK K
          try simp only [Act.put, cA, cB, cC]
          refine wpAnyH_ready (rs := [8]) (by kernel_rfl) (by simp) ?_
          refine rdR (fun K hK => ?_) ?_
          ·go_simp
           refine hK.out _ _ ?_ (fun hHeld => ?_)
           ·exact kpT
           clear hK K
           try simp only [Act.put, cA, cB, cC]
           refine wpAnyH_ready (rs := [9]) (by kernel_rfl) (by simp) ?_
           refine rdR (fun K hK => ?_) ?_
           ·go_simp
            refine hK.out _ _ ?_ (fun hHeld => ?_)
            ·exact kpT
            clear hK K
            try simp only [Act.put, cA, cB, cC]
            refine wpAnyH_done (by kernel_rfl) ?_ _
            go_wp2_with fail
            go_meet
            exact ⟨_, _, _, _, _, _, rfl, rfl, by simp [go_sem, *], by simp [go_sem, *], by simp [go_sem, *], by simp [go_sem, *], by simp [go_sem, *], by simp [go_sem, *], ltT, ltT, Lib.hid (HU1.out.keep zgT).all, Lib.hid (HV1.out.keep zgT).all, Lib.hid (HU2.out.keep zgT).all, Lib.hid (HV2.out.keep zgT).all, bwT⟩
           exact AllReadyH.nil
          exact AllReadyH.nil
         exact AllReadyH.nil
        exact AllReadyH.nil
       refine rdR (fun K hK => ?_) ?_
       ·go_simp
        refine hK.out _ _ ?_ (fun hHeld => ?_)
        ·exact kpT
        clear hK K
        try simp only [Act.put, cA, cB, cC]
        refine wpAnyH_ready (rs := [5, 7]) (by kernel_rfl) (by simp) ?_
        refine rdR (fun K hK => ?_) ?_
        ·go_simp
         refine (listTermsI_any _ _ _ _ rs es T2 (HY.out.below ?b1) (hrd2.out.below ?b2) H1.out HT2K.out hT2L).mono ?_
         case b1 => exact bwT
         case b2 => exact bwT
         rintro e3 w3 ⟨u2, v2, rfl, hu2, hv2, hb3⟩
         have hp3 : Below wl.heap.size wl w3 := Below.trans (show Below wl.heap.size wl _ from bwT) (hb3.mono szT)
         have hp23 : Below w2.heap.size w2 w3 := Below.trans (show Below w2.heap.size w2 _ from bwT) (hb3.mono szT)
         have sz3 := hp3.size
         have sz23 := hp23.size
         have hS3 := And.intro (oldc hp3 lyl p_y0) (oldc hp3 lyl p_y1)
         have hBw3 : Below w.heap.size w w3 := hBL.trans (hp3.mono hBL.size)
         have : w.heap.size < w3.heap.size := by omega
         have : ¬ w.heap.size = w3.heap.size := by omega
         have : ¬ w3.heap.size = w.heap.size := by omega
         have : ¬ w.heap.size = w3.heap.size + 1 := by omega
         have : ¬ w3.heap.size + 1 = w.heap.size := by omega
         have zcl : w2.heap.size < w3.heap.size := by have := hb3.size; (try simp at this); omega
         have zc0 : w3.cell? ⟨w2.heap.size, 0, none⟩ = some (.slice none 0 0) := oldc hb3 ltT (by simp [go_sem])
         have zc1 : w3.cell? ⟨w2.heap.size, 1, none⟩ = some (.slice none 0 0) := oldc hb3 ltT (by simp [go_sem])
         have zc2 : w3.cell? ⟨w2.heap.size, 2, none⟩ = some (.slice none 0 0) := oldc hb3 ltT (by simp [go_sem])
         have zcf : ∀ o, w3.frozen? ⟨w2.heap.size, o, none⟩ = false := fun o => (hb3.frozen (p := ⟨w2.heap.size, o, none⟩) ltT).trans (by simp [go_sem])
         obtain ⟨ao2, n2, cp2, rfl, -⟩ := hu2.shape
         obtain ⟨bo2, m2, dp2, rfl, -⟩ := hv2.shape
         have HU2 := Lib.hid hu2
         have HV2 := Lib.hid hv2
         replace HU1 := Lib.hid (HU1.out.below hp23)
         replace HV1 := Lib.hid (HV1.out.below hp23)
         have nb46 : ¬ w2.heap.size = w3.heap.size := by omega
         have nb47 : ¬ w3.heap.size = w2.heap.size := by omega
         have nb54 : ¬ w2.heap.size = w3.heap.size + 1 := by omega
         have nb55 : ¬ w3.heap.size + 1 = w2.heap.size := by omega
         clear hb3 hu2 hv2
         refine hK.out _ _ ?_ (fun hHeld => ?_)
         ·exact kpT
         clear hK K
         try simp only [Act.put, cA, cB, cC]
         refine wpAnyH_ready (rs := [7]) (by kernel_rfl) (by simp) ?_
         refine rdR (fun K hK => ?_) ?_
         ·go_simp
          refine hK.out _ _ ?_ (fun hHeld => ?_)
          ·exact kpT
          clear hK K
          try simp only [Act.put, cA, cB, cC]
          refine wpAnyH_ready (rs := [8]) (by kernel_rfl) (by simp) ?_
          refine rdR (fun K hK => ?_) ?_
          ·go_simp
           refine hK.out _ _ ?_ (fun hHeld => ?_)
           ·exact kpT
           clear hK K
           try simp only [Act.put, cA, cB, cC]
           refine wpAnyH_ready (rs := [9]) (by kernel_rfl) (by simp) ?_
           refine rdR (fun K hK => ?_) ?_
           ·go_simp
            refine hK.out _ _ ?_ (fun hHeld => ?_)
            ·exact kpT
            clear hK K
            try simp only [Act.put, cA, cB, cC]
            refine wpAnyH_done (by kernel_rfl) ?_ _
            go_wp2_with fail
            go_meet
            exact ⟨_, _, _, _, _, _, rfl, rfl, by simp [go_sem, *], by simp [go_sem, *], by simp [go_sem, *], by simp [go_sem, *], by simp [go_sem, *], by simp [go_sem, *], ltT, ltT, Lib.hid (HU1.out.keep zgT).all, Lib.hid (HV1.out.keep zgT).all, Lib.hid (HU2.out.keep zgT).all, Lib.hid (HV2.out.keep zgT).all, bwT⟩
           exact AllReadyH.nil
          exact AllReadyH.nil
         exact AllReadyH.nil
        refine rdR (fun K hK => ?_) ?_
        ·go_simp
         refine hK.out _ _ ?_ (fun hHeld => ?_)
         ·exact kpT
         clear hK K
         try simp only [Act.put, cA, cB, cC]
         refine wpAnyH_ready (rs := [5]) (by kernel_rfl) (by simp) ?_
         refine rdR (fun K hK => ?_) ?_
         ·go_simp
          refine (listTermsI_any _ _ _ _ rs es T2 (HY.out.below ?b1) (hrd2.out.below ?b2) H1.out HT2K.out hT2L).mono ?_
          case b1 => exact bwT
          case b2 => exact bwT
          rintro e3 w3 ⟨u2, v2, rfl, hu2, hv2, hb3⟩
          have hp3 : Below wl.heap.size wl w3 := Below.trans (show Below wl.heap.size wl _ from bwT) (hb3.mono szT)
          have hp23 : Below w2.heap.size w2 w3 := Below.trans (show Below w2.heap.size w2 _ from bwT) (hb3.mono szT)
          have sz3 := hp3.size
          have sz23 := hp23.size
          have hS3 := And.intro (oldc hp3 lyl p_y0) (oldc hp3 lyl p_y1)
          have hBw3 : Below w.heap.size w w3 := hBL.trans (hp3.mono hBL.size)
          have : w.heap.size < w3.heap.size := by omega
          have : ¬ w.heap.size = w3.heap.size := by omega
          have : ¬ w3.heap.size = w.heap.size := by omega
          have : ¬ w.heap.size = w3.heap.size + 1 := by omega
          have : ¬ w3.heap.size + 1 = w.heap.size := by omega
          have zcl : w2.heap.size < w3.heap.size := by have := hb3.size; (try simp at this); omega
          have zc0 : w3.cell? ⟨w2.heap.size, 0, none⟩ = some (.slice none 0 0) := oldc hb3 ltT (by simp [go_sem])
          have zc1 : w3.cell? ⟨w2.heap.size, 1, none⟩ = some (.slice none 0 0) := oldc hb3 ltT (by simp [go_sem])
          have zc2 : w3.cell? ⟨w2.heap.size, 2, none⟩ = some (.slice none 0 0) := oldc hb3 ltT (by simp [go_sem])
          have zcf : ∀ o, w3.frozen? ⟨w2.heap.size, o, none⟩ = false := fun o => (hb3.frozen (p := ⟨w2.heap.size, o, none⟩) ltT).trans (by simp [go_sem])
          have zdl : w2.heap.size + 1 < w3.heap.size := by have := hb3.size; (try simp at this); omega
          have zd0 : w3.cell? ⟨w2.heap.size + 1, 0, none⟩ = some (.slice none 0 0) := oldc hb3 ltT (by simp [go_sem])
          have zd1 : w3.cell? ⟨w2.heap.size + 1, 1, none⟩ = some (.slice none 0 0) := oldc hb3 ltT (by simp [go_sem])
          have zd2 : w3.cell? ⟨w2.heap.size + 1, 2, none⟩ = some (.slice none 0 0) := oldc hb3 ltT (by simp [go_sem])
          have zdf : ∀ o, w3.frozen? ⟨w2.heap.size + 1, o, none⟩ = false := fun o => (hb3.frozen (p := ⟨w2.heap.size + 1, o, none⟩) ltT).trans (by simp [go_sem])
          obtain ⟨ao2, n2, cp2, rfl, -⟩ := hu2.shape
          obtain ⟨bo2, m2, dp2, rfl, -⟩ := hv2.shape
          have HU2 := Lib.hid hu2
          have HV2 := Lib.hid hv2
          replace HU1 := Lib.hid (HU1.out.below hp23)
          replace HV1 := Lib.hid (HV1.out.below hp23)
          have nb46 : ¬ w2.heap.size = w3.heap.size := by omega
          have nb47 : ¬ w3.heap.size = w2.heap.size := by omega
          have nb48 : ¬ w2.heap.size + 1 = w3.heap.size := by omega
          have nb49 : ¬ w3.heap.size = w2.heap.size + 1 := by omega
          have nb54 : ¬ w2.heap.size = w3.heap.size + 1 := by omega
          have nb55 : ¬ w3.heap.size + 1 = w2.heap.size := by omega
          have nb56 : ¬ w2.heap.size + 1 = w3.heap.size + 1 := by omega
          have nb57 : ¬ w3.heap.size + 1 = w2.heap.size + 1 := by omega
          clear hb3 hu2 hv2
          refine hK.out _ _ ?_ (fun hHeld => ?_)
          ·exact kpT
          clear hK K
          try simp only [Act.put, cA, cB, cC]
          refine wpAnyH_ready (rs := [8]) (by kernel_rfl) (by simp) ?_
          refine rdR (fun K hK => ?_) ?_
          ·go_simp
           refine hK.out _ _ ?_ (fun hHeld => ?_)
           ·exact kpT
           clear hK K
           try simp only [Act.put, cA, cB, cC]
           refine wpAnyH_ready (rs := [9]) (by kernel_rfl) (by simp) ?_
           refine rdR (fun K hK => ?_) ?_
           ·go_simp
            refine hK.out _ _ ?_ (fun hHeld => ?_)
            ·exact kpT
            clear hK K
            try simp only [Act.put, cA, cB, cC]
            refine wpAnyH_done (by kernel_rfl) ?_ _
            go_wp2_with fail
            go_meet
            exact ⟨_, _, _, _, _, _, rfl, rfl, by simp [go_sem, *], by simp [go_sem, *], by simp [go_sem, *], by simp [go_sem, *], by simp [go_sem, *], by simp [go_sem, *], ltT, ltT, Lib.hid (HU1.out.keep zgT).all, Lib.hid (HV1.out.keep zgT).all, Lib.hid (HU2.out.keep zgT).all, Lib.hid (HV2.out.keep zgT).all, bwT⟩
           exact AllReadyH.nil
          exact AllReadyH.nil
         exact AllReadyH.nil
        exact AllReadyH.nil
       refine rdR (fun K hK => ?_) ?_
       ·go_simp
        refine hK.out _ _ ?_ (fun hHeld => ?_)
        ·exact kpT
        clear hK K
        try simp only [Act.put, cA, cB, cC]
        refine wpAnyH_ready (rs := [5, 6]) (by kernel_rfl) (by simp) ?_
        refine rdR (fun K hK => ?_) ?_
        ·go_simp
         refine (listTermsI_any _ _ _ _ rs es T2 (HY.out.below ?b1) (hrd2.out.below ?b2) H1.out HT2K.out hT2L).mono ?_
         case b1 => exact bwT
         case b2 => exact bwT
         rintro e3 w3 ⟨u2, v2, rfl, hu2, hv2, hb3⟩
         have hp3 : Below wl.heap.size wl w3 := Below.trans (show Below wl.heap.size wl _ from bwT) (hb3.mono szT)
         have hp23 : Below w2.heap.size w2 w3 := Below.trans (show Below w2.heap.size w2 _ from bwT) (hb3.mono szT)
         have sz3 := hp3.size
         have sz23 := hp23.size
         have hS3 := And.intro (oldc hp3 lyl p_y0) (oldc hp3 lyl p_y1)
         have hBw3 : Below w.heap.size w w3 := hBL.trans (hp3.mono hBL.size)
         have : w.heap.size < w3.heap.size := by omega
         have : ¬ w.heap.size = w3.heap.size := by omega
         have : ¬ w3.heap.size = w.heap.size := by omega
         have : ¬ w.heap.size = w3.heap.size + 1 := by omega
         have : ¬ w3.heap.size + 1 = w.heap.size := by omega
         have zcl : w2.heap.size < w3.heap.size := by have := hb3.size; (try simp at this); omega
         have zc0 : w3.cell? ⟨w2.heap.size, 0, none⟩ = some (.slice none 0 0) := oldc hb3 ltT (by simp [go_sem])
         have zc1 : w3.cell? ⟨w2.heap.size, 1, none⟩ = some (.slice none 0 0) := oldc hb3 ltT (by simp [go_sem])
         have zc2 : w3.cell? ⟨w2.heap.size, 2, none⟩ = some (.slice none 0 0) := oldc hb3 ltT (by simp [go_sem])
         have zcf : ∀ o, w3.frozen? ⟨w2.heap.size, o, none⟩ = false := fun o => (hb3.frozen (p := ⟨w2.heap.size, o, none⟩) ltT).trans (by simp [go_sem])
         obtain ⟨ao2, n2, cp2, rfl, -⟩ := hu2.shape
         obtain ⟨bo2, m2, dp2, rfl, -⟩ := hv2.shape
         have HU2 := Lib.hid hu2
         have HV2 := Lib.hid hv2
         replace HU1 := Lib.hid (HU1.out.below hp23)
         replace HV1 := Lib.hid (HV1.out.below hp23)
         have nb46 : ¬ w2.heap.size = w3.heap.size := by omega
         have nb47 : ¬ w3.heap.size = w2.heap.size := by omega
         have nb54 : ¬ w2.heap.size = w3.heap.size + 1 := by omega
         have nb55 : ¬ w3.heap.size + 1 = w2.heap.size := by omega
         clear hb3 hu2 hv2
         refine hK.out _ _ ?_ (fun hHeld => ?_)
         ·exact kpT
         clear hK K
         try simp only [Act.put, cA, cB, cC]
         refine wpAnyH_ready (rs := [6]) (by kernel_rfl) (by simp) ?_
         refine rdR (fun K hK => ?_) ?_
         ·go_simp
          refine hK.out _ _ ?_ (fun hHeld => ?_)
          ·exact kpT
          clear hK K
          try simp only [Act.put, cA, cB, cC]
          refine wpAnyH_ready (rs := [8]) (by kernel_rfl) (by simp) ?_
          refine rdR (fun K hK => ?_) ?_
          ·go_simp
           refine hK.out _ _ ?_ (fun hHeld => ?_)
           ·exact kpT
           clear hK K
           try simp only [Act.put, cA, cB, cC]
           refine wpAnyH_ready (rs := [9]) (by kernel_rfl) (by simp) ?_
           refine rdR (fun K hK => ?_) ?_
           ·go_simp
            refine hK.out _ _ ?_ (fun hHeld => ?_)
            ·exact kpT
            clear hK K
            try simp only [Act.put, cA, cB, cC]
            refine wpAnyH_done (by kernel_rfl) ?_ _
            go_wp2_with fail
            go_meet
            exact ⟨_, _, _, _, _, _, rfl, rfl, by simp [go_sem, *], by simp [go_sem, *], by simp [go_sem, *], by simp [go_sem, *], by simp [go_sem, *], by simp [go_sem, *], ltT, ltT, Lib.hid (HU1.out.keep zgT).all, Lib.hid (HV1.out.keep zgT).all, Lib.hid (HU2.out.keep zgT).all, Lib.hid (HV2.out.keep zgT).all, bwT⟩
           exact AllReadyH.nil
          exact AllReadyH.nil
         exact AllReadyH.nil
        refine rdR (fun K hK => ?_) ?_
        ·go_simp
         refine hK.out _ _ ?_ (fun hHeld => ?_)
         ·exact kpT
         clear hK K
         try simp only [Act.put, cA, cB, cC]
         refine wpAnyH_ready (rs := [5]) (by kernel_rfl) (by simp) ?_
         refine rdR (fun K hK => ?_) ?_
         ·go_simp
          refine (listTermsI_any _ _ _ _ rs es T2 (HY.out.below ?b1) (hrd2.out.below ?b2) H1.out HT2K.out hT2L).mono ?_
          case b1 => exact bwT
          case b2 => exact bwT
          rintro e3 w3 ⟨u2, v2, rfl, hu2, hv2, hb3⟩
          have hp3 : Below wl.heap.size wl w3 := Below.trans (show Below wl.heap.size wl _ from bwT) (hb3.mono szT)
          have hp23 : Below w2.heap.size w2 w3 := Below.trans (show Below w2.heap.size w2 _ from bwT) (hb3.mono szT)
          have sz3 := hp3.size
          have sz23 := hp23.size
          have hS3 := And.intro (oldc hp3 lyl p_y0) (oldc hp3 lyl p_y1)
          have hBw3 : Below w.heap.size w w3 := hBL.trans (hp3.mono hBL.size)
          have : w.heap.size < w3.heap.size := by omega
          have : ¬ w.heap.size = w3.heap.size := by omega
          have : ¬ w3.heap.size = w.heap.size := by omega
          have : ¬ w.heap.size = w3.heap.size + 1 := by omega
          have : ¬ w3.heap.size + 1 = w.heap.size := by omega
          have zcl : w2.heap.size < w3.heap.size := by have := hb3.size; (try simp at this); omega
          have zc0 : w3.cell? ⟨w2.heap.size, 0, none⟩ = some (.slice none 0 0) := oldc hb3 ltT (by simp [go_sem])
          have zc1 : w3.cell? ⟨w2.heap.size, 1, none⟩ = some (.slice none 0 0) := oldc hb3 ltT (by simp [go_sem])
          have zc2 : w3.cell? ⟨w2.heap.size, 2, none⟩ = some (.slice none 0 0) := oldc hb3 ltT (by simp [go_sem])
          have zcf : ∀ o, w3.frozen? ⟨w2.heap.size, o, none⟩ = false := fun o => (hb3.frozen (p := ⟨w2.heap.size, o, none⟩) ltT).trans (by simp [go_sem])
          have zdl : w2.heap.size + 1 < w3.heap.size := by have := hb3.size; (try simp at this); omega
          have zd0 : w3.cell? ⟨w2.heap.size + 1, 0, none⟩ = some (.slice none 0 0) := oldc hb3 ltT (by simp [go_sem])
          have zd1 : w3.cell? ⟨w2.heap.size + 1, 1, none⟩ = some (.slice none 0 0) := oldc hb3 ltT (by simp [go_sem])
          have zd2 : w3.cell? ⟨w2.heap.size + 1, 2, none⟩ = some (.slice none 0 0) := oldc hb3 ltT (by simp [go_sem])
          have zdf : ∀ o, w3.frozen? ⟨w2.heap.size + 1, o, none⟩ = false := fun o => (hb3.frozen (p := ⟨w2.heap.size + 1, o, none⟩) ltT).trans (by simp [go_sem])
          obtain ⟨ao2, n2, cp2, rfl, -⟩ := hu2.shape
          obtain ⟨bo2, m2, dp2, rfl, -⟩ := hv2.shape
          have HU2 := Lib.hid hu2
          have HV2 := Lib.hid hv2
          replace HU1 := Lib.hid (HU1.out.below hp23)
          replace HV1 := Lib.hid (HV1.out.below hp23)
          have nb46 : ¬ w2.heap.size = w3.heap.size := by omega
          have nb47 : ¬ w3.heap.size = w2.heap.size := by omega
          have nb48 : ¬ w2.heap.size + 1 = w3.heap.size := by omega
          have nb49 : ¬ w3.heap.size = w2.heap.size + 1 := by omega
          have nb54 : ¬ w2.heap.size = w3.heap.size + 1 := by omega
          have nb55 : ¬ w3.heap.size + 1 = w2.heap.size := by omega
          have nb56 : ¬ w2.heap.size + 1 = w3.heap.size + 1 := by omega
          have nb57 : ¬ w3.heap.size + 1 = w2.heap.size + 1 := by omega
          clear hb3 hu2 hv2
          refine hK.out _ _ ?_ (fun hHeld => ?_)
          ·exact kpT
          clear hK K
          try simp only [Act.put, cA, cB, cC]
          refine wpAnyH_ready (rs := [8]) (by kernel_rfl) (by simp) ?_
          refine rdR (fun K hK => ?_) ?_
          ·go_simp
           refine hK.out _ _ ?_ (fun hHeld => ?_)
           ·exact kpT
           clear hK K
           try simp only [Act.put, cA, cB, cC]
           refine wpAnyH_ready (rs := [9]) (by kernel_rfl) (by simp) ?_
           refine rdR (fun K hK => ?_) ?_
           ·go_simp
            refine hK.out _ _ ?_ (fun hHeld => ?_)
            ·exact kpT
            clear hK K
            try simp only [Act.put, cA, cB, cC]
            refine wpAnyH_done (by kernel_rfl) ?_ _
            go_wp2_with fail
            go_meet
            exact ⟨_, _, _, _, _, _, rfl, rfl, by simp [go_sem, *], by simp [go_sem, *], by simp [go_sem, *], by simp [go_sem, *], by simp [go_sem, *], by simp [go_sem, *], ltT, ltT, Lib.hid (HU1.out.keep zgT).all, Lib.hid (HV1.out.keep zgT).all, Lib.hid (HU2.out.keep zgT).all, Lib.hid (HV2.out.keep zgT).all, bwT⟩
           exact AllReadyH.nil
          exact AllReadyH.nil
         exact AllReadyH.nil
        exact AllReadyH.nil
       exact AllReadyH.nil
      refine rdR (fun K hK => ?_) ?_
      ·go_simp
       refine hK.out _ _ ?_ (fun hHeld => ?_)
       ·exact kpT
       clear hK K
       try simp only [Act.put, cA, cB, cC]
       refine wpAnyH_ready (rs := [2, 7]) (by kernel_rfl) (by simp) ?_
       refine rdR (fun K hK => ?_) ?_
       ·go_simp
        refine (listTermsI_any _ _ _ _ rs es T (HY.out.below ?b1) (hrdl.out.below ?b2) H1.out HTK.out hTL).mono ?_
        case b1 => exact bwT
        case b2 => exact bwT
        rintro e2 w2 ⟨u1, v1, rfl, hu1, hv1, hb2⟩
        have hp2 : Below wl.heap.size wl w2 := Below.trans (show Below wl.heap.size wl _ from bwT) (hb2.mono szT)
        have sz2 := hp2.size
        have hS2 := And.intro (oldc hp2 lyl p_y0) (oldc hp2 lyl p_y1)
        have hBw2 : Below w.heap.size w w2 := hBL.trans (hp2.mono hBL.size)
        have : w.heap.size < w2.heap.size := by omega
        have : ¬ w.heap.size = w2.heap.size := by omega
        have : ¬ w2.heap.size = w.heap.size := by omega
        have : ¬ w.heap.size = w2.heap.size + 1 := by omega
        have : ¬ w2.heap.size + 1 = w.heap.size := by omega
        have zal : wl.heap.size < w2.heap.size := by have := hb2.size; (try simp at this); omega
        have za0 : w2.cell? ⟨wl.heap.size, 0, none⟩ = some (.slice none 0 0) := oldc hb2 ltT (by simp [go_sem])
        have za1 : w2.cell? ⟨wl.heap.size, 1, none⟩ = some (.slice none 0 0) := oldc hb2 ltT (by simp [go_sem])
        have za2 : w2.cell? ⟨wl.heap.size, 2, none⟩ = some (.slice none 0 0) := oldc hb2 ltT (by simp [go_sem])
        have zaf : ∀ o, w2.frozen? ⟨wl.heap.size, o, none⟩ = false := fun o => (hb2.frozen (p := ⟨wl.heap.size, o, none⟩) ltT).trans (by simp [go_sem])
        obtain ⟨ao1, n1, cp1, rfl, -⟩ := hu1.shape
        obtain ⟨bo1, m1, dp1, rfl, -⟩ := hv1.shape
        have HU1 := Lib.hid hu1
        have HV1 := Lib.hid hv1
        clear hb2 hu1 hv1
        refine hK.out _ _ ?_ (fun hHeld => ?_)
        ·exact kpT
        clear hK K
        try simp only [Act.put, cA, cB, cC]
        refine wpAnyH_ready (rs := [5, 7]) (by kernel_rfl) (by simp) ?_
        refine rdR (fun K hK => ?_) ?_
        ·go_simp
         refine (listTermsI_any _ _ _ _ rs es T2 (HY.out.below ?b1) (hrd2.out.below ?b2) H1.out HT2K.out hT2L).mono ?_
         case b1 => exact bwT
         case b2 => exact bwT
         rintro e3 w3 ⟨u2, v2, rfl, hu2, hv2, hb3⟩
         have hp3 : Below wl.heap.size wl w3 := Below.trans (show Below wl.heap.size wl _ from bwT) (hb3.mono szT)
         have hp23 : Below w2.heap.size w2 w3 := Below.trans (show Below w2.heap.size w2 _ from bwT) (hb3.mono szT)
         have sz3 := hp3.size
         have sz23 := hp23.size
         have hS3 := And.intro (oldc hp3 lyl p_y0) (oldc hp3 lyl p_y1)
         have hBw3 : Below w.heap.size w w3 := hBL.trans (hp3.mono hBL.size)
         have : w.heap.size < w3.heap.size := by omega
         have : ¬ w.heap.size = w3.heap.size := by omega
         have : ¬ w3.heap.size = w.heap.size := by omega
         have : ¬ w.heap.size = w3.heap.size + 1 := by omega
         have : ¬ w3.heap.size + 1 = w.heap.size := by omega
         have za0 := oldc hp23 zal za0
         have za1 := oldc hp23 zal za1
         have za2 := oldc hp23 zal za2
         have zaf : ∀ o, w3.frozen? ⟨wl.heap.size, o, none⟩ = false := fun o => (hp23.frozen (p := ⟨wl.heap.size, o, none⟩) zal).trans (zaf o)
         have zal := Nat.lt_of_lt_of_le zal hp23.size
         obtain ⟨ao2, n2, cp2, rfl, -⟩ := hu2.shape
         obtain ⟨bo2, m2, dp2, rfl, -⟩ := hv2.shape
         have HU2 := Lib.hid hu2
         have HV2 := Lib.hid hv2
         replace HU1 := Lib.hid (HU1.out.below hp23)
         replace HV1 := Lib.hid (HV1.out.below hp23)
         have nb42 : ¬ wl.heap.size = w3.heap.size := by omega
         have nb43 : ¬ w3.heap.size = wl.heap.size := by omega
         have nb50 : ¬ wl.heap.size = w3.heap.size + 1 := by omega
         have nb51 : ¬ w3.heap.size + 1 = wl.heap.size := by omega
         clear hb3 hu2 hv2
         refine hK.out _ _ ?_ (fun hHeld => ?_)
         ·exact kpT
         clear hK K
         try simp only [Act.put, cA, cB, cC]
         refine wpAnyH_ready (rs := [7]) (by kernel_rfl) (by simp) ?_
         refine rdR (fun K hK => ?_) ?_
         ·go_simp
          refine hK.out _ _ ?_ (fun hHeld => ?_)
          ·exact kpT
          clear hK K
          try simp only [Act.put, cA, cB, cC]
          refine wpAnyH_ready (rs := [8]) (by kernel_rfl) (by simp) ?_
          refine rdR (fun K hK => ?_) ?_
          ·go_simp
           refine hK.out _ _ ?_ (fun hHeld => ?_)
           ·exact kpT
           clear hK K
           try simp only [Act.put, cA, cB, cC]
           refine wpAnyH_ready (rs := [9]) (by kernel_rfl) (by simp) ?_
           refine rdR (fun K hK => ?_) ?_
           ·go_simp
            refine hK.out _ _ ?_ (fun hHeld => ?_)
            ·exact kpT
            clear hK K
            try simp only [Act.put, cA, cB, cC]
            refine wpAnyH_done (by kernel_rfl) ?_ _
            go_wp2_with fail
            go_meet
            exact ⟨_, _, _, _, _, _, rfl, rfl, by simp [go_sem, *], by simp [go_sem, *], by simp [go_sem, *], by simp [go_sem, *], by simp [go_sem, *], by simp [go_sem, *], ltT, ltT, Lib.hid (HU1.out.keep zgT).all, Lib.hid (HV1.out.keep zgT).all, Lib.hid (HU2.out.keep zgT).all, Lib.hid (HV2.out.keep zgT).all, bwT⟩
           exact AllReadyH.nil
          exact AllReadyH.nil
         exact AllReadyH.nil
        refine rdR (fun K hK => ?_) ?_
        ·go_simp
         refine hK.out _ _ ?_ (fun hHeld => ?_)
         ·exact kpT
         clear hK K
         try simp only [Act.put, cA, cB, cC]
         refine wpAnyH_ready (rs := [5]) (by kernel_rfl) (by simp) ?_
         refine rdR (fun K hK => ?_) ?_
         ·go_simp
          refine (listTermsI_any _ _ _ _ rs es T2 (HY.out.below ?b1) (hrd2.out.below ?b2) H1.out HT2K.out hT2L).mono ?_
          case b1 => exact bwT
          case b2 => exact bwT
          rintro e3 w3 ⟨u2, v2, rfl, hu2, hv2, hb3⟩
          have hp3 : Below wl.heap.size wl w3 := Below.trans (show Below wl.heap.size wl _ from bwT) (hb3.mono szT)
          have hp23 : Below w2.heap.size w2 w3 := Below.trans (show Below w2.heap.size w2 _ from bwT) (hb3.mono szT)
          have sz3 := hp3.size
          have sz23 := hp23.size
          have hS3 := And.intro (oldc hp3 lyl p_y0) (oldc hp3 lyl p_y1)
          have hBw3 : Below w.heap.size w w3 := hBL.trans (hp3.mono hBL.size)
          have : w.heap.size < w3.heap.size := by omega
          have : ¬ w.heap.size = w3.heap.size := by omega
          have : ¬ w3.heap.size = w.heap.size := by omega
          have : ¬ w.heap.size = w3.heap.size + 1 := by omega
          have : ¬ w3.heap.size + 1 = w.heap.size := by omega
          have za0 := oldc hp23 zal za0
          have za1 := oldc hp23 zal za1
          have za2 := oldc hp23 zal za2
          have zaf : ∀ o, w3.frozen? ⟨wl.heap.size, o, none⟩ = false := fun o => (hp23.frozen (p := ⟨wl.heap.size, o, none⟩) zal).trans (zaf o)
          have zal := Nat.lt_of_lt_of_le zal hp23.size
          have zcl : w2.heap.size < w3.heap.size := by have := hb3.size; (try simp at this); omega
          have zc0 : w3.cell? ⟨w2.heap.size, 0, none⟩ = some (.slice none 0 0) := oldc hb3 ltT (by simp [go_sem])
          have zc1 : w3.cell? ⟨w2.heap.size, 1, none⟩ = some (.slice none 0 0) := oldc hb3 ltT (by simp [go_sem])
          have zc2 : w3.cell? ⟨w2.heap.size, 2, none⟩ = some (.slice none 0 0) := oldc hb3 ltT (by simp [go_sem])
          have zcf : ∀ o, w3.frozen? ⟨w2.heap.size, o, none⟩ = false := fun o => (hb3.frozen (p := ⟨w2.heap.size, o, none⟩) ltT).trans (by simp [go_sem])
          obtain ⟨ao2, n2, cp2, rfl, -⟩ := hu2.shape
          obtain ⟨bo2, m2, dp2, rfl, -⟩ := hv2.shape
          have HU2 := Lib.hid hu2
          have HV2 := Lib.hid hv2
          replace HU1 := Lib.hid (HU1.out.below hp23)
          replace HV1 := Lib.hid (HV1.out.below hp23)
          have nb42 : ¬ wl.heap.size = w3.heap.size := by omega
          have nb43 : ¬ w3.heap.size = wl.heap.size := by omega
          have nb46 : ¬ w2.heap.size = w3.heap.size := by omega
          have nb47 : ¬ w3.heap.size = w2.heap.size := by omega
          have nb50 : ¬ wl.heap.size = w3.heap.size + 1 := by omega
          have nb51 : ¬ w3.heap.size + 1 = wl.heap.size := by omega
          have nb54 : ¬ w2.heap.size = w3.heap.size + 1 := by omega
          have nb55 : ¬ w3.heap.size + 1 = w2.heap.size := by omega
          have nb58 : ¬ wl.heap.size = w2.heap.size := by omega
          have nb59 : ¬ w2.heap.size = wl.heap.size := by omega
          clear hb3 hu2 hv2
          refine hK.out _ _ ?_ (fun hHeld => ?_)
          ·exact kpT
          clear hK K
          try simp only [Act.put, cA, cB, cC]
          refine wpAnyH_ready (rs := [8]) (by kernel_rfl) (by simp) ?_
          refine rdR (fun K hK => ?_) ?_
          ·go_simp
           refine hK.out _ _ ?_ (fun hHeld => ?_)
           ·exact kpT
           clear hK K
           try simp only [Act.put, cA, cB, cC]
           refine wpAnyH_ready (rs := [9]) (by kernel_rfl) (by simp) ?_
           refine rdR (fun K hK => ?_) ?_
           ·go_simp
            refine hK.out _ _ ?_ (fun hHeld => ?_)
            ·exact kpT
            clear hK K
            try simp only [Act.put, cA, cB, cC]
            refine wpAnyH_done (by kernel_rfl) ?_ _
            go_wp2_with fail
            go_meet
            exact ⟨_, _, _, _, _, _, rfl, rfl, by simp [go_sem, *], by simp [go_sem, *], by simp [go_sem, *], by simp [go_sem, *], by simp [go_sem, *], by simp [go_sem, *], ltT, ltT, Lib.hid (HU1.out.keep zgT).all, Lib.hid (HV1.out.keep zgT).all, Lib.hid (HU2.out.keep zgT).all, Lib.hid (HV2.out.keep zgT).all, bwT⟩
           exact AllReadyH.nil
          exact AllReadyH.nil
         exact AllReadyH.nil
        exact AllReadyH.nil
       refine rdR (fun K hK => ?_) ?_
       ·go_simp
        refine hK.out _ _ ?_ (fun hHeld => ?_)
        ·exact kpT
        clear hK K
        try simp only [Act.put, cA, cB, cC]
        refine wpAnyH_ready (rs := [2]) (by kernel_rfl) (by simp) ?_
        refine rdR (fun K hK => ?_) ?_
        ·go_simp
         refine (listTermsI_any _ _ _ _ rs es T (HY.out.below ?b1) (hrdl.out.below ?b2) H1.out HTK.out hTL).mono ?_
         case b1 => exact bwT
         case b2 => exact bwT
         rintro e2 w2 ⟨u1, v1, rfl, hu1, hv1, hb2⟩
         have hp2 : Below wl.heap.size wl w2 := Below.trans (show Below wl.heap.size wl _ from bwT) (hb2.mono szT)
         have sz2 := hp2.size
         have hS2 := And.intro (oldc hp2 lyl p_y0) (oldc hp2 lyl p_y1)
         have hBw2 : Below w.heap.size w w2 := hBL.trans (hp2.mono hBL.size)
         have : w.heap.size < w2.heap.size := by omega
         have : ¬ w.heap.size = w2.heap.size := by omega
         have : ¬ w2.heap.size = w.heap.size := by omega
         have : ¬ w.heap.size = w2.heap.size + 1 := by omega
         have : ¬ w2.heap.size + 1 = w.heap.size := by omega
         have zal : wl.heap.size < w2.heap.size := by have := hb2.size; (try simp at this); omega
         have za0 : w2.cell? ⟨wl.heap.size, 0, none⟩ = some (.slice none 0 0) := oldc hb2 ltT (by simp [go_sem])
         have za1 : w2.cell? ⟨wl.heap.size, 1, none⟩ = some (.slice none 0 0) := oldc hb2 ltT (by simp [go_sem])
         have za2 : w2.cell? ⟨wl.heap.size, 2, none⟩ = some (.slice none 0 0) := oldc hb2 ltT (by simp [go_sem])
         have zaf : ∀ o, w2.frozen? ⟨wl.heap.size, o, none⟩ = false := fun o => (hb2.frozen (p := ⟨wl.heap.size, o, none⟩) ltT).trans (by simp [go_sem])
         have zbl : wl.heap.size + 1 < w2.heap.size := by have := hb2.size; (try simp at this); omega
         have zb0 : w2.cell? ⟨wl.heap.size + 1, 0, none⟩ = some (.slice none 0 0) := oldc hb2 ltT (by simp [go_sem])
         have zb1 : w2.cell? ⟨wl.heap.size + 1, 1, none⟩ = some (.slice none 0 0) := oldc hb2 ltT (by simp [go_sem])
         have zb2 : w2.cell? ⟨wl.heap.size + 1, 2, none⟩ = some (.slice none 0 0) := oldc hb2 ltT (by simp [go_sem])
         have zbf : ∀ o, w2.frozen? ⟨wl.heap.size + 1, o, none⟩ = false := fun o => (hb2.frozen (p := ⟨wl.heap.size + 1, o, none⟩) ltT).trans (by simp [go_sem])
         obtain ⟨ao1, n1, cp1, rfl, -⟩ := hu1.shape
         obtain ⟨bo1, m1, dp1, rfl, -⟩ := hv1.shape
         have HU1 := Lib.hid hu1
         have HV1 := Lib.hid hv1
         clear hb2 hu1 hv1
         refine hK.out _ _ ?_ (fun hHeld => ?_)
         ·exact kpT
         clear hK K
         try simp only [Act.put, cA, cB, cC]
         refine wpAnyH_ready (rs := [5]) (by kernel_rfl) (by simp) ?_
         refine rdR (fun K hK => ?_) ?_
         ·go_simp
          refine (listTermsI_any _ _ _ _ rs es T2 (HY.out.below ?b1) (hrd2.out.below ?b2) H1.out HT2K.out hT2L).mono ?_
          case b1 => exact bwT
          case b2 => exact bwT
          rintro e3 w3 ⟨u2, v2, rfl, hu2, hv2, hb3⟩
          have hp3 : Below wl.heap.size wl w3 := Below.trans (show Below wl.heap.size wl _ from bwT) (hb3.mono szT)
          have hp23 : Below w2.heap.size w2 w3 := Below.trans (show Below w2.heap.size w2 _ from bwT) (hb3.mono szT)
          have sz3 := hp3.size
          have sz23 := hp23.size
          have hS3 := And.intro (oldc hp3 lyl p_y0) (oldc hp3 lyl p_y1)
          have hBw3 : Below w.heap.size w w3 := hBL.trans (hp3.mono hBL.size)
          have : w.heap.size < w3.heap.size := by omega
          have : ¬ w.heap.size = w3.heap.size := by omega
          have : ¬ w3.heap.size = w.heap.size := by omega
          have : ¬ w.heap.size = w3.heap.size + 1 := by omega
          have : ¬ w3.heap.size + 1 = w.heap.size := by omega
          have za0 := oldc hp23 zal za0
          have za1 := oldc hp23 zal za1
          have za2 := oldc hp23 zal za2
          have zaf : ∀ o, w3.frozen? ⟨wl.heap.size, o, none⟩ = false := fun o => (hp23.frozen (p := ⟨wl.heap.size, o, none⟩) zal).trans (zaf o)
          have zal := Nat.lt_of_lt_of_le zal hp23.size
          have zb0 := oldc hp23 zbl zb0
          have zb1 := oldc hp23 zbl zb1
          have zb2 := oldc hp23 zbl zb2
          have zbf : ∀ o, w3.frozen? ⟨wl.heap.size + 1, o, none⟩ = false := fun o => (hp23.frozen (p := ⟨wl.heap.size + 1, o, none⟩) zbl).trans (zbf o)
          have zbl := Nat.lt_of_lt_of_le zbl hp23.size
          obtain ⟨ao2, n2, cp2, rfl, -⟩ := hu2.shape
          obtain ⟨bo2, m2, dp2, rfl, -⟩ := hv2.shape
          have HU2 := Lib.hid hu2
          have HV2 := Lib.hid hv2
          replace HU1 := Lib.hid (HU1.out.below hp23)
          replace HV1 := Lib.hid (HV1.out.below hp23)
          have nb42 : ¬ wl.heap.size = w3.heap.size := by omega
          have nb43 : ¬ w3.heap.size = wl.heap.size := by omega
          have nb44 : ¬ wl.heap.size + 1 = w3.heap.size := by omega
          have nb45 : ¬ w3.heap.size = wl.heap.size + 1 := by omega
          have nb50 : ¬ wl.heap.size = w3.heap.size + 1 := by omega
          have nb51 : ¬ w3.heap.size + 1 = wl.heap.size := by omega
          have nb52 : ¬ wl.heap.size + 1 = w3.heap.size + 1 := by omega
          have nb53 : ¬ w3.heap.size + 1 = wl.heap.size + 1 := by omega
          clear hb3 hu2 hv2
          refine hK.out _ _ ?_ (fun hHeld => ?_)
          ·exact kpT
          clear hK K
          try simp only [Act.put, cA, cB, cC]
          refine wpAnyH_ready (rs := [8]) (by kernel_rfl) (by simp) ?_
          refine rdR (fun K hK => ?_) ?_
          ·go_simp
           refine hK.out _ _ ?_ (fun hHeld => ?_)
           ·exact kpT
           clear hK K
           try simp only [Act.put, cA, cB, cC]
           refine wpAnyH_ready (rs := [9]) (by kernel_rfl) (by simp) ?_
           refine rdR (fun K hK => ?_) ?_
           ·go_simp
            refine hK.out _ _ ?_ (fun hHeld => ?_)
            ·exact kpT
            clear hK K
            try simp only [Act.put, cA, cB, cC]
            refine wpAnyH_done (by kernel_rfl) ?_ _
            go_wp2_with fail
            go_meet
            exact ⟨_, _, _, _, _, _, rfl, rfl, by simp [go_sem, *], by simp [go_sem, *], by simp [go_sem, *], by simp [go_sem, *], by simp [go_sem, *], by simp [go_sem, *], ltT, ltT, Lib.hid (HU1.out.keep zgT).all, Lib.hid (HV1.out.keep zgT).all, Lib.hid (HU2.out.keep zgT).all, Lib.hid (HV2.out.keep zgT).all, bwT⟩
           exact AllReadyH.nil
          exact AllReadyH.nil
         exact AllReadyH.nil
        exact AllReadyH.nil
       exact AllReadyH.nil
      refine rdR (fun K hK => ?_) ?_
      ·go_simp
       refine hK.out _ _ ?_ (fun hHeld => ?_)
       ·exact kpT
       clear hK K
       try simp only [Act.put, cA, cB, cC]
       refine wpAnyH_ready (rs := [2, 6]) (by kernel_rfl) (by simp) ?_
       refine rdR (fun K hK => ?_) ?_
       ·go_simp
        refine (listTermsI_any _ _ _ _ rs es T (HY.out.below ?b1) (hrdl.out.below ?b2) H1.out HTK.out hTL).mono ?_
        case b1 => exact bwT
        case b2 => exact bwT
        rintro e2 w2 ⟨u1, v1, rfl, hu1, hv1, hb2⟩
        have hp2 : Below wl.heap.size wl w2 := Below.trans (show Below wl.heap.size wl _ from bwT) (hb2.mono szT)
        have sz2 := hp2.size
        have hS2 := And.intro (oldc hp2 lyl p_y0) (oldc hp2 lyl p_y1)
        have hBw2 : Below w.heap.size w w2 := hBL.trans (hp2.mono hBL.size)
        have : w.heap.size < w2.heap.size := by omega
        have : ¬ w.heap.size = w2.heap.size := by omega
        have : ¬ w2.heap.size = w.heap.size := by omega
        have : ¬ w.heap.size = w2.heap.size + 1 := by omega
        have : ¬ w2.heap.size + 1 = w.heap.size := by omega
        have zal : wl.heap.size < w2.heap.size := by have := hb2.size; (try simp at this); omega
        have za0 : w2.cell? ⟨wl.heap.size, 0, none⟩ = some (.slice none 0 0) := oldc hb2 ltT (by simp [go_sem])
        have za1 : w2.cell? ⟨wl.heap.size, 1, none⟩ = some (.slice none 0 0) := oldc hb2 ltT (by simp [go_sem])
        have za2 : w2.cell? ⟨wl.heap.size, 2, none⟩ = some (.slice none 0 0) := oldc hb2 ltT (by simp [go_sem])
        have zaf : ∀ o, w2.frozen? ⟨wl.heap.size, o, none⟩ = false := fun o => (hb2.frozen (p := ⟨wl.heap.size, o, none⟩) ltT).trans (by simp [go_sem])
        obtain ⟨ao1, n1, cp1, rfl, -⟩ := hu1.shape
        obtain ⟨bo1, m1, dp1, rfl, -⟩ := hv1.shape
        have HU1 := Lib.hid hu1
        have HV1 := Lib.hid hv1
        clear hb2 hu1 hv1
        refine hK.out _ _ ?_ (fun hHeld => ?_)
        ·exact kpT
        clear hK K
        try simp only [Act.put, cA, cB, cC]
        refine wpAnyH_ready (rs := [5, 6]) (by kernel_rfl) (by simp) ?_
        refine rdR (fun K hK => ?_) ?_
        ·go_simp
         refine (listTermsI_any _ _ _ _ rs es T2 (HY.out.below ?b1) (hrd2.out.below ?b2) H1.out HT2K.out hT2L).mono ?_
         case b1 => exact bwT
         case b2 => exact bwT
         rintro e3 w3 ⟨u2, v2, rfl, hu2, hv2, hb3⟩
         have hp3 : Below wl.heap.size wl w3 := Below.trans (show Below wl.heap.size wl _ from bwT) (hb3.mono szT)
         have hp23 : Below w2.heap.size w2 w3 := Below.trans (show Below w2.heap.size w2 _ from bwT) (hb3.mono szT)
         have sz3 := hp3.size
         have sz23 := hp23.size
         have hS3 := And.intro (oldc hp3 lyl p_y0) (oldc hp3 lyl p_y1)
         have hBw3 : Below w.heap.size w w3 := hBL.trans (hp3.mono hBL.size)
         have : w.heap.size < w3.heap.size := by omega
         have : ¬ w.heap.size = w3.heap.size := by omega
         have : ¬ w3.heap.size = w.heap.size := by omega
         have : ¬ w.heap.size = w3.heap.size + 1 := by omega
         have : ¬ w3.heap.size + 1 = w.heap.size := by omega
         have za0 := oldc hp23 zal za0
         have za1 := oldc hp23 zal za1
         have za2 := oldc hp23 zal za2
         have zaf : ∀ o, w3.frozen? ⟨wl.heap.size, o, none⟩ = false := fun o => (hp23.frozen (p := ⟨wl.heap.size, o, none⟩) zal).trans (zaf o)
         have zal := Nat.lt_of_lt_of_le zal hp23.size
         obtain ⟨ao2, n2, cp2, rfl, -⟩ := hu2.shape
         obtain ⟨bo2, m2, dp2, rfl, -⟩ := hv2.shape
         have HU2 := Lib.hid hu2
         have HV2 := Lib.hid hv2
         replace HU1 := Lib.hid (HU1.out.below hp23)
         replace HV1 := Lib.hid (HV1.out.below hp23)
         have nb42 : ¬ wl.heap.size = w3.heap.size := by omega
         have nb43 : ¬ w3.heap.size = wl.heap.size := by omega
         have nb50 : ¬ wl.heap.size = w3.heap.size + 1 := by omega
         have nb51 : ¬ w3.heap.size + 1 = wl.heap.size := by omega
         clear hb3 hu2 hv2
         refine hK.out _ _ ?_ (fun hHeld => ?_)
         ·exact kpT
         clear hK K
         try simp only [Act.put, cA, cB, cC]
         refine wpAnyH_ready (rs := [6]) (by kernel_rfl) (by simp) ?_
         refine rdR (fun K hK => ?_) ?_
         ·go_simp
          refine hK.out _ _ ?_ (fun hHeld => ?_)
          ·exact kpT
          clear hK K
          try simp only [Act.put, cA, cB, cC]
          refine wpAnyH_ready (rs := [8]) (by kernel_rfl) (by simp) ?_
          refine rdR (fun K hK => ?_) ?_
          ·go_simp
           refine hK.out _ _ ?_ (fun hHeld => ?_)
           ·exact kpT
           clear hK K
           try simp only [Act.put, cA, cB, cC]
           refine wpAnyH_ready (rs := [9]) (by kernel_rfl) (by simp) ?_
           refine rdR (fun K hK => ?_) ?_
           ·go_simp
            refine hK.out _ _ ?_ (fun hHeld => ?_)
            ·exact kpT
            clear hK K
            try simp only [Act.put, cA, cB, cC]
            refine wpAnyH_done (by kernel_rfl) ?_ _
            go_wp2_with fail
            go_meet
            exact ⟨_, _, _, _, _, _, rfl, rfl, by simp [go_sem, *], by simp [go_sem, *], by simp [go_sem, *], by simp [go_sem, *], by simp [go_sem, *], by simp [go_sem, *], ltT, ltT, Lib.hid (HU1.out.keep zgT).all, Lib.hid (HV1.out.keep zgT).all, Lib.hid (HU2.out.keep zgT).all, Lib.hid (HV2.out.keep zgT).all, bwT⟩
           exact AllReadyH.nil
          exact AllReadyH.nil
         exact AllReadyH.nil
        refine rdR (fun K hK => ?_) ?_
        ·go_simp
         refine hK.out _ _ ?_ (fun hHeld => ?_)
         ·exact kpT
         clear hK K
         try simp only [Act.put, cA, cB, cC]
         refine wpAnyH_ready (rs := [5]) (by kernel_rfl) (by simp) ?_
         refine rdR (fun K hK => ?_) ?_
         ·go_simp
          refine (listTermsI_any _ _ _ _ rs es T2 (HY.out.below ?b1) (hrd2.out.below ?b2) H1.out HT2K.out hT2L).mono ?_
          case b1 => exact bwT
          case b2 => exact bwT
          rintro e3 w3 ⟨u2, v2, rfl, hu2, hv2, hb3⟩
          have hp3 : Below wl.heap.size wl w3 := Below.trans (show Below wl.heap.size wl _ from bwT) (hb3.mono szT)
          have hp23 : Below w2.heap.size w2 w3 := Below.trans (show Below w2.heap.size w2 _ from bwT) (hb3.mono szT)
          have sz3 := hp3.size
          have sz23 := hp23.size
          have hS3 := And.intro (oldc hp3 lyl p_y0) (oldc hp3 lyl p_y1)
          have hBw3 : Below w.heap.size w w3 := hBL.trans (hp3.mono hBL.size)
          have : w.heap.size < w3.heap.size := by omega
          have : ¬ w.heap.size = w3.heap.size := by omega
          have : ¬ w3.heap.size = w.heap.size := by omega
          have : ¬ w.heap.size = w3.heap.size + 1 := by omega
          have : ¬ w3.heap.size + 1 = w.heap.size := by omega
          have za0 := oldc hp23 zal za0
          have za1 := oldc hp23 zal za1
          have za2 := oldc hp23 zal za2
          have zaf : ∀ o, w3.frozen? ⟨wl.heap.size, o, none⟩ = false := fun o => (hp23.frozen (p := ⟨wl.heap.size, o, none⟩) zal).trans (zaf o)
          have zal := Nat.lt_of_lt_of_le zal hp23.size
          have zcl : w2.heap.size < w3.heap.size := by have := hb3.size; (try simp at this); omega
          have zc0 : w3.cell? ⟨w2.heap.size, 0, none⟩ = some (.slice none 0 0) := oldc hb3 ltT (by simp [go_sem])
          have zc1 : w3.cell? ⟨w2.heap.size, 1, none⟩ = some (.slice none 0 0) := oldc hb3 ltT (by simp [go_sem])
          have zc2 : w3.cell? ⟨w2.heap.size, 2, none⟩ = some (.slice none 0 0) := oldc hb3 ltT (by simp [go_sem])
          have zcf : ∀ o, w3.frozen? ⟨w2.heap.size, o, none⟩ = false := fun o => (hb3.frozen (p := ⟨w2.heap.size, o, none⟩) ltT).trans (by simp [go_sem])
          obtain ⟨ao2, n2, cp2, rfl, -⟩ := hu2.shape
          obtain ⟨bo2, m2, dp2, rfl, -⟩ := hv2.shape
          have HU2 := Lib.hid hu2
          have HV2 := Lib.hid hv2
          replace HU1 := Lib.hid (HU1.out.below hp23)
          replace HV1 := Lib.hid (HV1.out.below hp23)
          have nb42 : ¬ wl.heap.size = w3.heap.size := by omega
          have nb43 : ¬ w3.heap.size = wl.heap.size := by omega
          have nb46 : ¬ w2.heap.size = w3.heap.size := by omega
          have nb47 : ¬ w3.heap.size = w2.heap.size := by omega
          have nb50 : ¬ wl.heap.size = w3.heap.size + 1 := by omega
          have nb51 : ¬ w3.heap.size + 1 = wl.heap.size := by omega
          have nb54 : ¬ w2.heap.size = w3.heap.size + 1 := by omega
          have nb55 : ¬ w3.heap.size + 1 = w2.heap.size := by omega
          have nb58 : ¬ wl.heap.size = w2.heap.size := by omega
          have nb59 : ¬ w2.heap.size = wl.heap.size := by omega
          clear hb3 hu2 hv2
          refine hK.out _ _ ?_ (fun hHeld => ?_)
          ·exact kpT
          clear hK K
          try simp only [Act.put, cA, cB, cC]
          refine wpAnyH_ready (rs := [8]) (by kernel_rfl) (by simp) ?_
          refine rdR (fun K hK => ?_) ?_
          ·go_simp
           refine hK.out _ _ ?_ (fun hHeld => ?_)
           ·exact kpT
           clear hK K
           try simp only [Act.put, cA, cB, cC]
           refine wpAnyH_ready (rs := [9]) (by kernel_rfl) (by simp) ?_
           refine rdR (fun K hK => ?_) ?_
           ·go_simp
            refine hK.out _ _ ?_ (fun hHeld => ?_)
            ·exact kpT
            clear hK K
            try simp only [Act.put, cA, cB, cC]
            refine wpAnyH_done (by kernel_rfl) ?_ _
            go_wp2_with fail
            go_meet
            exact ⟨_, _, _, _, _, _, rfl, rfl, by simp [go_sem, *], by simp [go_sem, *], by simp [go_sem, *], by simp [go_sem, *], by simp [go_sem, *], by simp [go_sem, *], ltT, ltT, Lib.hid (HU1.out.keep zgT).all, Lib.hid (HV1.out.keep zgT).all, Lib.hid (HU2.out.keep zgT).all, Lib.hid (HV2.out.keep zgT).all, bwT⟩
           exact AllReadyH.nil
          exact AllReadyH.nil
         exact AllReadyH.nil
        exact AllReadyH.nil
       refine rdR (fun K hK => ?_) ?_
       ·go_simp
        refine hK.out _ _ ?_ (fun hHeld => ?_)
        ·exact kpT
        clear hK K
        try simp only [Act.put, cA, cB, cC]
        refine wpAnyH_ready (rs := [2]) (by kernel_rfl) (by simp) ?_
        refine rdR (fun K hK => ?_) ?_
        ·go_simp
         refine (listTermsI_any _ _ _ _ rs es T (HY.out.below ?b1) (hrdl.out.below ?b2) H1.out HTK.out hTL).mono ?_
         case b1 => exact bwT
         case b2 => exact bwT
         rintro e2 w2 ⟨u1, v1, rfl, hu1, hv1, hb2⟩
         have hp2 : Below wl.heap.size wl w2 := Below.trans (show Below wl.heap.size wl _ from bwT) (hb2.mono szT)
         have sz2 := hp2.size
         have hS2 := And.intro (oldc hp2 lyl p_y0) (oldc hp2 lyl p_y1)
         have hBw2 : Below w.heap.size w w2 := hBL.trans (hp2.mono hBL.size)
         have : w.heap.size < w2.heap.size := by omega
         have : ¬ w.heap.size = w2.heap.size := by omega
         have : ¬ w2.heap.size = w.heap.size := by omega
         have : ¬ w.heap.size = w2.heap.size + 1 := by omega
         have : ¬ w2.heap.size + 1 = w.heap.size := by omega
         have zal : wl.heap.size < w2.heap.size := by have := hb2.size; (try simp at this); omega
         have za0 : w2.cell? ⟨wl.heap.size, 0, none⟩ = some (.slice none 0 0) := oldc hb2 ltT (by simp [go_sem])
         have za1 : w2.cell? ⟨wl.heap.size, 1, none⟩ = some (.slice none 0 0) := oldc hb2 ltT (by simp [go_sem])
         have za2 : w2.cell? ⟨wl.heap.size, 2, none⟩ = some (.slice none 0 0) := oldc hb2 ltT (by simp [go_sem])
         have zaf : ∀ o, w2.frozen? ⟨wl.heap.size, o, none⟩ = false := fun o => (hb2.frozen (p := ⟨wl.heap.size, o, none⟩) ltT).trans (by simp [go_sem])
         have zbl : wl.heap.size + 1 < w2.heap.size := by have := hb2.size; (try simp at this); omega
         have zb0 : w2.cell? ⟨wl.heap.size + 1, 0, none⟩ = some (.slice none 0 0) := oldc hb2 ltT (by simp [go_sem])
         have zb1 : w2.cell? ⟨wl.heap.size + 1, 1, none⟩ = some (.slice none 0 0) := oldc hb2 ltT (by simp [go_sem])
         have zb2 : w2.cell? ⟨wl.heap.size + 1, 2, none⟩ = some (.slice none 0 0) := oldc hb2 ltT (by simp [go_sem])
         have zbf : ∀ o, w2.frozen? ⟨wl.heap.size + 1, o, none⟩ = false := fun o => (hb2.frozen (p := ⟨wl.heap.size + 1, o, none⟩) ltT).trans (by simp [go_sem])
         obtain ⟨ao1, n1, cp1, rfl, -⟩ := hu1.shape
         obtain ⟨bo1, m1, dp1, rfl, -⟩ := hv1.shape
         have HU1 := Lib.hid hu1
         have HV1 := Lib.hid hv1
         clear hb2 hu1 hv1
         refine hK.out _ _ ?_ (fun hHeld => ?_)
         ·exact kpT
         clear hK K
         try simp only [Act.put, cA, cB, cC]
         refine wpAnyH_ready (rs := [5]) (by kernel_rfl) (by simp) ?_
         refine rdR (fun K hK => ?_) ?_
         ·go_simp
          refine (listTermsI_any _ _ _ _ rs es T2 (HY.out.below ?b1) (hrd2.out.below ?b2) H1.out HT2K.out hT2L).mono ?_
          case b1 => exact bwT
          case b2 => exact bwT
          rintro e3 w3 ⟨u2, v2, rfl, hu2, hv2, hb3⟩
          have hp3 : Below wl.heap.size wl w3 := Below.trans (show Below wl.heap.size wl _ from bwT) (hb3.mono szT)
          have hp23 : Below w2.heap.size w2 w3 := Below.trans (show Below w2.heap.size w2 _ from bwT) (hb3.mono szT)
          have sz3 := hp3.size
          have sz23 := hp23.size
          have hS3 := And.intro (oldc hp3 lyl p_y0) (oldc hp3 lyl p_y1)
          have hBw3 : Below w.heap.size w w3 := hBL.trans (hp3.mono hBL.size)
          have : w.heap.size < w3.heap.size := by omega
          have : ¬ w.heap.size = w3.heap.size := by omega
          have : ¬ w3.heap.size = w.heap.size := by omega
          have : ¬ w.heap.size = w3.heap.size + 1 := by omega
          have : ¬ w3.heap.size + 1 = w.heap.size := by omega
          have za0 := oldc hp23 zal za0
          have za1 := oldc hp23 zal za1
          have za2 := oldc hp23 zal za2
          have zaf : ∀ o, w3.frozen? ⟨wl.heap.size, o, none⟩ = false := fun o => (hp23.frozen (p := ⟨wl.heap.size, o, none⟩) zal).trans (zaf o)
          have zal := Nat.lt_of_lt_of_le zal hp23.size
          have zb0 := oldc hp23 zbl zb0
          have zb1 := oldc hp23 zbl zb1
          have zb2 := oldc hp23 zbl zb2
          have zbf : ∀ o, w3.frozen? ⟨wl.heap.size + 1, o, none⟩ = false := fun o => (hp23.frozen (p := ⟨wl.heap.size + 1, o, none⟩) zbl).trans (zbf o)
          have zbl := Nat.lt_of_lt_of_le zbl hp23.size
          obtain ⟨ao2, n2, cp2, rfl, -⟩ := hu2.shape
          obtain ⟨bo2, m2, dp2, rfl, -⟩ := hv2.shape
          have HU2 := Lib.hid hu2
          have HV2 := Lib.hid hv2
          replace HU1 := Lib.hid (HU1.out.below hp23)
          replace HV1 := Lib.hid (HV1.out.below hp23)
          have nb42 : ¬ wl.heap.size = w3.heap.size := by omega
          have nb43 : ¬ w3.heap.size = wl.heap.size := by omega
          have nb44 : ¬ wl.heap.size + 1 = w3.heap.size := by omega
          have nb45 : ¬ w3.heap.size = wl.heap.size + 1 := by omega
          have nb50 : ¬ wl.heap.size = w3.heap.size + 1 := by omega
          have nb51 : ¬ w3.heap.size + 1 = wl.heap.size := by omega
          have nb52 : ¬ wl.heap.size + 1 = w3.heap.size + 1 := by omega
          have nb53 : ¬ w3.heap.size + 1 = wl.heap.size + 1 := by omega
          clear hb3 hu2 hv2
          refine hK.out _ _ ?_ (fun hHeld => ?_)
          ·exact kpT
          clear hK K
          try simp only [Act.put, cA, cB, cC]
          refine wpAnyH_ready (rs := [8]) (by kernel_rfl) (by simp) ?_
          refine rdR (fun K hK => ?_) ?_
          ·go_simp
           refine hK.out _ _ ?_ (fun hHeld => ?_)
           ·exact kpT
           clear hK K
           try simp only [Act.put, cA, cB, cC]
           refine wpAnyH_ready (rs := [9]) (by kernel_rfl) (by simp) ?_
           refine rdR (fun K hK => ?_) ?_
           ·go_simp
            refine hK.out _ _ ?_ (fun hHeld => ?_)
            ·exact kpT
            clear hK K
            try simp only [Act.put, cA, cB, cC]
            refine wpAnyH_done (by kernel_rfl) ?_ _
            go_wp2_with fail
            go_meet
            exact ⟨_, _, _, _, _, _, rfl, rfl, by simp [go_sem, *], by simp [go_sem, *], by simp [go_sem, *], by simp [go_sem, *], by simp [go_sem, *], by simp [go_sem, *], ltT, ltT, Lib.hid (HU1.out.keep zgT).all, Lib.hid (HV1.out.keep zgT).all, Lib.hid (HU2.out.keep zgT).all, Lib.hid (HV2.out.keep zgT).all, bwT⟩
           exact AllReadyH.nil
          exact AllReadyH.nil
         exact AllReadyH.nil
        exact AllReadyH.nil
       exact AllReadyH.nil
      exact AllReadyH.nil
     case rest =>
      obtain ⟨G1, G2, u1, v1, u2, v2, rfl, rfl, g10, g11, g12, g20, g21, g22, lG1, lG2, HU1, HV1, HU2, HV2, hbX⟩ := hcut
      clear p_y0 p_y1
      obtain ⟨WX, hWX⟩ : ∃ W : World, W = wc := ⟨_, rfl⟩
      subst hWX
      obtain ⟨ao1, n1, cp1, rfl, -⟩ := HU1.out.shape
      obtain ⟨bo1, m1, dp1, rfl, hm1, -⟩ := HV1.out.shape
      obtain ⟨ao2, n2, cp2, rfl, -⟩ := HU2.out.shape
      obtain ⟨bo2, m2, dp2, rfl, -⟩ := HV2.out.shape
      obtain rfl : m1 = T.length := by rw [← hm1]; exact tmB_len _ _
      clear hm1
      have hTX : Below wT.heap.size wT WX := hTl.trans (hbX.mono sTl)
      have hbX0 : Below W0.heap.size W0 WX := hbL0.trans (hbX.mono (by omega))
      have sX := hbX0.size
      have hBX : Below w.heap.size w WX := hB0.trans (hbX0.mono s0)
      have sXw := hBX.size
      go_wp2
      go_loopw [14, 15, 58] (fun _ _ s58 wr => ∃ i : Nat, i ≤ T.length ∧ s58 = .int .i64 i ∧ Hid (divR (rs, es) T i = true) ∧ Below WX.heap.size WX wr) (fun _ _ s58 _ => T.length - (intOf s58).toNat)
      case atStart => exact ⟨0, Nat.zero_le _, rfl, Lib.hid rfl, Below.refl _ _⟩
      case round =>
       obtain ⟨wd, hwd⟩ : ∃ wm : World, wm = wr := ⟨_, rfl⟩
       subst hwd
       obtain ⟨i, hi1, rfl, HI, hXd⟩ := hrel
       have sXd := hXd.size
       by_cases hli : i < T.length
       ·have hIi : (i : Int) < (T.length : Int) := by omega
        obtain ⟨tb, toff, s, sv, rfl, hs, sc0, sc1, hsi, hsv, hrs0, -, -, slt⟩ := hrd.out.kin_at hli
        obtain ⟨sao, sn, scap, rfl, hsn, -⟩ := hsv.shape
        subst hsn
        have HS := Lib.hid hs.out
        have HRS0 := Lib.hid hrs0
        have HSK := Lib.hid (HTK.out s (List.mem_of_getElem? hs.out))
        obtain ⟨e1, hlet_e1⟩ : ∃ r, r = sexOf s := ⟨_, rfl⟩
        have HE1 := Lib.hid hlet_e1
        clear hlet_e1
        obtain ⟨k1, hlet_k1⟩ : ∃ r, r = (termOf (rs, es) s).isSome := ⟨_, rfl⟩
        have HK1 := Lib.hid hlet_k1
        clear hlet_k1
        clear hs hsi hsv hrs0
        go_wp2_with fail
        go_loopw [15, 62] (fun _ s62 wr => ∃ j : Nat, j ≤ i ∧ s62 = .int .i64 j ∧ Hid (rowR (rs, es) T i j = true) ∧ Below WX.heap.size WX wr) (fun _ s62 _ => i - (intOf s62).toNat)
        case atStart => exact ⟨0, Nat.zero_le _, rfl, Lib.hid rfl, hXd⟩
        case round =>
         obtain ⟨we, hwe⟩ : ∃ wm : World, wm = wr := ⟨_, rfl⟩
         subst hwe
         obtain ⟨j, hj1, rfl, HJ, hXe⟩ := hrel
         have sXe := hXe.size
         by_cases hlj : j < i
         ·have hJj : (j : Int) < (i : Int) := by omega
          have hJT : (j : Int) < (T.length : Int) := by omega
          obtain ⟨_, _, t, tv, e, ht, tc0, tc1, hti, htv, hrt0, -, -, tlt⟩ := hrd.out.kin_at (i := j) (show j < T.length by omega)
          simp only [Option.some.injEq, Addr.mk.injEq, and_true] at e
          obtain ⟨rfl, rfl⟩ := e
          obtain ⟨tao2, tn2, tcp2, rfl, htn2, -⟩ := htv.shape
          subst htn2
          have HT := Lib.hid ht.out
          have HRT0 := Lib.hid hrt0
          have HTK1 := Lib.hid (HTK.out t (List.mem_of_getElem? ht.out))
          clear ht hti htv hrt0
          have HT2i := Lib.hid (show T2[i]? = some (revX s) by rw [HT2.out, List.getElem?_map, HS.out]; rfl)
          have HT2j := Lib.hid (show T2[j]? = some (revX t) by rw [HT2.out, List.getElem?_map, HT.out]; rfl)
          obtain ⟨e2, hlet_e2⟩ : ∃ r, r = sexOf t := ⟨_, rfl⟩
          have HE2 := Lib.hid hlet_e2
          clear hlet_e2
          obtain ⟨p, hlet_p⟩ : ∃ r, r = decide (termOf (rs, es) s = termOf (rs, es) t) := ⟨_, rfl⟩
          have HP := Lib.hid hlet_p
          clear hlet_p
          obtain ⟨q, hlet_q⟩ : ∃ r, r = decide (termOf (rs, es) (revX s) = termOf (rs, es) (revX t)) := ⟨_, rfl⟩
          have HQ := Lib.hid hlet_q
          clear hlet_q
          have HAG0 := Lib.hid (show recB (rs, es) T i j = (!(k1 && (p && decide (e1 = e2))) || q) by rw [recB_at HS.out HT.out, HK1.out, HP.out, HE1.out, HE2.out, HQ.out])
          obtain ⟨kb, ko, kv, rfl, hkv, kc, -, -, kl, -⟩ := (HV1.out.below hXe).bool_at hli
          obtain rfl : kv = k1 := by have := Option.some.inj (hkv.out.symm.trans (tmB_at HS.out)); rw [this, HK1.out]
          clear hkv
          have q10 := oldc hXe lG1 g10
          have q11 := oldc hXe lG1 g11
          have q12 := oldc hXe lG1 g12
          have q20 := oldc hXe lG2 g20
          have q21 := oldc hXe lG2 g21
          have q22 := oldc hXe lG2 g22
          have kG1 : G1 < we.heap.size := by omega
          have kG2 : G2 < we.heap.size := by omega
          have hTe : Below wT.heap.size wT we := hTX.trans (hXe.mono hTX.size)
          have u0 := oldc hTe slt sc0
          have u1 := oldc hTe slt sc1
          have u2 := oldc hTe tlt tc0
          have u3 := oldc hTe tlt tc1
          have klt : tb < we.heap.size := by have := hTe.size; omega
          cases kv
          ·have HAG := Lib.hid (show recB (rs, es) T i j = true by rw [HAG0.out]; rfl)
           clear HAG0
           go_upto_region 21 with fail
           refine wp_region_held_drew (S := (fun w' => w'.cell? ⟨G1, 2, none⟩ = some (.slice (some ⟨kb, ko, none⟩) T.length dp1) ∧ w'.cell? ⟨kb, ko + i, none⟩ = some (.bool false))) (by kernel_rfl) ?_ (fun hHeld => ?_)
           ·first | exact trivial | ((try dsimp only); go_keep)
           refine tkA 0 ?_
           try simp only [Act.put, cA, cB, cC]
           refine tkA 2 ?_
           try simp only [Act.put, cA, cB, cC]
           refine tkA 1 ?_
           try simp only [Act.put, cA, cB, cC]
           refine tkA 3 ?_
           try simp only [Act.put, cA, cB, cC]
           refine tkA 4 ?_
           try simp only [Act.put, cA, cB, cC]
           refine tkA 5 ?_
           try simp only [Act.put, cA, cB, cC]
           refine skR 6 ?_
           try simp only [Act.put, cA, cB, cC]
           refine skR 7 ?_
           try simp only [Act.put, cA, cB, cC]
           refine skR 8 ?_
           try simp only [Act.put, cA, cB, cC]
           refine skR 9 ?_
           try simp only [Act.put, cA, cB, cC]
           refine tkA 10 ?_
           try simp only [Act.put, cA, cB, cC]
           refine tkA 11 ?_
           try simp only [Act.put, cA, cB, cC]
           refine skR 12 ?_
           try simp only [Act.put, cA, cB, cC]
           refine skR 13 ?_
           try simp only [Act.put, cA, cB, cC]
           refine skR 17 ?_
           try simp only [Act.put, cA, cB, cC]
           refine skR 18 ?_
           try simp only [Act.put, cA, cB, cC]
           refine skR 14 ?_
           try simp only [Act.put, cA, cB, cC]
           refine skR 19 ?_
           try simp only [Act.put, cA, cB, cC]
           refine skR 15 ?_
           try simp only [Act.put, cA, cB, cC]
           refine skR 20 ?_
           try simp only [Act.put, cA, cB, cC]
           refine skR 16 ?_
           try simp only [Act.put, cA, cB, cC]
           refine skR 21 ?_
           try simp only [Act.put, cA, cB, cC]
           refine skR 22 ?_
           try simp only [Act.put, cA, cB, cC]
           refine tkA 23 ?_
           try simp only [Act.put, cA, cB, cC]
           refine tkA 24 ?_
           try simp only [Act.put, cA, cB, cC]
           refine skR 25 ?_
           try simp only [Act.put, cA, cB, cC]
           refine skR 26 ?_
           try simp only [Act.put, cA, cB, cC]
           refine skR 27 ?_
           try simp only [Act.put, cA, cB, cC]
           refine skR 28 ?_
           try simp only [Act.put, cA, cB, cC]
           refine skR 29 ?_
           try simp only [Act.put, cA, cB, cC]
           refine tkA 30 ?_
           try simp only [Act.put, cA, cB, cC]
           refine wpAnyH_done (by kernel_rfl) ?_ _
           have hXz : Below WX.heap.size WX _ := hXe.drew
           have HJ2 := Lib.hid (show rowR (rs, es) T i (j + 1) = true by rw [rowR_succ, HJ.out, HAG.out]; rfl)
           clear HJ HI
           go_wp2
           go_roundw
           case rel => exact ⟨j + 1, by omega, by go_num, HJ2, hXz⟩
           case measure => simp [intOf]; omega
          cases p
          ·have HAG := Lib.hid (show recB (rs, es) T i j = true by rw [HAG0.out]; rfl)
           clear HAG0
           go_upto_region 21 with fail
           refine wp_region_held_drew (S := (fun w' => w'.cell? ⟨G1, 0, none⟩ = some (.slice (some ⟨tb, toff, none⟩) T.length tcap) ∧ w'.cell? ⟨G1, 1, none⟩ = some (.slice ao1 n1 cp1) ∧ w'.cell? ⟨G1, 2, none⟩ = some (.slice (some ⟨kb, ko, none⟩) T.length dp1) ∧ w'.cell? ⟨G2, 0, none⟩ = some (.slice bao T2.length bcap) ∧ w'.cell? ⟨G2, 1, none⟩ = some (.slice ao2 n2 cp2) ∧ w'.cell? ⟨G2, 2, none⟩ = some (.slice bo2 m2 dp2) ∧ w'.cell? ⟨kb, ko + i, none⟩ = some (.bool true) ∧ w'.cell? ⟨tb, toff + i * 2, none⟩ = some (.int .i64 s.1) ∧ w'.cell? ⟨tb, toff + i * 2 + 1, none⟩ = some (.slice sao s.2.length scap) ∧ w'.cell? ⟨tb, toff + j * 2, none⟩ = some (.int .i64 t.1) ∧ w'.cell? ⟨tb, toff + j * 2 + 1, none⟩ = some (.slice tao2 t.2.length tcp2))) (by kernel_rfl) ?_ (fun hHeld => ?_)
           ·first | exact trivial | ((try dsimp only); go_keep)
           refine tkA 0 ?_
           try simp only [Act.put, cA, cB, cC]
           refine tkA 2 ?_
           try simp only [Act.put, cA, cB, cC]
           refine tkA 1 ?_
           try simp only [Act.put, cA, cB, cC]
           refine tkA 3 ?_
           try simp only [Act.put, cA, cB, cC]
           refine tkA 4 ?_
           try simp only [Act.put, cA, cB, cC]
           refine tkA 5 ?_
           try simp only [Act.put, cA, cB, cC]
           refine tkA 6 ?_
           try simp only [Act.put, cA, cB, cC]
           refine tkA 7 ?_
           try simp only [Act.put, cA, cB, cC]
           refine tkA 8 ?_
           try simp only [Act.put, cA, cB, cC]
           refine wpAnyH_ready (rs := [9]) (by kernel_rfl) (by simp) ?_
           refine rdR (fun K hK => ?_) ?_
           ·go_simp
            refine (agreeI_b _ (some ⟨tb, toff, none⟩) T.length tcap _ _ (tmL (rs, es) T) (tmB (rs, es) T) ((HU1.out.below hXe).below ?b1) ((HV1.out.below hXe).below ?b2) i j (by rw [tmL_len]; omega) (by rw [tmL_len]; omega) (by rw [tmB_len]; omega) (by rw [tmB_len]; omega) (by rw [tmL_len]; omega) (by rw [tmB_len]; omega) _ _ (tmL_at HS.out) (tmL_at HT.out) _ _ (tmB_at HS.out) (tmB_at HT.out) false (HP.out.trans (agr_eq _ _).symm)).mono ?_
            case b1 => exact bwT
            case b2 => exact bwT
            rintro e4 w4 ⟨rfl, hb4⟩
            have hp4 : Below we.heap.size we w4 := Below.trans (show Below we.heap.size we _ from bwT) (hb4.mono szT)
            have sz4 := hp4.size
            have hS4 := (And.intro (oldc hp4 kG1 q10) (And.intro (oldc hp4 kG1 q11) (And.intro (oldc hp4 kG1 q12) (And.intro (oldc hp4 kG2 q20) (And.intro (oldc hp4 kG2 q21) (And.intro (oldc hp4 kG2 q22) (And.intro (oldc hp4 kl kc) (And.intro (oldc hp4 klt u0) (And.intro (oldc hp4 klt u1) (And.intro (oldc hp4 klt u2) (oldc hp4 klt u3)))))))))))
            clear hb4
            refine hK.out _ _ ?_ (fun hHeld => ?_)
            ·exact kpT
            clear hK K
            try simp only [Act.put, cA, cB, cC]
            refine tkA 10 ?_
            try simp only [Act.put, cA, cB, cC]
            refine tkA 11 ?_
            try simp only [Act.put, cA, cB, cC]
            refine skR 12 ?_
            try simp only [Act.put, cA, cB, cC]
            refine skR 13 ?_
            try simp only [Act.put, cA, cB, cC]
            refine skR 17 ?_
            try simp only [Act.put, cA, cB, cC]
            refine skR 18 ?_
            try simp only [Act.put, cA, cB, cC]
            refine skR 14 ?_
            try simp only [Act.put, cA, cB, cC]
            refine skR 19 ?_
            try simp only [Act.put, cA, cB, cC]
            refine skR 15 ?_
            try simp only [Act.put, cA, cB, cC]
            refine skR 20 ?_
            try simp only [Act.put, cA, cB, cC]
            refine skR 16 ?_
            try simp only [Act.put, cA, cB, cC]
            refine skR 21 ?_
            try simp only [Act.put, cA, cB, cC]
            refine skR 22 ?_
            try simp only [Act.put, cA, cB, cC]
            refine tkA 23 ?_
            try simp only [Act.put, cA, cB, cC]
            refine tkA 24 ?_
            try simp only [Act.put, cA, cB, cC]
            refine skR 25 ?_
            try simp only [Act.put, cA, cB, cC]
            refine skR 26 ?_
            try simp only [Act.put, cA, cB, cC]
            refine skR 27 ?_
            try simp only [Act.put, cA, cB, cC]
            refine skR 28 ?_
            try simp only [Act.put, cA, cB, cC]
            refine skR 29 ?_
            try simp only [Act.put, cA, cB, cC]
            refine tkA 30 ?_
            try simp only [Act.put, cA, cB, cC]
            refine wpAnyH_done (by kernel_rfl) ?_ _
            have hXz : Below WX.heap.size WX w4 := hXe.trans (hp4.mono sXe)
            have hBz : Below w.heap.size w w4 := hBX.trans (hXz.mono sXw)
            have HJ2 := Lib.hid (show rowR (rs, es) T i (j + 1) = true by rw [rowR_succ, HJ.out, HAG.out]; rfl)
            clear HJ HI
            go_wp2
            go_roundw
            case rel => exact ⟨j + 1, by omega, by go_num, HJ2, hXz⟩
            case measure => simp [intOf]; omega
           exact AllReadyH.nil
          by_cases he : e1 = e2
          rotate_left
          ·have HAG := Lib.hid (show recB (rs, es) T i j = true by rw [HAG0.out, decide_eq_false he]; rfl)
           have hee : (e1 == e2) = false := by simp [he]
           clear HAG0 he
           go_upto_region 21 with fail
           refine wp_region_held_drew (S := (fun w' => w'.cell? ⟨G1, 0, none⟩ = some (.slice (some ⟨tb, toff, none⟩) T.length tcap) ∧ w'.cell? ⟨G1, 1, none⟩ = some (.slice ao1 n1 cp1) ∧ w'.cell? ⟨G1, 2, none⟩ = some (.slice (some ⟨kb, ko, none⟩) T.length dp1) ∧ w'.cell? ⟨G2, 0, none⟩ = some (.slice bao T2.length bcap) ∧ w'.cell? ⟨G2, 1, none⟩ = some (.slice ao2 n2 cp2) ∧ w'.cell? ⟨G2, 2, none⟩ = some (.slice bo2 m2 dp2) ∧ w'.cell? ⟨kb, ko + i, none⟩ = some (.bool true) ∧ w'.cell? ⟨tb, toff + i * 2, none⟩ = some (.int .i64 s.1) ∧ w'.cell? ⟨tb, toff + i * 2 + 1, none⟩ = some (.slice sao s.2.length scap) ∧ w'.cell? ⟨tb, toff + j * 2, none⟩ = some (.int .i64 t.1) ∧ w'.cell? ⟨tb, toff + j * 2 + 1, none⟩ = some (.slice tao2 t.2.length tcp2))) (by kernel_rfl) ?_ (fun hHeld => ?_)
           ·first | exact trivial | ((try dsimp only); go_keep)
           refine tkA 0 ?_
           try simp only [Act.put, cA, cB, cC]
           refine tkA 2 ?_
           try simp only [Act.put, cA, cB, cC]
           refine tkA 1 ?_
           try simp only [Act.put, cA, cB, cC]
           refine tkA 3 ?_
           try simp only [Act.put, cA, cB, cC]
           refine tkA 4 ?_
           try simp only [Act.put, cA, cB, cC]
           refine tkA 5 ?_
           try simp only [Act.put, cA, cB, cC]
           refine tkA 6 ?_
           try simp only [Act.put, cA, cB, cC]
           refine tkA 7 ?_
           try simp only [Act.put, cA, cB, cC]
           refine tkA 8 ?_
           try simp only [Act.put, cA, cB, cC]
           refine wpAnyH_ready (rs := [9]) (by kernel_rfl) (by simp) ?_
           refine rdR (fun K hK => ?_) ?_
           ·go_simp
            refine (agreeI_b _ (some ⟨tb, toff, none⟩) T.length tcap _ _ (tmL (rs, es) T) (tmB (rs, es) T) ((HU1.out.below hXe).below ?b1) ((HV1.out.below hXe).below ?b2) i j (by rw [tmL_len]; omega) (by rw [tmL_len]; omega) (by rw [tmB_len]; omega) (by rw [tmB_len]; omega) (by rw [tmL_len]; omega) (by rw [tmB_len]; omega) _ _ (tmL_at HS.out) (tmL_at HT.out) _ _ (tmB_at HS.out) (tmB_at HT.out) true (HP.out.trans (agr_eq _ _).symm)).mono ?_
            case b1 => exact bwT
            case b2 => exact bwT
            rintro e4 w4 ⟨rfl, hb4⟩
            have hp4 : Below we.heap.size we w4 := Below.trans (show Below we.heap.size we _ from bwT) (hb4.mono szT)
            have sz4 := hp4.size
            have hS4 := (And.intro (oldc hp4 kG1 q10) (And.intro (oldc hp4 kG1 q11) (And.intro (oldc hp4 kG1 q12) (And.intro (oldc hp4 kG2 q20) (And.intro (oldc hp4 kG2 q21) (And.intro (oldc hp4 kG2 q22) (And.intro (oldc hp4 kl kc) (And.intro (oldc hp4 klt u0) (And.intro (oldc hp4 klt u1) (And.intro (oldc hp4 klt u2) (oldc hp4 klt u3)))))))))))
            clear hb4
            refine hK.out _ _ ?_ (fun hHeld => ?_)
            ·exact kpT
            clear hK K
            try simp only [Act.put, cA, cB, cC]
            refine tkA 10 ?_
            try simp only [Act.put, cA, cB, cC]
            refine tkA 11 ?_
            try simp only [Act.put, cA, cB, cC]
            refine tkA 12 ?_
            try simp only [Act.put, cA, cB, cC]
            refine tkA 13 ?_
            try simp only [Act.put, cA, cB, cC]
            refine tkA 17 ?_
            try simp only [Act.put, cA, cB, cC]
            refine tkA 18 ?_
            try simp only [Act.put, cA, cB, cC]
            refine tkA 14 ?_
            try simp only [Act.put, cA, cB, cC]
            refine tkA 19 ?_
            try simp only [Act.put, cA, cB, cC]
            refine tkA 15 ?_
            try simp only [Act.put, cA, cB, cC]
            refine tkA 20 ?_
            try simp only [Act.put, cA, cB, cC]
            refine wpAnyH_ready (rs := [16]) (by kernel_rfl) (by simp) ?_
            refine rdR (fun K hK => ?_) ?_
            ·go_simp
             refine (sexOfI_any _ _ _ s (HRS0.out.below ?b1) HSK.out e1 HE1.out).mono ?_
             case b1 => exact Below.trans hTe (Below.mono bwT hTe.size)
             rintro e6 w6 ⟨rfl, hb6⟩
             have hp6 : Below we.heap.size we w6 := Below.trans (show Below we.heap.size we _ from bwT) (hb6.mono szT)
             have sz6 := hp6.size
             have hS6 := (And.intro (oldc hp6 kG1 q10) (And.intro (oldc hp6 kG1 q11) (And.intro (oldc hp6 kG1 q12) (And.intro (oldc hp6 kG2 q20) (And.intro (oldc hp6 kG2 q21) (And.intro (oldc hp6 kG2 q22) (And.intro (oldc hp6 kl kc) (And.intro (oldc hp6 klt u0) (And.intro (oldc hp6 klt u1) (And.intro (oldc hp6 klt u2) (oldc hp6 klt u3)))))))))))
             clear hb6
             refine hK.out _ _ ?_ (fun hHeld => ?_)
             ·exact kpT
             clear hK K
             try simp only [Act.put, cA, cB, cC]
             refine wpAnyH_ready (rs := [21]) (by kernel_rfl) (by simp) ?_
             refine rdR (fun K hK => ?_) ?_
             ·go_simp
              refine (sexOfI_any _ _ _ t (HRT0.out.below ?b1) HTK1.out e2 HE2.out).mono ?_
              case b1 => exact Below.trans hTe (Below.mono bwT hTe.size)
              rintro e7 w7 ⟨rfl, hb7⟩
              have hp7 : Below we.heap.size we w7 := Below.trans (show Below we.heap.size we _ from bwT) (hb7.mono szT)
              have sz7 := hp7.size
              have hS7 := (And.intro (oldc hp7 kG1 q10) (And.intro (oldc hp7 kG1 q11) (And.intro (oldc hp7 kG1 q12) (And.intro (oldc hp7 kG2 q20) (And.intro (oldc hp7 kG2 q21) (And.intro (oldc hp7 kG2 q22) (And.intro (oldc hp7 kl kc) (And.intro (oldc hp7 klt u0) (And.intro (oldc hp7 klt u1) (And.intro (oldc hp7 klt u2) (oldc hp7 klt u3)))))))))))
              clear hb7
              refine hK.out _ _ ?_ (fun hHeld => ?_)
              ·exact kpT
              clear hK K
              try simp only [Act.put, cA, cB, cC]
              refine tkA 22 ?_
              try simp only [Act.put, cA, cB, cC]
              refine tkA 23 ?_
              try simp only [Act.put, cA, cB, cC]
              refine tkA 24 ?_
              try simp only [Act.put, cA, cB, cC]
              refine skR 25 ?_
              try simp only [Act.put, cA, cB, cC]
              refine skR 26 ?_
              try simp only [Act.put, cA, cB, cC]
              refine skR 27 ?_
              try simp only [Act.put, cA, cB, cC]
              refine skR 28 ?_
              try simp only [Act.put, cA, cB, cC]
              refine skR 29 ?_
              try simp only [Act.put, cA, cB, cC]
              refine tkA 30 ?_
              try simp only [Act.put, cA, cB, cC]
              refine wpAnyH_done (by kernel_rfl) ?_ _
              have hXz : Below WX.heap.size WX w7 := hXe.trans (hp7.mono sXe)
              have hBz : Below w.heap.size w w7 := hBX.trans (hXz.mono sXw)
              have HJ2 := Lib.hid (show rowR (rs, es) T i (j + 1) = true by rw [rowR_succ, HJ.out, HAG.out]; rfl)
              clear HJ HI
              go_wp2
              go_roundw
              case rel => exact ⟨j + 1, by omega, by go_num, HJ2, hXz⟩
              case measure => simp [intOf]; omega
             exact AllReadyH.nil
            exact AllReadyH.nil
           exact AllReadyH.nil
          have hee : (e1 == e2) = true := by simp [he]
          cases q
          ·have HAG := Lib.hid (show recB (rs, es) T i j = false by rw [HAG0.out, decide_eq_true he]; rfl)
           clear HAG0 he
           go_upto_region 21 with fail
           refine wp_region_held_drew (S := (fun w' => w'.cell? ⟨G1, 0, none⟩ = some (.slice (some ⟨tb, toff, none⟩) T.length tcap) ∧ w'.cell? ⟨G1, 1, none⟩ = some (.slice ao1 n1 cp1) ∧ w'.cell? ⟨G1, 2, none⟩ = some (.slice (some ⟨kb, ko, none⟩) T.length dp1) ∧ w'.cell? ⟨G2, 0, none⟩ = some (.slice bao T2.length bcap) ∧ w'.cell? ⟨G2, 1, none⟩ = some (.slice ao2 n2 cp2) ∧ w'.cell? ⟨G2, 2, none⟩ = some (.slice bo2 m2 dp2) ∧ w'.cell? ⟨kb, ko + i, none⟩ = some (.bool true) ∧ w'.cell? ⟨tb, toff + i * 2, none⟩ = some (.int .i64 s.1) ∧ w'.cell? ⟨tb, toff + i * 2 + 1, none⟩ = some (.slice sao s.2.length scap) ∧ w'.cell? ⟨tb, toff + j * 2, none⟩ = some (.int .i64 t.1) ∧ w'.cell? ⟨tb, toff + j * 2 + 1, none⟩ = some (.slice tao2 t.2.length tcp2))) (by kernel_rfl) ?_ (fun hHeld => ?_)
           ·first | exact trivial | ((try dsimp only); go_keep)
           refine tkA 0 ?_
           try simp only [Act.put, cA, cB, cC]
           refine tkA 2 ?_
           try simp only [Act.put, cA, cB, cC]
           refine tkA 1 ?_
           try simp only [Act.put, cA, cB, cC]
           refine tkA 3 ?_
           try simp only [Act.put, cA, cB, cC]
           refine tkA 4 ?_
           try simp only [Act.put, cA, cB, cC]
           refine tkA 5 ?_
           try simp only [Act.put, cA, cB, cC]
           refine tkA 6 ?_
           try simp only [Act.put, cA, cB, cC]
           refine tkA 7 ?_
           try simp only [Act.put, cA, cB, cC]
           refine tkA 8 ?_
           try simp only [Act.put, cA, cB, cC]
           refine wpAnyH_ready (rs := [9]) (by kernel_rfl) (by simp) ?_
           refine rdR (fun K hK => ?_) ?_
           ·go_simp
            refine (agreeI_b _ (some ⟨tb, toff, none⟩) T.length tcap _ _ (tmL (rs, es) T) (tmB (rs, es) T) ((HU1.out.below hXe).below ?b1) ((HV1.out.below hXe).below ?b2) i j (by rw [tmL_len]; omega) (by rw [tmL_len]; omega) (by rw [tmB_len]; omega) (by rw [tmB_len]; omega) (by rw [tmL_len]; omega) (by rw [tmB_len]; omega) _ _ (tmL_at HS.out) (tmL_at HT.out) _ _ (tmB_at HS.out) (tmB_at HT.out) true (HP.out.trans (agr_eq _ _).symm)).mono ?_
            case b1 => exact bwT
            case b2 => exact bwT
            rintro e4 w4 ⟨rfl, hb4⟩
            have hp4 : Below we.heap.size we w4 := Below.trans (show Below we.heap.size we _ from bwT) (hb4.mono szT)
            have sz4 := hp4.size
            have hS4 := (And.intro (oldc hp4 kG1 q10) (And.intro (oldc hp4 kG1 q11) (And.intro (oldc hp4 kG1 q12) (And.intro (oldc hp4 kG2 q20) (And.intro (oldc hp4 kG2 q21) (And.intro (oldc hp4 kG2 q22) (And.intro (oldc hp4 kl kc) (And.intro (oldc hp4 klt u0) (And.intro (oldc hp4 klt u1) (And.intro (oldc hp4 klt u2) (oldc hp4 klt u3)))))))))))
            clear hb4
            refine hK.out _ _ ?_ (fun hHeld => ?_)
            ·exact kpT
            clear hK K
            try simp only [Act.put, cA, cB, cC]
            refine tkA 10 ?_
            try simp only [Act.put, cA, cB, cC]
            refine tkA 11 ?_
            try simp only [Act.put, cA, cB, cC]
            refine tkA 12 ?_
            try simp only [Act.put, cA, cB, cC]
            refine tkA 13 ?_
            try simp only [Act.put, cA, cB, cC]
            refine tkA 17 ?_
            try simp only [Act.put, cA, cB, cC]
            refine tkA 18 ?_
            try simp only [Act.put, cA, cB, cC]
            refine tkA 14 ?_
            try simp only [Act.put, cA, cB, cC]
            refine tkA 19 ?_
            try simp only [Act.put, cA, cB, cC]
            refine tkA 15 ?_
            try simp only [Act.put, cA, cB, cC]
            refine tkA 20 ?_
            try simp only [Act.put, cA, cB, cC]
            refine wpAnyH_ready (rs := [16]) (by kernel_rfl) (by simp) ?_
            refine rdR (fun K hK => ?_) ?_
            ·go_simp
             refine (sexOfI_any _ _ _ s (HRS0.out.below ?b1) HSK.out e1 HE1.out).mono ?_
             case b1 => exact Below.trans hTe (Below.mono bwT hTe.size)
             rintro e6 w6 ⟨rfl, hb6⟩
             have hp6 : Below we.heap.size we w6 := Below.trans (show Below we.heap.size we _ from bwT) (hb6.mono szT)
             have sz6 := hp6.size
             have hS6 := (And.intro (oldc hp6 kG1 q10) (And.intro (oldc hp6 kG1 q11) (And.intro (oldc hp6 kG1 q12) (And.intro (oldc hp6 kG2 q20) (And.intro (oldc hp6 kG2 q21) (And.intro (oldc hp6 kG2 q22) (And.intro (oldc hp6 kl kc) (And.intro (oldc hp6 klt u0) (And.intro (oldc hp6 klt u1) (And.intro (oldc hp6 klt u2) (oldc hp6 klt u3)))))))))))
             clear hb6
             refine hK.out _ _ ?_ (fun hHeld => ?_)
             ·exact kpT
             clear hK K
             try simp only [Act.put, cA, cB, cC]
             refine wpAnyH_ready (rs := [21]) (by kernel_rfl) (by simp) ?_
             refine rdR (fun K hK => ?_) ?_
             ·go_simp
              refine (sexOfI_any _ _ _ t (HRT0.out.below ?b1) HTK1.out e2 HE2.out).mono ?_
              case b1 => exact Below.trans hTe (Below.mono bwT hTe.size)
              rintro e7 w7 ⟨rfl, hb7⟩
              have hp7 : Below we.heap.size we w7 := Below.trans (show Below we.heap.size we _ from bwT) (hb7.mono szT)
              have sz7 := hp7.size
              have hS7 := (And.intro (oldc hp7 kG1 q10) (And.intro (oldc hp7 kG1 q11) (And.intro (oldc hp7 kG1 q12) (And.intro (oldc hp7 kG2 q20) (And.intro (oldc hp7 kG2 q21) (And.intro (oldc hp7 kG2 q22) (And.intro (oldc hp7 kl kc) (And.intro (oldc hp7 klt u0) (And.intro (oldc hp7 klt u1) (And.intro (oldc hp7 klt u2) (oldc hp7 klt u3)))))))))))
              clear hb7
              refine hK.out _ _ ?_ (fun hHeld => ?_)
              ·exact kpT
              clear hK K
              try simp only [Act.put, cA, cB, cC]
              refine tkA 22 ?_
              try simp only [Act.put, cA, cB, cC]
              refine tkA 23 ?_
              try simp only [Act.put, cA, cB, cC]
              refine tkA 24 ?_
              try simp only [Act.put, cA, cB, cC]
              refine tkA 25 ?_
              try simp only [Act.put, cA, cB, cC]
              refine tkA 26 ?_
              try simp only [Act.put, cA, cB, cC]
              refine tkA 27 ?_
              try simp only [Act.put, cA, cB, cC]
              refine wpAnyH_ready (rs := [28]) (by kernel_rfl) (by simp) ?_
              refine rdR (fun K hK => ?_) ?_
              ·go_simp
               refine (agreeI_b _ bao T2.length bcap _ _ (tmL (rs, es) T2) (tmB (rs, es) T2) ((HU2.out.below hXe).below ?b1) ((HV2.out.below hXe).below ?b2) i j (by rw [tmL_len, HT2l.out]; omega) (by rw [tmL_len, HT2l.out]; omega) (by rw [tmB_len, HT2l.out]; omega) (by rw [tmB_len, HT2l.out]; omega) (by rw [tmL_len, HT2l.out]; omega) (by rw [tmB_len, HT2l.out]; omega) _ _ (tmL_at HT2i.out) (tmL_at HT2j.out) _ _ (tmB_at HT2i.out) (tmB_at HT2j.out) false (HQ.out.trans (agr_eq _ _).symm)).mono ?_
               case b1 => exact bwT
               case b2 => exact bwT
               rintro e8 w8 ⟨rfl, hb8⟩
               have hp8 : Below we.heap.size we w8 := Below.trans (show Below we.heap.size we _ from bwT) (hb8.mono szT)
               have sz8 := hp8.size
               have hS8 := (And.intro (oldc hp8 kG1 q10) (And.intro (oldc hp8 kG1 q11) (And.intro (oldc hp8 kG1 q12) (And.intro (oldc hp8 kG2 q20) (And.intro (oldc hp8 kG2 q21) (And.intro (oldc hp8 kG2 q22) (And.intro (oldc hp8 kl kc) (And.intro (oldc hp8 klt u0) (And.intro (oldc hp8 klt u1) (And.intro (oldc hp8 klt u2) (oldc hp8 klt u3)))))))))))
               clear hb8
               refine hK.out _ _ ?_ (fun hHeld => ?_)
               ·exact kpT
               clear hK K
               try simp only [Act.put, cA, cB, cC]
               refine tkA 29 ?_
               try simp only [Act.put, cA, cB, cC]
               refine tkA 30 ?_
               try simp only [Act.put, cA, cB, cC]
               refine wpAnyH_done (by kernel_rfl) ?_ _
               have hXz : Below WX.heap.size WX w8 := hXe.trans (hp8.mono sXe)
               have hBz : Below w.heap.size w w8 := hBX.trans (hXz.mono sXw)
               have HF := Lib.hid (show R = false from divF_end HRD.out HD.out HDD.out hk2 (divR_bad hli (rowR_bad hlj (HAG.out.trans (by decide)))))
               clear HRD HD HDD HK HI HJ
               go_wp2
               go_ret
               exact ⟨ret_bool HF.out.symm, hBz⟩
              exact AllReadyH.nil
             exact AllReadyH.nil
            exact AllReadyH.nil
           exact AllReadyH.nil
          ·have HAG := Lib.hid (show recB (rs, es) T i j = true by rw [HAG0.out, Bool.or_true])
           clear HAG0 he
           go_upto_region 21 with fail
           refine wp_region_held_drew (S := (fun w' => w'.cell? ⟨G1, 0, none⟩ = some (.slice (some ⟨tb, toff, none⟩) T.length tcap) ∧ w'.cell? ⟨G1, 1, none⟩ = some (.slice ao1 n1 cp1) ∧ w'.cell? ⟨G1, 2, none⟩ = some (.slice (some ⟨kb, ko, none⟩) T.length dp1) ∧ w'.cell? ⟨G2, 0, none⟩ = some (.slice bao T2.length bcap) ∧ w'.cell? ⟨G2, 1, none⟩ = some (.slice ao2 n2 cp2) ∧ w'.cell? ⟨G2, 2, none⟩ = some (.slice bo2 m2 dp2) ∧ w'.cell? ⟨kb, ko + i, none⟩ = some (.bool true) ∧ w'.cell? ⟨tb, toff + i * 2, none⟩ = some (.int .i64 s.1) ∧ w'.cell? ⟨tb, toff + i * 2 + 1, none⟩ = some (.slice sao s.2.length scap) ∧ w'.cell? ⟨tb, toff + j * 2, none⟩ = some (.int .i64 t.1) ∧ w'.cell? ⟨tb, toff + j * 2 + 1, none⟩ = some (.slice tao2 t.2.length tcp2))) (by kernel_rfl) ?_ (fun hHeld => ?_)
           ·first | exact trivial | ((try dsimp only); go_keep)
           refine tkA 0 ?_
           try simp only [Act.put, cA, cB, cC]
           refine tkA 2 ?_
           try simp only [Act.put, cA, cB, cC]
           refine tkA 1 ?_
           try simp only [Act.put, cA, cB, cC]
           refine tkA 3 ?_
           try simp only [Act.put, cA, cB, cC]
           refine tkA 4 ?_
           try simp only [Act.put, cA, cB, cC]
           refine tkA 5 ?_
           try simp only [Act.put, cA, cB, cC]
           refine tkA 6 ?_
           try simp only [Act.put, cA, cB, cC]
           refine tkA 7 ?_
           try simp only [Act.put, cA, cB, cC]
           refine tkA 8 ?_
           try simp only [Act.put, cA, cB, cC]
           refine wpAnyH_ready (rs := [9]) (by kernel_rfl) (by simp) ?_
           refine rdR (fun K hK => ?_) ?_
           ·go_simp
            refine (agreeI_b _ (some ⟨tb, toff, none⟩) T.length tcap _ _ (tmL (rs, es) T) (tmB (rs, es) T) ((HU1.out.below hXe).below ?b1) ((HV1.out.below hXe).below ?b2) i j (by rw [tmL_len]; omega) (by rw [tmL_len]; omega) (by rw [tmB_len]; omega) (by rw [tmB_len]; omega) (by rw [tmL_len]; omega) (by rw [tmB_len]; omega) _ _ (tmL_at HS.out) (tmL_at HT.out) _ _ (tmB_at HS.out) (tmB_at HT.out) true (HP.out.trans (agr_eq _ _).symm)).mono ?_
            case b1 => exact bwT
            case b2 => exact bwT
            rintro e4 w4 ⟨rfl, hb4⟩
            have hp4 : Below we.heap.size we w4 := Below.trans (show Below we.heap.size we _ from bwT) (hb4.mono szT)
            have sz4 := hp4.size
            have hS4 := (And.intro (oldc hp4 kG1 q10) (And.intro (oldc hp4 kG1 q11) (And.intro (oldc hp4 kG1 q12) (And.intro (oldc hp4 kG2 q20) (And.intro (oldc hp4 kG2 q21) (And.intro (oldc hp4 kG2 q22) (And.intro (oldc hp4 kl kc) (And.intro (oldc hp4 klt u0) (And.intro (oldc hp4 klt u1) (And.intro (oldc hp4 klt u2) (oldc hp4 klt u3)))))))))))
            clear hb4
            refine hK.out _ _ ?_ (fun hHeld => ?_)
            ·exact kpT
            clear hK K
            try simp only [Act.put, cA, cB, cC]
            refine tkA 10 ?_
            try simp only [Act.put, cA, cB, cC]
            refine tkA 11 ?_
            try simp only [Act.put, cA, cB, cC]
            refine tkA 12 ?_
            try simp only [Act.put, cA, cB, cC]
            refine tkA 13 ?_
            try simp only [Act.put, cA, cB, cC]
            refine tkA 17 ?_
            try simp only [Act.put, cA, cB, cC]
            refine tkA 18 ?_
            try simp only [Act.put, cA, cB, cC]
            refine tkA 14 ?_
            try simp only [Act.put, cA, cB, cC]
            refine tkA 19 ?_
            try simp only [Act.put, cA, cB, cC]
            refine tkA 15 ?_
            try simp only [Act.put, cA, cB, cC]
            refine tkA 20 ?_
            try simp only [Act.put, cA, cB, cC]
            refine wpAnyH_ready (rs := [16]) (by kernel_rfl) (by simp) ?_
            refine rdR (fun K hK => ?_) ?_
            ·go_simp
             refine (sexOfI_any _ _ _ s (HRS0.out.below ?b1) HSK.out e1 HE1.out).mono ?_
             case b1 => exact Below.trans hTe (Below.mono bwT hTe.size)
             rintro e6 w6 ⟨rfl, hb6⟩
             have hp6 : Below we.heap.size we w6 := Below.trans (show Below we.heap.size we _ from bwT) (hb6.mono szT)
             have sz6 := hp6.size
             have hS6 := (And.intro (oldc hp6 kG1 q10) (And.intro (oldc hp6 kG1 q11) (And.intro (oldc hp6 kG1 q12) (And.intro (oldc hp6 kG2 q20) (And.intro (oldc hp6 kG2 q21) (And.intro (oldc hp6 kG2 q22) (And.intro (oldc hp6 kl kc) (And.intro (oldc hp6 klt u0) (And.intro (oldc hp6 klt u1) (And.intro (oldc hp6 klt u2) (oldc hp6 klt u3)))))))))))
             clear hb6
             refine hK.out _ _ ?_ (fun hHeld => ?_)
             ·exact kpT
             clear hK K
             try simp only [Act.put, cA, cB, cC]
             refine wpAnyH_ready (rs := [21]) (by kernel_rfl) (by simp) ?_
             refine rdR (fun K hK => ?_) ?_
             ·go_simp
              refine (sexOfI_any _ _ _ t (HRT0.out.below ?b1) HTK1.out e2 HE2.out).mono ?_
              case b1 => exact Below.trans hTe (Below.mono bwT hTe.size)
              rintro e7 w7 ⟨rfl, hb7⟩
              have hp7 : Below we.heap.size we w7 := Below.trans (show Below we.heap.size we _ from bwT) (hb7.mono szT)
              have sz7 := hp7.size
              have hS7 := (And.intro (oldc hp7 kG1 q10) (And.intro (oldc hp7 kG1 q11) (And.intro (oldc hp7 kG1 q12) (And.intro (oldc hp7 kG2 q20) (And.intro (oldc hp7 kG2 q21) (And.intro (oldc hp7 kG2 q22) (And.intro (oldc hp7 kl kc) (And.intro (oldc hp7 klt u0) (And.intro (oldc hp7 klt u1) (And.intro (oldc hp7 klt u2) (oldc hp7 klt u3)))))))))))
              clear hb7
              refine hK.out _ _ ?_ (fun hHeld => ?_)
              ·exact kpT
              clear hK K
              try simp only [Act.put, cA, cB, cC]
              refine tkA 22 ?_
              try simp only [Act.put, cA, cB, cC]
              refine tkA 23 ?_
              try simp only [Act.put, cA, cB, cC]
              refine tkA 24 ?_
              try simp only [Act.put, cA, cB, cC]
              refine tkA 25 ?_
              try simp only [Act.put, cA, cB, cC]
              refine tkA 26 ?_
              try simp only [Act.put, cA, cB, cC]
              refine tkA 27 ?_
              try simp only [Act.put, cA, cB, cC]
              refine wpAnyH_ready (rs := [28]) (by kernel_rfl) (by simp) ?_
              refine rdR (fun K hK => ?_) ?_
              ·go_simp
               refine (agreeI_b _ bao T2.length bcap _ _ (tmL (rs, es) T2) (tmB (rs, es) T2) ((HU2.out.below hXe).below ?b1) ((HV2.out.below hXe).below ?b2) i j (by rw [tmL_len, HT2l.out]; omega) (by rw [tmL_len, HT2l.out]; omega) (by rw [tmB_len, HT2l.out]; omega) (by rw [tmB_len, HT2l.out]; omega) (by rw [tmL_len, HT2l.out]; omega) (by rw [tmB_len, HT2l.out]; omega) _ _ (tmL_at HT2i.out) (tmL_at HT2j.out) _ _ (tmB_at HT2i.out) (tmB_at HT2j.out) true (HQ.out.trans (agr_eq _ _).symm)).mono ?_
               case b1 => exact bwT
               case b2 => exact bwT
               rintro e8 w8 ⟨rfl, hb8⟩
               have hp8 : Below we.heap.size we w8 := Below.trans (show Below we.heap.size we _ from bwT) (hb8.mono szT)
               have sz8 := hp8.size
               have hS8 := (And.intro (oldc hp8 kG1 q10) (And.intro (oldc hp8 kG1 q11) (And.intro (oldc hp8 kG1 q12) (And.intro (oldc hp8 kG2 q20) (And.intro (oldc hp8 kG2 q21) (And.intro (oldc hp8 kG2 q22) (And.intro (oldc hp8 kl kc) (And.intro (oldc hp8 klt u0) (And.intro (oldc hp8 klt u1) (And.intro (oldc hp8 klt u2) (oldc hp8 klt u3)))))))))))
               clear hb8
               refine hK.out _ _ ?_ (fun hHeld => ?_)
               ·exact kpT
               clear hK K
               try simp only [Act.put, cA, cB, cC]
               refine tkA 29 ?_
               try simp only [Act.put, cA, cB, cC]
               refine tkA 30 ?_
               try simp only [Act.put, cA, cB, cC]
               refine wpAnyH_done (by kernel_rfl) ?_ _
               have hXz : Below WX.heap.size WX w8 := hXe.trans (hp8.mono sXe)
               have hBz : Below w.heap.size w w8 := hBX.trans (hXz.mono sXw)
               have HJ2 := Lib.hid (show rowR (rs, es) T i (j + 1) = true by rw [rowR_succ, HJ.out, HAG.out]; rfl)
               clear HJ HI
               go_wp2
               go_roundw
               case rel => exact ⟨j + 1, by omega, by go_num, HJ2, hXz⟩
               case measure => simp [intOf]; omega
              exact AllReadyH.nil
             exact AllReadyH.nil
            exact AllReadyH.nil
           exact AllReadyH.nil
         ·obtain rfl : j = i := by omega
          have nJ : ¬ (j : Int) < (j : Int) := by omega
          have HI2 := Lib.hid (show divR (rs, es) T (j + 1) = true by rw [divR_succ, HI.out, HJ.out]; rfl)
          clear HI HJ
          go_wp2_with fail
          go_roundw
          case rel => exact ⟨j + 1, by omega, by go_num, HI2, hXe⟩
          case measure => simp [intOf]; omega
       ·obtain rfl : i = T.length := by omega
        have nI : ¬ (T.length : Int) < (T.length : Int) := by omega
        have HDT := Lib.hid (show D = true by rw [HD.out]; exact HI.out)
        have HK2 := Lib.hid (show (1 ≤ k + 1 → d1 = true) ∧ (2 ≤ k + 1 → d2 = true) from ⟨fun _ => by by_cases h0 : k = 0; exact (HDD.out.1 h0).symm.trans HDT.out; exact HK.out.1 (by omega), fun _ => (HDD.out.2 (by omega)).symm.trans HDT.out⟩)
        clear HI HK HDD
        go_wp2
        go_roundw
        case rel => exact ⟨k + 1, by omega, by go_num, HK2, hbX0.trans (hXd.mono sX)⟩
        case measure => simp [intOf]; omega
  ·obtain rfl : k = 2 := by omega
   have HF := Lib.hid (show R = true by rw [HRD.out, HK.out.1 (by omega), HK.out.2 (by omega)]; rfl)
   clear HRD HK
   go_wp2
   go_ret
   exact ⟨ret_bool HF.out.symm, hBb⟩
end Go.Proofs.YtdpkldapobbnpaaGreatDoor
