/- Contract of IsReciprocal (spec). Written by ir_gen.py. -/
import Derived.Test.YtnfgdkbapffjcaaLtI
import Derived.Test.YtnfgdkbapffjcaaTwoS
import Derived.Test.YtnfgdkbapffjcaaRec
import Derived.Test.YtnfgdkbapffjcaaRvS
namespace Go.Proofs.Ytnfgdkbapffjcaa
set_option linter.unusedVariables false
set_option linter.unusedSimpArgs false
open Go.RowKit

set_option maxRecDepth 20000 in
set_option maxHeartbeats 16000000 in
theorem isRecipS_b {z : Bool} {lo hi : Nat} (w : World) (y1 y2 : Value) (y : Trm) (h : Rd z lo hi w [y1, y2] y) (n : Int) (R : Bool) (hR : R = isRecip y n) :
    Calls Try.prog 13 #[.agg #[y1, y2], .int .i64 n] w (PostB w R) := by
  obtain ⟨rs, es⟩ := y
  have HY := Lib.hid h
  obtain ⟨hy1, hy2⟩ := h.two rfl
  dsimp only at hy1 hy2
  obtain ⟨ra, rn, rcap, rfl, -⟩ := hy1.shape
  obtain ⟨ea, en, ecap, rfl, -⟩ := hy2.shape
  obtain ⟨r1, hlet_r1⟩ : ∃ r, r = isTerm (rs, es) := ⟨_, rfl⟩
  have H1 := Lib.hid hlet_r1
  clear hlet_r1
  obtain ⟨d1, hlet_d1⟩ : ∃ r, r = divR (rs, es) (typesX 1 n) (typesX 1 n).length := ⟨_, rfl⟩
  have HD1 := Lib.hid hlet_d1
  clear hlet_d1
  obtain ⟨d2, hlet_d2⟩ : ∃ r, r = divR (rs, es) (typesX 2 n) (typesX 2 n).length := ⟨_, rfl⟩
  have HD2 := Lib.hid hlet_d2
  clear hlet_d2
  have HR := Lib.hid (show R = ((r1 && decide (1 ≤ n ∧ n ≤ 3)) && (d1 && d2)) by rw [hR, isRecip, H1.out, HD1.out, HD2.out])
  clear h hy1 hy2 hR
  go_enter Try.func13, Try.ntmps13
  go_wp2_with fail
  refine (isTermS_b _ _ _ rs es (HY.out.below bwT) r1 H1.out).mono ?_
  rintro e1 w1 ⟨rfl, hbw1⟩
  have hpw1 : Below w.heap.size w w1 := Below.after bwT hbw1 szT
  have sw1 := hpw1.size
  have hBw1 : Below w.heap.size w w1 := hpw1
  have l_y : w.heap.size < w1.heap.size := by have := hbw1.size; simp at this; omega
  have q_y0 : w1.cell? ⟨w.heap.size, 0, none⟩ = some (.slice ra rn rcap) := oldc hbw1 ltT (by simp [go_sem])
  have q_y1 : w1.cell? ⟨w.heap.size, 1, none⟩ = some (.slice ea en ecap) := oldc hbw1 ltT (by simp [go_sem])
  clear hbw1 hpw1
  cases r1
  · obtain rfl : R = false := by rw [HR.out]; rfl
    clear HR H1 HY
    go_wp2
    go_ret
    exact ⟨rfl, hBw1⟩
  obtain ⟨r3, hlet_r3⟩ : ∃ r, r = decide (1 ≤ n ∧ n ≤ 3) := ⟨_, rfl⟩
  have H3 := Lib.hid hlet_r3
  clear hlet_r3
  go_wp2_with fail
  refine (l1In_b n 1 3 _ r3 H3.out).mono ?_
  rintro e2 w2 ⟨rfl, hbw2⟩
  have hpw2 : Below w1.heap.size w1 w2 := Below.after bwT hbw2 szT
  have sw2 := hpw2.size
  have hBw2 : Below w.heap.size w w2 := Below.trans hBw1 (Below.mono hpw2 hBw1.size)
  have q_y0 := oldc hpw2 l_y q_y0
  have q_y1 := oldc hpw2 l_y q_y1
  have l_y := Nat.lt_of_lt_of_le l_y sw2
  clear hbw2 hpw2
  cases r3
  · obtain rfl : R = false := by rw [HR.out, ← H3.out]; rfl
    clear HR H1 H3 HY
    go_wp2
    go_ret
    exact ⟨rfl, hBw2⟩
  have HRD := Lib.hid (show R = (d1 && d2) by rw [HR.out, ← H3.out]; rfl)
  have hn13 : 1 ≤ n ∧ n ≤ 3 := of_decide_eq_true H3.out.symm
  clear HR H3
  have HRS := Lib.hid (show allRules rs from (areRules_facts (isTerm_facts H1.out.symm).1).2.1)
  obtain ⟨W0, hW0⟩ : ∃ W0 : World, W0 = w2 := ⟨_, rfl⟩
  subst hW0
  have hB0 : Below w.heap.size w W0 := hBw2
  have s0 := hB0.size
  have ya0 := q_y0
  have ya1 := q_y1
  have lya : w.heap.size < W0.heap.size := l_y
  clear q_y0 q_y1 l_y
  go_wp2
  go_loopw [5, 6, 7, 8, 10, 11, 12, 13, 14] (fun s5 _ _ _ _ _ _ _ _ wr => ∃ k : Nat, k ≤ 2 ∧ s5 = .int .i64 (1 + (k : Int)) ∧ Hid ((1 ≤ k → d1 = true) ∧ (2 ≤ k → d2 = true)) ∧ Below W0.heap.size W0 wr) (fun s5 _ _ _ _ _ _ _ _ _ => 3 - (intOf s5).toNat)
  case atStart => exact ⟨0, by omega, rfl, Lib.hid ⟨fun h => by omega, fun h => by omega⟩, Below.refl _ _⟩
  case round =>
    obtain ⟨wb, hwb⟩ : ∃ wm : World, wm = wr := ⟨_, rfl⟩
    subst hwb
    obtain ⟨k, hk, rfl, HK, hbb⟩ := hrel
    have sB := hbb.size
    have hBb : Below w.heap.size w wb := hB0.trans (hbb.mono s0)
    by_cases hk2 : k < 2
    · have hc : 1 + (k : Int) ≤ 2 := by omega
      go_wp2_with fail
      refine (typesFromS_any _ (1 + (k : Int)) n).mono ?_
      rintro e wT ⟨ut, rfl, ho, hbT⟩
      obtain ⟨T, hT⟩ : ∃ T, T = typesX (1 + (k : Int)) n := ⟨_, rfl⟩
      rw [← hT] at ho
      have hrd := Lib.hid ho.rd
      obtain ⟨tao, tn, tcap, rfl, htn, -, htm, -⟩ := ho.rd.shape
      subst htn
      have HTK := Lib.hid (show ∀ t ∈ T, isKin t = true from fun t ht => by rw [hT] at ht; exact (typesX_kin ht).1)
      have hTL : T.length ≤ 600 := by rw [hT]; exact typesX_len _ n
      obtain ⟨D, hlet_D⟩ : ∃ r, r = divR (rs, es) T T.length := ⟨_, rfl⟩
      have HD := Lib.hid hlet_D
      clear hlet_D
      have HDD := Lib.hid (show (k = 0 → D = d1) ∧ (k = 1 → D = d2) from ⟨fun e => by subst e; rw [HD.out, HD1.out, hT]; rfl, fun e => by subst e; rw [HD.out, HD2.out, hT]; rfl⟩)
      have hbT1 : Below wb.heap.size wb wT := Below.trans (show Below wb.heap.size wb _ from bwT) (hbT.mono szT)
      have hbT0 : Below W0.heap.size W0 wT := hbb.trans (hbT1.mono sB)
      have sT := hbT0.size
      have hBT : Below w.heap.size w wT := hB0.trans (hbT0.mono s0)
      have q_y0 := oldc hbT0 lya ya0
      have q_y1 := oldc hbT0 lya ya1
      have ly : w.heap.size < wT.heap.size := by omega
      have sTb : wb.heap.size + 1 < wT.heap.size := by have := hbT.size; simp at this; omega
      clear ho hT hbT hbT1
      go_wp2
      go_loopw [6, 7, 10, 11, 12, 34] (fun s6 s7 _ _ _ s34 wr => ∃ i : Nat, i ≤ T.length ∧ s34 = .int .i64 i ∧ Hid (TwoS wT.heap.size wr 9 9 s6 s7 (tmL (rs, es) (T.take i)) (tmL (rs, es) ((T.take i).map revX))) ∧ Below wT.heap.size wT wr) (fun _ _ _ _ _ s34 _ => T.length - (intOf s34).toNat)
      case atStart => exact ⟨0, Nat.zero_le _, rfl, Lib.hid ⟨GLZ.lit (by omega), GLZ.lit (by omega), fun g h => by simp [Value.ownBlock] at h ⊢; omega⟩, Below.refl _ _⟩
      case round =>
        obtain ⟨wc, hwc⟩ : ∃ wm : World, wm = wr := ⟨_, rfl⟩
        subst hwc
        obtain ⟨i, hi1, rfl, hTw, hTc⟩ := hrel
        have sTc := hTc.size
        by_cases hli : i < T.length
        · have hIi : (i : Int) < (T.length : Int) := by omega
          obtain ⟨tb, toff, t, tvv, rfl, ht, c0, c1, hti, hvs, hrt0, -, -, tlt⟩ := hrd.out.kin_at hli
          obtain ⟨sao, sn, scap, rfl, hsn, -⟩ := hvs.shape
          subst hsn
          have k0 := oldc hTc tlt c0
          have k1 := oldc hTc tlt c1
          have hrt := Lib.hid hrt0
          have HK1 := Lib.hid (HTK.out t (List.mem_of_getElem? ht.out))
          obtain ⟨q, hlet_q⟩ : ∃ r, r = tmText (termOf (rs, es) t) := ⟨_, rfl⟩
          have HQ := Lib.hid hlet_q
          clear hlet_q
          obtain ⟨q2, hlet_q2⟩ : ∃ r, r = tmText (termOf (rs, es) (revX t)) := ⟨_, rfl⟩
          have HQ2 := Lib.hid hlet_q2
          clear hlet_q2
          have HQL := Lib.hid (show q.size ≤ maxLen by rw [HQ.out]; exact tmText_le H1.out t)
          have HQL2 := Lib.hid (show q2.size ≤ maxLen by rw [HQ2.out]; exact tmText_le H1.out (revX t))
          obtain ⟨L1, hL1⟩ : ∃ L, L = tmL (rs, es) (T.take i) := ⟨_, rfl⟩
          obtain ⟨L2, hL2⟩ : ∃ L, L = tmL (rs, es) ((T.take i).map revX) := ⟨_, rfl⟩
          have hN1 : L1.length ≤ 600 := by rw [hL1, tmL_len, List.length_take]; omega
          have hN2 : L2.length ≤ 600 := by rw [hL2, tmL_len, List.length_map, List.length_take]; omega
          have HL1 := Lib.hid (show L1 ++ [q] = tmL (rs, es) (T.take (i + 1)) by rw [hL1, take_snoc ht.out, HQ.out]; simp [tmL])
          have HL2 := Lib.hid (show L2 ++ [q2] = tmL (rs, es) ((T.take (i + 1)).map revX) by rw [hL2, take_snoc ht.out, HQ2.out]; simp [tmL])
          rw [← hL1, ← hL2] at hTw
          obtain ⟨u1, hu1⟩ : ∃ u, u = revX t := ⟨_, rfl⟩
          have HU := Lib.hid hu1
          have HO1 := Lib.hid (fun g h => hTw.out.one.olt (g := g) h)
          have HO2 := Lib.hid (fun g h => hTw.out.two.olt (g := g) h)
          have p_y0 := oldc hTc ly q_y0
          have p_y1 := oldc hTc ly q_y1
          have lyc : w.heap.size < wc.heap.size := by omega
          clear hL1 hL2 ht c0 c1 hti hvs hrt0
          go_wp2_with fail
          refine (reverseS_any _ _ _ t (hrt.out.below ?b1)).mono ?_
          case b1 => exact hTc.alloc sTc _
          rw [← hu1]
          clear hu1
          rintro e w1 ⟨v1, rfl, ho1, hb1⟩
          have hku := Lib.hid (show isKin u1 = true by rw [HU.out]; exact revX_kin t)
          obtain ⟨u1e, u1l⟩ := u1
          obtain ⟨_, hu1e, hu1b⟩ := ho1.rd.kin
          obtain ⟨vao, vn, vcap, rfl, hvn, -⟩ := hu1b.shape
          have s1 := hb1.size
          simp only [World.size_alloc] at s1
          have hT1 : Below wT.heap.size wT w1 := Below.trans (show Below wT.heap.size wT _ from hTc.alloc sTc _) (hb1.mono szT)
          have a0 : w1.cell? ⟨wc.heap.size, 0, none⟩ = some (.int .i64 t.1) := oldc hb1 ltT (by simp [go_sem])
          have a1 : w1.cell? ⟨wc.heap.size, 1, none⟩ = some (.slice sao t.2.length scap) := oldc hb1 ltT (by simp [go_sem])
          obtain ⟨WA, hWA⟩ : ∃ WA : World, WA = w1.alloc (.cells #[.int .i64 u1e, .slice vao vn vcap] 53) := ⟨_, rfl⟩
          have hbA : Below w1.heap.size w1 WA := by subst hWA; exact bwT
          have szA : WA.heap.size = w1.heap.size + 1 := by subst hWA; simp
          have hbcA : Below wc.heap.size wc WA := Below.trans (Below.trans (show Below wc.heap.size wc _ from bwT) (hb1.mono szT)) (hbA.mono (by omega))
          have hTw1 := Lib.hid (hTw.out.below hbcA)
          have ho2 := Lib.hid (Ow.below ho1 hbA).rd
          have b0 : WA.cell? ⟨w1.heap.size, 0, none⟩ = some (.int .i64 u1e) := by subst hWA; simp [go_sem]
          have b1 : WA.cell? ⟨w1.heap.size, 1, none⟩ = some (.slice vao vn vcap) := by subst hWA; simp [go_sem]
          have la1 : wc.heap.size < w1.heap.size := by omega
          have a0 := oldc hbA la1 a0
          have a1 := oldc hbA la1 a1
          have hTA : Below wT.heap.size wT WA := hT1.trans (hbA.mono (by omega))
          have sTA := hTA.size
          have p_y0 := oldc hTA ly q_y0
          have p_y1 := oldc hTA ly q_y1
          have lyA : w.heap.size < WA.heap.size := by omega
          have hBA : Below w.heap.size w WA := hBT.trans (hTA.mono hBT.size)
          clear ho1 hb1 hbA hTw hbcA hu1b
          have laA : wc.heap.size < WA.heap.size := by omega
          have lbA : w1.heap.size < WA.heap.size := by omega
          have ny0 := oldc hT1 ly q_y0
          have ny1 := oldc hT1 ly q_y1
          have ly1 : w.heap.size < w1.heap.size := by have := hT1.size; omega
          have am0 : w1.cell? ⟨wc.heap.size, 0, none⟩ = some (.int .i64 t.1) := by rw [← a0, hWA]; exact (Below.cell ((Below.refl w1.heap.size w1).alloc (Nat.le_refl _) _) (p := ⟨wc.heap.size, 0, none⟩) la1).symm
          have am1 : w1.cell? ⟨wc.heap.size, 1, none⟩ = some (.slice sao t.2.length scap) := by rw [← a1, hWA]; exact (Below.cell ((Below.refl w1.heap.size w1).alloc (Nat.le_refl _) _) (p := ⟨wc.heap.size, 1, none⟩) la1).symm
          go_wp2_with fail
          rw [← hWA]
          clear hWA ny0 ny1 am0 am1
          refine (termTS_x _ _ _ _ _ rs es t (HY.out.below hBA) (hrt.out.below hTA) HRS.out HK1.out q HQ.out _ rfl).mono ?_
          rintro e w3 ⟨rfl, hb3⟩
          have s3 := hb3.size
          have a0 := oldc hb3 laA a0
          have a1 := oldc hb3 laA a1
          have b0 := oldc hb3 lbA b0
          have b1 := oldc hb3 lbA b1
          have hT3 : Below wT.heap.size wT w3 := hTA.trans (hb3.mono sTA)
          have hTw2 := Lib.hid ((hTw1.out.below hb3).below ((Below.refl _ _).alloc (Nat.le_refl _) (.cells #[.string q] 9)))
          have ho3 := Lib.hid ((ho2.out.below hb3).below ((Below.refl _ _).alloc (Nat.le_refl _) (.cells #[.string q] 9)))
          have lb3 : w1.heap.size < w3.heap.size := by omega
          clear hb3 hTw1 ho2 p_y0 p_y1
          go_wp2_with (at_builtin; refine wpList_push_z rfl rfl slStrS (by show (0 : Nat) < 1; omega) hTw2.out.one rfl (ad := ⟨w3.heap.size, 0, none⟩) rfl (cs := [.string q]) (y := q) ?c1 ⟨rfl, HQL.out, rfl⟩ (by unfold maxLen; omega) (by omega) ?c2 ?_)
          case c1 => intro j c hj; match j, hj with | 0, hj => simp at hj; subst hj; simp [Addr.add, go_sem]
          case c2 => have := hT3.size; simp; omega
          rintro g1 cp1 w4 hG5 hg5 hb5 hat
          have hTw4 := Lib.hid (hTw2.out.mk1 hG5 hg5 (by simpa using hat))
          rw [HL1.out] at hTw4
          have hT4 : Below wT.heap.size wT w4 := Below.trans (show Below wT.heap.size wT _ from bwT) hb5
          have sz4 : w3.heap.size < w4.heap.size := by have := hg5.size; simp at this; omega
          have b0 : w4.cell? ⟨w1.heap.size, 0, none⟩ = some (.int .i64 u1e) := (World.cell?_of_block (a := ⟨w1.heap.size, 0, none⟩) (hg5.block w1.heap.size ltT (fun e => by have := HO1.out _ e.symm; omega))).trans ((Below.cell ((Below.refl w3.heap.size w3).alloc (Nat.le_refl _) _) (p := ⟨w1.heap.size, 0, none⟩) lb3).trans b0)
          have b1 : w4.cell? ⟨w1.heap.size, 1, none⟩ = some (.slice vao vn vcap) := (World.cell?_of_block (a := ⟨w1.heap.size, 1, none⟩) (hg5.block w1.heap.size ltT (fun e => by have := HO1.out _ e.symm; omega))).trans ((Below.cell ((Below.refl w3.heap.size w3).alloc (Nat.le_refl _) _) (p := ⟨w1.heap.size, 1, none⟩) lb3).trans b1)
          have ho4 := Lib.hid (Rd.keep (ho3.out) (fun b h1 h2 => hg5.block b ltT (fun e => by have := HO1.out _ e.symm; simp at h1; omega)))
          have r_y0 := oldc hT4 ly q_y0
          have r_y1 := oldc hT4 ly q_y1
          have hBw4 : Below w.heap.size w w4 := hBT.trans (hT4.mono hBT.size)
          clear hTw2 hG5 hg5 hat hb5 a0 a1 ho3
          go_wp2_with fail
          refine (termTS_x _ _ _ _ _ rs es (u1e, u1l) (HY.out.below hBw4) ho4.out HRS.out hku.out q2 (HQ2.out.trans (by rw [← HU.out])) _ rfl).mono ?_
          rintro e w5 ⟨rfl, hb5⟩
          have hT5 : Below wT.heap.size wT w5 := hT4.trans (hb5.mono hT4.size)
          have hTw5 := Lib.hid ((hTw4.out.below hb5).below ((Below.refl _ _).alloc (Nat.le_refl _) (.cells #[.string q2] 9)))
          clear hb5 hTw4 b0 b1 ho4 r_y0 r_y1
          go_wp2_with (at_builtin; refine wpList_push_z rfl rfl slStrS (by show (0 : Nat) < 1; omega) hTw5.out.two rfl (ad := ⟨w5.heap.size, 0, none⟩) rfl (cs := [.string q2]) (y := q2) ?c1 ⟨rfl, HQL2.out, rfl⟩ (by unfold maxLen; omega) (by omega) ?c2 ?_)
          case c1 => intro j c hj; match j, hj with | 0, hj => simp at hj; subst hj; simp [Addr.add, go_sem]
          case c2 => have := hT5.size; simp; omega
          rintro g2 cp2 w6 hG5 hg5 hb5 hat
          have hTw6 := Lib.hid (hTw5.out.mk2 hG5 hg5 (by simpa using hat))
          rw [HL2.out] at hTw6
          have sz5 := hT5.size
          have hT6 : Below wT.heap.size wT w6 := Below.trans (show Below wT.heap.size wT _ from bwT) hb5
          clear hTw5 hG5 hg5 hat hb5 hT5 hT4
          go_wp2
          go_roundw
          case rel => exact ⟨i + 1, by omega, by go_num, hTw6, hT6⟩
          case measure => simp [intOf]; omega
        · obtain rfl : i = T.length := by omega
          have nI : ¬ (T.length : Int) < (T.length : Int) := by omega
          have hTw2 := hTw.out
          rw [List.take_length] at hTw2
          obtain ⟨ao1, cp1, rfl, -, -⟩ := hTw2.one.len
          obtain ⟨ao2, cp2, rfl, -, -⟩ := hTw2.two.len
          have HU1 := Lib.hid hTw2.one.rd
          have HU2 := Lib.hid hTw2.two.rd
          simp only [tmL_len, List.length_map] at HU1 HU2 ⊢
          have hBc : Below w.heap.size w wc := hBT.trans (hTc.mono hBT.size)
          clear hTw hTw2
          go_wp2
          go_loopw [13, 14, 58] (fun _ _ s58 wr => ∃ i : Nat, i ≤ T.length ∧ s58 = .int .i64 i ∧ Hid (divR (rs, es) T i = true) ∧ Below wc.heap.size wc wr) (fun _ _ s58 _ => T.length - (intOf s58).toNat)
          case atStart => exact ⟨0, Nat.zero_le _, rfl, Lib.hid rfl, Below.refl _ _⟩
          case round =>
            obtain ⟨wd, hwd⟩ : ∃ wm : World, wm = wr := ⟨_, rfl⟩
            subst hwd
            obtain ⟨i, hi1, rfl, HI, hXd⟩ := hrel
            have sXd := hXd.size
            by_cases hli : i < T.length
            · have hIi : (i : Int) < (T.length : Int) := by omega
              obtain ⟨tb, toff, s, sv, rfl, hs, sc0, sc1, hsi, hsv, hrs0, -, -, slt⟩ := hrd.out.kin_at hli
              obtain ⟨sao, sn, scap, rfl, hsn, -⟩ := hsv.shape
              subst hsn
              have HS := Lib.hid hs.out
              have HRS0 := Lib.hid hrs0
              have HSK := Lib.hid (HTK.out s (List.mem_of_getElem? hs.out))
              obtain ⟨e1, hlet_e1⟩ : ∃ r, r = sexOf s := ⟨_, rfl⟩
              have HE1 := Lib.hid hlet_e1
              clear hlet_e1
              obtain ⟨k1, hlet_k1⟩ : ∃ r, r = (termOf (rs, es) s).isSome := ⟨_, rfl⟩
              have HK1 := Lib.hid hlet_k1
              clear hlet_k1
              clear hs hsi hsv hrs0
              go_wp2_with fail
              go_loopw [14] (fun s14 wr => ∃ j : Nat, j ≤ i ∧ s14 = .int .i64 j ∧ Hid (rowR (rs, es) T i j = true) ∧ Below wc.heap.size wc wr) (fun s14 _ => i - (intOf s14).toNat)
              case atStart => exact ⟨0, Nat.zero_le _, rfl, Lib.hid rfl, hXd⟩
              case round =>
                obtain ⟨we, hwe⟩ : ∃ wm : World, wm = wr := ⟨_, rfl⟩
                subst hwe
                obtain ⟨j, hj1, rfl, HJ, hXe⟩ := hrel
                have sXe := hXe.size
                by_cases hlj : j < i
                · have hJj : (j : Int) < (i : Int) := by omega
                  have hJl : (j : Int) < (T.length : Int) := by omega
                  have ljT : j < T.length := by omega
                  obtain ⟨_, _, t, tv, e, ht, tc0, tc1, hti, htv, hrt0, -, -, tlt⟩ := hrd.out.kin_at (i := j) ljT
                  simp only [Option.some.injEq, Addr.mk.injEq, and_true] at e
                  obtain ⟨rfl, rfl⟩ := e
                  obtain ⟨tao2, tn2, tcp2, rfl, htn2, -⟩ := htv.shape
                  subst htn2
                  have HT := Lib.hid ht.out
                  have HRT0 := Lib.hid hrt0
                  have HTK1 := Lib.hid (HTK.out t (List.mem_of_getElem? ht.out))
                  clear ht hti htv hrt0
                  obtain ⟨e2, hlet_e2⟩ : ∃ r, r = sexOf t := ⟨_, rfl⟩
                  have HE2 := Lib.hid hlet_e2
                  clear hlet_e2
                  obtain ⟨p, hlet_p⟩ : ∃ r, r = decide (termOf (rs, es) s = termOf (rs, es) t) := ⟨_, rfl⟩
                  have HP := Lib.hid hlet_p
                  clear hlet_p
                  obtain ⟨q, hlet_q⟩ : ∃ r, r = decide (termOf (rs, es) (revX s) = termOf (rs, es) (revX t)) := ⟨_, rfl⟩
                  have HQ := Lib.hid hlet_q
                  clear hlet_q
                  have HAG0 := Lib.hid (show recB (rs, es) T i j = (!(k1 && (p && decide (e1 = e2))) || q) by rw [recB_at HS.out HT.out, HK1.out, HP.out, HE1.out, HE2.out, HQ.out])
                  obtain ⟨xb, xo, x1, rfl, hx1, c1, -, -, -, l1, -⟩ := (HU1.out.below hXe).str_at hli
                  obtain ⟨_, _, x2, e, hx2, c2, -, -, -, l2, -⟩ := (HU1.out.below hXe).str_at ljT
                  simp only [Option.some.injEq, Addr.mk.injEq, and_true] at e
                  obtain ⟨rfl, rfl⟩ := e
                  obtain ⟨yb, yo, y1, rfl, hy1, d1', -, -, -, l3, -⟩ := (HU2.out.below hXe).str_at hli
                  obtain ⟨_, _, y2, e, hy2, d2', -, -, -, l4, -⟩ := (HU2.out.below hXe).str_at ljT
                  simp only [Option.some.injEq, Addr.mk.injEq, and_true] at e
                  obtain ⟨rfl, rfl⟩ := e
                  have hk : (!x1.toList.isEmpty) = k1 := by
                    rw [Option.some.inj (hx1.out.symm.trans (tmL_at HS.out)), HK1.out]
                    exact tmText_ne H1.out
                  have hp : (x1.toList == x2.toList) = p := by
                    rw [text_eq, Option.some.inj (hx1.out.symm.trans (tmL_at HS.out)), Option.some.inj (hx2.out.symm.trans (tmL_at HT.out)), HP.out]
                    exact txt_eq H1.out s t
                  have hq : (y1.toList != y2.toList) = !q := by
                    rw [bne, text_eq, Option.some.inj (hy1.out.symm.trans (tmL_at (T := T.map revX) (s := revX s) (by rw [List.getElem?_map, HS.out]; rfl))), Option.some.inj (hy2.out.symm.trans (tmL_at (T := T.map revX) (s := revX t) (by rw [List.getElem?_map, HT.out]; rfl))), HQ.out, txt_eq H1.out]
                  clear hx1 hx2 hy1 hy2
                  have hTe : Below wT.heap.size wT we := hTc.trans (hXe.mono hTc.size)
                  have u0 := oldc hTe slt sc0
                  have u1 := oldc hTe slt sc1
                  have u2 := oldc hTe tlt tc0
                  have u3 := oldc hTe tlt tc1
                  have klt : tb < we.heap.size := by have := hTe.size; omega
                  cases k1
                  · have HAG := Lib.hid (show recB (rs, es) T i j = true by rw [HAG0.out]; rfl)
                    have hk' : x1.toList.isEmpty = true := by simpa using hk
                    clear HAG0 hp hq hk
                    go_upto_region 22 with fail
                    refine wp_region_held_drew (S := (fun w' => w'.cell? ⟨xb, xo + i, none⟩ = some (.string x1))) (by kernel_rfl) ?_ (fun hHeld => ?_)
                    · first | exact trivial | ((try dsimp only); go_keep)
                    refine tkR 0 (v := ?_) ?_ ?_
                    rotate_left
                    · intro w hSw; (try dsimp only at hSw); go_simp <;> with_reducible rfl
                    try simp only [Act.put, List.setIfInBounds_toArray, List.set_cons_zero, List.set_cons_succ]
                    refine tkR 1 (v := ?_) ?_ ?_
                    rotate_left
                    · intro w hSw; (try dsimp only at hSw); go_simp <;> with_reducible rfl
                    try simp only [Act.put, List.setIfInBounds_toArray, List.set_cons_zero, List.set_cons_succ]
                    refine tkR 2 (v := ?_) ?_ ?_
                    rotate_left
                    · intro w hSw; (try dsimp only at hSw); go_simp <;> with_reducible rfl
                    try simp only [Act.put, List.setIfInBounds_toArray, List.set_cons_zero, List.set_cons_succ]
                    refine tkR 3 (v := ?_) ?_ ?_
                    rotate_left
                    · intro w hSw; (try dsimp only at hSw); go_simp <;> with_reducible rfl
                    try simp only [Act.put, List.setIfInBounds_toArray, List.set_cons_zero, List.set_cons_succ]
                    refine tkR 4 (v := ?_) ?_ ?_
                    rotate_left
                    · intro w hSw; (try dsimp only at hSw); go_simp <;> with_reducible rfl
                    try simp only [Act.put, List.setIfInBounds_toArray, List.set_cons_zero, List.set_cons_succ]
                    refine tkR 5 (v := ?_) ?_ ?_
                    rotate_left
                    · intro w hSw; (try dsimp only at hSw); go_simp <;> with_reducible rfl
                    try simp only [Act.put, List.setIfInBounds_toArray, List.set_cons_zero, List.set_cons_succ]
                    refine skR 6 ?_
                    try simp only [Act.put, List.setIfInBounds_toArray, List.set_cons_zero, List.set_cons_succ]
                    refine skR 7 ?_
                    try simp only [Act.put, List.setIfInBounds_toArray, List.set_cons_zero, List.set_cons_succ]
                    refine skR 10 ?_
                    try simp only [Act.put, List.setIfInBounds_toArray, List.set_cons_zero, List.set_cons_succ]
                    refine skR 11 ?_
                    try simp only [Act.put, List.setIfInBounds_toArray, List.set_cons_zero, List.set_cons_succ]
                    refine skR 8 ?_
                    try simp only [Act.put, List.setIfInBounds_toArray, List.set_cons_zero, List.set_cons_succ]
                    refine skR 12 ?_
                    try simp only [Act.put, List.setIfInBounds_toArray, List.set_cons_zero, List.set_cons_succ]
                    refine skR 9 ?_
                    try simp only [Act.put, List.setIfInBounds_toArray, List.set_cons_zero, List.set_cons_succ]
                    refine skR 13 ?_
                    try simp only [Act.put, List.setIfInBounds_toArray, List.set_cons_zero, List.set_cons_succ]
                    refine skR 14 ?_
                    try simp only [Act.put, List.setIfInBounds_toArray, List.set_cons_zero, List.set_cons_succ]
                    refine tkR 15 (v := ?_) ?_ ?_
                    rotate_left
                    · intro w hSw; (try dsimp only at hSw); go_simp <;> with_reducible rfl
                    try simp only [Act.put, List.setIfInBounds_toArray, List.set_cons_zero, List.set_cons_succ]
                    refine tkR 16 (v := ?_) ?_ ?_
                    rotate_left
                    · intro w hSw; (try dsimp only at hSw); go_simp <;> with_reducible rfl
                    try simp only [Act.put, List.setIfInBounds_toArray, List.set_cons_zero, List.set_cons_succ]
                    refine skR 17 ?_
                    try simp only [Act.put, List.setIfInBounds_toArray, List.set_cons_zero, List.set_cons_succ]
                    refine skR 18 ?_
                    try simp only [Act.put, List.setIfInBounds_toArray, List.set_cons_zero, List.set_cons_succ]
                    refine skR 22 ?_
                    try simp only [Act.put, List.setIfInBounds_toArray, List.set_cons_zero, List.set_cons_succ]
                    refine skR 23 ?_
                    try simp only [Act.put, List.setIfInBounds_toArray, List.set_cons_zero, List.set_cons_succ]
                    refine skR 19 ?_
                    try simp only [Act.put, List.setIfInBounds_toArray, List.set_cons_zero, List.set_cons_succ]
                    refine skR 24 ?_
                    try simp only [Act.put, List.setIfInBounds_toArray, List.set_cons_zero, List.set_cons_succ]
                    refine skR 20 ?_
                    try simp only [Act.put, List.setIfInBounds_toArray, List.set_cons_zero, List.set_cons_succ]
                    refine skR 25 ?_
                    try simp only [Act.put, List.setIfInBounds_toArray, List.set_cons_zero, List.set_cons_succ]
                    refine skR 21 ?_
                    try simp only [Act.put, List.setIfInBounds_toArray, List.set_cons_zero, List.set_cons_succ]
                    refine skR 26 ?_
                    try simp only [Act.put, List.setIfInBounds_toArray, List.set_cons_zero, List.set_cons_succ]
                    refine skR 27 ?_
                    try simp only [Act.put, List.setIfInBounds_toArray, List.set_cons_zero, List.set_cons_succ]
                    refine tkR 28 (v := ?_) ?_ ?_
                    rotate_left
                    · intro w hSw; (try dsimp only at hSw); go_simp <;> with_reducible rfl
                    try simp only [Act.put, List.setIfInBounds_toArray, List.set_cons_zero, List.set_cons_succ]
                    refine tkR 29 (v := ?_) ?_ ?_
                    rotate_left
                    · intro w hSw; (try dsimp only at hSw); go_simp <;> with_reducible rfl
                    try simp only [Act.put, List.setIfInBounds_toArray, List.set_cons_zero, List.set_cons_succ]
                    refine skR 30 ?_
                    try simp only [Act.put, List.setIfInBounds_toArray, List.set_cons_zero, List.set_cons_succ]
                    refine skR 31 ?_
                    try simp only [Act.put, List.setIfInBounds_toArray, List.set_cons_zero, List.set_cons_succ]
                    refine skR 34 ?_
                    try simp only [Act.put, List.setIfInBounds_toArray, List.set_cons_zero, List.set_cons_succ]
                    refine skR 35 ?_
                    try simp only [Act.put, List.setIfInBounds_toArray, List.set_cons_zero, List.set_cons_succ]
                    refine skR 32 ?_
                    try simp only [Act.put, List.setIfInBounds_toArray, List.set_cons_zero, List.set_cons_succ]
                    refine skR 36 ?_
                    try simp only [Act.put, List.setIfInBounds_toArray, List.set_cons_zero, List.set_cons_succ]
                    refine skR 33 ?_
                    try simp only [Act.put, List.setIfInBounds_toArray, List.set_cons_zero, List.set_cons_succ]
                    refine skR 37 ?_
                    try simp only [Act.put, List.setIfInBounds_toArray, List.set_cons_zero, List.set_cons_succ]
                    refine skR 38 ?_
                    try simp only [Act.put, List.setIfInBounds_toArray, List.set_cons_zero, List.set_cons_succ]
                    refine tkR 39 (v := ?_) ?_ ?_
                    rotate_left
                    · intro w hSw; (try dsimp only at hSw); go_simp <;> with_reducible rfl
                    try simp only [Act.put, List.setIfInBounds_toArray, List.set_cons_zero, List.set_cons_succ]
                    refine wpAnyH_done (by kernel_rfl) ?_ _
                    have hXz : Below wc.heap.size wc _ := hXe.drew
                    have HJ2 := Lib.hid (show rowR (rs, es) T i (j + 1) = true by rw [rowR_succ, HJ.out, HAG.out]; rfl)
                    clear HJ HI
                    go_wp2
                    go_roundw
                    case rel => exact ⟨j + 1, by omega, by go_num, HJ2, hXz⟩
                    case measure => simp [intOf]; omega
                  have hk' : x1.toList.isEmpty = false := by simpa using hk
                  clear hk
                  cases p
                  · have HAG := Lib.hid (show recB (rs, es) T i j = true by rw [HAG0.out]; rfl)
                    clear HAG0 hq
                    go_upto_region 22 with fail
                    refine wp_region_held_drew (S := (fun w' => w'.cell? ⟨xb, xo + i, none⟩ = some (.string x1) ∧ w'.cell? ⟨xb, xo + j, none⟩ = some (.string x2))) (by kernel_rfl) ?_ (fun hHeld => ?_)
                    · first | exact trivial | ((try dsimp only); go_keep)
                    refine tkR 0 (v := ?_) ?_ ?_
                    rotate_left
                    · intro w hSw; (try dsimp only at hSw); go_simp <;> with_reducible rfl
                    try simp only [Act.put, List.setIfInBounds_toArray, List.set_cons_zero, List.set_cons_succ]
                    refine tkR 1 (v := ?_) ?_ ?_
                    rotate_left
                    · intro w hSw; (try dsimp only at hSw); go_simp <;> with_reducible rfl
                    try simp only [Act.put, List.setIfInBounds_toArray, List.set_cons_zero, List.set_cons_succ]
                    refine tkR 2 (v := ?_) ?_ ?_
                    rotate_left
                    · intro w hSw; (try dsimp only at hSw); go_simp <;> with_reducible rfl
                    try simp only [Act.put, List.setIfInBounds_toArray, List.set_cons_zero, List.set_cons_succ]
                    refine tkR 3 (v := ?_) ?_ ?_
                    rotate_left
                    · intro w hSw; (try dsimp only at hSw); go_simp <;> with_reducible rfl
                    try simp only [Act.put, List.setIfInBounds_toArray, List.set_cons_zero, List.set_cons_succ]
                    refine tkR 4 (v := ?_) ?_ ?_
                    rotate_left
                    · intro w hSw; (try dsimp only at hSw); go_simp <;> with_reducible rfl
                    try simp only [Act.put, List.setIfInBounds_toArray, List.set_cons_zero, List.set_cons_succ]
                    refine tkR 5 (v := ?_) ?_ ?_
                    rotate_left
                    · intro w hSw; (try dsimp only at hSw); go_simp <;> with_reducible rfl
                    try simp only [Act.put, List.setIfInBounds_toArray, List.set_cons_zero, List.set_cons_succ]
                    refine tkR 6 (v := ?_) ?_ ?_
                    rotate_left
                    · intro w hSw; (try dsimp only at hSw); go_simp <;> with_reducible rfl
                    try simp only [Act.put, List.setIfInBounds_toArray, List.set_cons_zero, List.set_cons_succ]
                    refine tkR 7 (v := ?_) ?_ ?_
                    rotate_left
                    · intro w hSw; (try dsimp only at hSw); go_simp <;> with_reducible rfl
                    try simp only [Act.put, List.setIfInBounds_toArray, List.set_cons_zero, List.set_cons_succ]
                    refine tkR 10 (v := ?_) ?_ ?_
                    rotate_left
                    · intro w hSw; (try dsimp only at hSw); go_simp <;> with_reducible rfl
                    try simp only [Act.put, List.setIfInBounds_toArray, List.set_cons_zero, List.set_cons_succ]
                    refine tkR 11 (v := ?_) ?_ ?_
                    rotate_left
                    · intro w hSw; (try dsimp only at hSw); go_simp <;> with_reducible rfl
                    try simp only [Act.put, List.setIfInBounds_toArray, List.set_cons_zero, List.set_cons_succ]
                    refine tkR 8 (v := ?_) ?_ ?_
                    rotate_left
                    · intro w hSw; (try dsimp only at hSw); go_simp <;> with_reducible rfl
                    try simp only [Act.put, List.setIfInBounds_toArray, List.set_cons_zero, List.set_cons_succ]
                    refine tkR 12 (v := ?_) ?_ ?_
                    rotate_left
                    · intro w hSw; (try dsimp only at hSw); go_simp <;> with_reducible rfl
                    try simp only [Act.put, List.setIfInBounds_toArray, List.set_cons_zero, List.set_cons_succ]
                    refine tkR 9 (v := ?_) ?_ ?_
                    rotate_left
                    · intro w hSw; (try dsimp only at hSw); go_simp <;> with_reducible rfl
                    try simp only [Act.put, List.setIfInBounds_toArray, List.set_cons_zero, List.set_cons_succ]
                    refine tkR 13 (v := ?_) ?_ ?_
                    rotate_left
                    · intro w hSw; (try dsimp only at hSw); go_simp <;> with_reducible rfl
                    try simp only [Act.put, List.setIfInBounds_toArray, List.set_cons_zero, List.set_cons_succ]
                    refine tkR 14 (v := ?_) ?_ ?_
                    rotate_left
                    · intro w hSw; (try dsimp only at hSw); go_simp <;> with_reducible rfl
                    try simp only [Act.put, List.setIfInBounds_toArray, List.set_cons_zero, List.set_cons_succ]
                    refine tkR 15 (v := ?_) ?_ ?_
                    rotate_left
                    · intro w hSw; (try dsimp only at hSw); go_simp <;> with_reducible rfl
                    try simp only [Act.put, List.setIfInBounds_toArray, List.set_cons_zero, List.set_cons_succ]
                    refine tkR 16 (v := ?_) ?_ ?_
                    rotate_left
                    · intro w hSw; (try dsimp only at hSw); go_simp <;> with_reducible rfl
                    try simp only [Act.put, List.setIfInBounds_toArray, List.set_cons_zero, List.set_cons_succ]
                    refine skR 17 ?_
                    try simp only [Act.put, List.setIfInBounds_toArray, List.set_cons_zero, List.set_cons_succ]
                    refine skR 18 ?_
                    try simp only [Act.put, List.setIfInBounds_toArray, List.set_cons_zero, List.set_cons_succ]
                    refine skR 22 ?_
                    try simp only [Act.put, List.setIfInBounds_toArray, List.set_cons_zero, List.set_cons_succ]
                    refine skR 23 ?_
                    try simp only [Act.put, List.setIfInBounds_toArray, List.set_cons_zero, List.set_cons_succ]
                    refine skR 19 ?_
                    try simp only [Act.put, List.setIfInBounds_toArray, List.set_cons_zero, List.set_cons_succ]
                    refine skR 24 ?_
                    try simp only [Act.put, List.setIfInBounds_toArray, List.set_cons_zero, List.set_cons_succ]
                    refine skR 20 ?_
                    try simp only [Act.put, List.setIfInBounds_toArray, List.set_cons_zero, List.set_cons_succ]
                    refine skR 25 ?_
                    try simp only [Act.put, List.setIfInBounds_toArray, List.set_cons_zero, List.set_cons_succ]
                    refine skR 21 ?_
                    try simp only [Act.put, List.setIfInBounds_toArray, List.set_cons_zero, List.set_cons_succ]
                    refine skR 26 ?_
                    try simp only [Act.put, List.setIfInBounds_toArray, List.set_cons_zero, List.set_cons_succ]
                    refine skR 27 ?_
                    try simp only [Act.put, List.setIfInBounds_toArray, List.set_cons_zero, List.set_cons_succ]
                    refine tkR 28 (v := ?_) ?_ ?_
                    rotate_left
                    · intro w hSw; (try dsimp only at hSw); go_simp <;> with_reducible rfl
                    try simp only [Act.put, List.setIfInBounds_toArray, List.set_cons_zero, List.set_cons_succ]
                    refine tkR 29 (v := ?_) ?_ ?_
                    rotate_left
                    · intro w hSw; (try dsimp only at hSw); go_simp <;> with_reducible rfl
                    try simp only [Act.put, List.setIfInBounds_toArray, List.set_cons_zero, List.set_cons_succ]
                    refine skR 30 ?_
                    try simp only [Act.put, List.setIfInBounds_toArray, List.set_cons_zero, List.set_cons_succ]
                    refine skR 31 ?_
                    try simp only [Act.put, List.setIfInBounds_toArray, List.set_cons_zero, List.set_cons_succ]
                    refine skR 34 ?_
                    try simp only [Act.put, List.setIfInBounds_toArray, List.set_cons_zero, List.set_cons_succ]
                    refine skR 35 ?_
                    try simp only [Act.put, List.setIfInBounds_toArray, List.set_cons_zero, List.set_cons_succ]
                    refine skR 32 ?_
                    try simp only [Act.put, List.setIfInBounds_toArray, List.set_cons_zero, List.set_cons_succ]
                    refine skR 36 ?_
                    try simp only [Act.put, List.setIfInBounds_toArray, List.set_cons_zero, List.set_cons_succ]
                    refine skR 33 ?_
                    try simp only [Act.put, List.setIfInBounds_toArray, List.set_cons_zero, List.set_cons_succ]
                    refine skR 37 ?_
                    try simp only [Act.put, List.setIfInBounds_toArray, List.set_cons_zero, List.set_cons_succ]
                    refine skR 38 ?_
                    try simp only [Act.put, List.setIfInBounds_toArray, List.set_cons_zero, List.set_cons_succ]
                    refine tkR 39 (v := ?_) ?_ ?_
                    rotate_left
                    · intro w hSw; (try dsimp only at hSw); go_simp <;> with_reducible rfl
                    try simp only [Act.put, List.setIfInBounds_toArray, List.set_cons_zero, List.set_cons_succ]
                    refine wpAnyH_done (by kernel_rfl) ?_ _
                    have hXz : Below wc.heap.size wc _ := hXe.drew
                    have HJ2 := Lib.hid (show rowR (rs, es) T i (j + 1) = true by rw [rowR_succ, HJ.out, HAG.out]; rfl)
                    clear HJ HI
                    go_wp2
                    go_roundw
                    case rel => exact ⟨j + 1, by omega, by go_num, HJ2, hXz⟩
                    case measure => simp [intOf]; omega
                  by_cases he : e1 = e2
                  rotate_left
                  · have HAG := Lib.hid (show recB (rs, es) T i j = true by rw [HAG0.out, decide_eq_false he]; rfl)
                    have hee : (e1 == e2) = false := by simp [he]
                    clear HAG0 he hq
                    go_upto_region 22 with fail
                    refine wp_region_held_drew (S := (fun w' => w'.cell? ⟨xb, xo + i, none⟩ = some (.string x1) ∧ w'.cell? ⟨xb, xo + j, none⟩ = some (.string x2) ∧ w'.cell? ⟨yb, yo + i, none⟩ = some (.string y1) ∧ w'.cell? ⟨yb, yo + j, none⟩ = some (.string y2) ∧ w'.cell? ⟨tb, toff + i * 2, none⟩ = some (.int .i64 s.1) ∧ w'.cell? ⟨tb, toff + i * 2 + 1, none⟩ = some (.slice sao s.2.length scap) ∧ w'.cell? ⟨tb, toff + j * 2, none⟩ = some (.int .i64 t.1) ∧ w'.cell? ⟨tb, toff + j * 2 + 1, none⟩ = some (.slice tao2 t.2.length tcp2))) (by kernel_rfl) ?_ (fun hHeld => ?_)
                    · first | exact trivial | ((try dsimp only); go_keep)
                    refine tkR 0 (v := ?_) ?_ ?_
                    rotate_left
                    · intro w hSw; (try dsimp only at hSw); go_simp <;> with_reducible rfl
                    try simp only [Act.put, List.setIfInBounds_toArray, List.set_cons_zero, List.set_cons_succ]
                    refine tkR 1 (v := ?_) ?_ ?_
                    rotate_left
                    · intro w hSw; (try dsimp only at hSw); go_simp <;> with_reducible rfl
                    try simp only [Act.put, List.setIfInBounds_toArray, List.set_cons_zero, List.set_cons_succ]
                    refine tkR 2 (v := ?_) ?_ ?_
                    rotate_left
                    · intro w hSw; (try dsimp only at hSw); go_simp <;> with_reducible rfl
                    try simp only [Act.put, List.setIfInBounds_toArray, List.set_cons_zero, List.set_cons_succ]
                    refine tkR 3 (v := ?_) ?_ ?_
                    rotate_left
                    · intro w hSw; (try dsimp only at hSw); go_simp <;> with_reducible rfl
                    try simp only [Act.put, List.setIfInBounds_toArray, List.set_cons_zero, List.set_cons_succ]
                    refine tkR 4 (v := ?_) ?_ ?_
                    rotate_left
                    · intro w hSw; (try dsimp only at hSw); go_simp <;> with_reducible rfl
                    try simp only [Act.put, List.setIfInBounds_toArray, List.set_cons_zero, List.set_cons_succ]
                    refine tkR 5 (v := ?_) ?_ ?_
                    rotate_left
                    · intro w hSw; (try dsimp only at hSw); go_simp <;> with_reducible rfl
                    try simp only [Act.put, List.setIfInBounds_toArray, List.set_cons_zero, List.set_cons_succ]
                    refine tkR 6 (v := ?_) ?_ ?_
                    rotate_left
                    · intro w hSw; (try dsimp only at hSw); go_simp <;> with_reducible rfl
                    try simp only [Act.put, List.setIfInBounds_toArray, List.set_cons_zero, List.set_cons_succ]
                    refine tkR 7 (v := ?_) ?_ ?_
                    rotate_left
                    · intro w hSw; (try dsimp only at hSw); go_simp <;> with_reducible rfl
                    try simp only [Act.put, List.setIfInBounds_toArray, List.set_cons_zero, List.set_cons_succ]
                    refine tkR 10 (v := ?_) ?_ ?_
                    rotate_left
                    · intro w hSw; (try dsimp only at hSw); go_simp <;> with_reducible rfl
                    try simp only [Act.put, List.setIfInBounds_toArray, List.set_cons_zero, List.set_cons_succ]
                    refine tkR 11 (v := ?_) ?_ ?_
                    rotate_left
                    · intro w hSw; (try dsimp only at hSw); go_simp <;> with_reducible rfl
                    try simp only [Act.put, List.setIfInBounds_toArray, List.set_cons_zero, List.set_cons_succ]
                    refine tkR 8 (v := ?_) ?_ ?_
                    rotate_left
                    · intro w hSw; (try dsimp only at hSw); go_simp <;> with_reducible rfl
                    try simp only [Act.put, List.setIfInBounds_toArray, List.set_cons_zero, List.set_cons_succ]
                    refine tkR 12 (v := ?_) ?_ ?_
                    rotate_left
                    · intro w hSw; (try dsimp only at hSw); go_simp <;> with_reducible rfl
                    try simp only [Act.put, List.setIfInBounds_toArray, List.set_cons_zero, List.set_cons_succ]
                    refine tkR 9 (v := ?_) ?_ ?_
                    rotate_left
                    · intro w hSw; (try dsimp only at hSw); go_simp <;> with_reducible rfl
                    try simp only [Act.put, List.setIfInBounds_toArray, List.set_cons_zero, List.set_cons_succ]
                    refine tkR 13 (v := ?_) ?_ ?_
                    rotate_left
                    · intro w hSw; (try dsimp only at hSw); go_simp <;> with_reducible rfl
                    try simp only [Act.put, List.setIfInBounds_toArray, List.set_cons_zero, List.set_cons_succ]
                    refine tkR 14 (v := ?_) ?_ ?_
                    rotate_left
                    · intro w hSw; (try dsimp only at hSw); go_simp <;> with_reducible rfl
                    try simp only [Act.put, List.setIfInBounds_toArray, List.set_cons_zero, List.set_cons_succ]
                    refine tkR 15 (v := ?_) ?_ ?_
                    rotate_left
                    · intro w hSw; (try dsimp only at hSw); go_simp <;> with_reducible rfl
                    try simp only [Act.put, List.setIfInBounds_toArray, List.set_cons_zero, List.set_cons_succ]
                    refine tkR 16 (v := ?_) ?_ ?_
                    rotate_left
                    · intro w hSw; (try dsimp only at hSw); go_simp <;> with_reducible rfl
                    try simp only [Act.put, List.setIfInBounds_toArray, List.set_cons_zero, List.set_cons_succ]
                    refine tkR 17 (v := ?_) ?_ ?_
                    rotate_left
                    · intro w hSw; (try dsimp only at hSw); go_simp <;> with_reducible rfl
                    try simp only [Act.put, List.setIfInBounds_toArray, List.set_cons_zero, List.set_cons_succ]
                    refine tkR 18 (v := ?_) ?_ ?_
                    rotate_left
                    · intro w hSw; (try dsimp only at hSw); go_simp <;> with_reducible rfl
                    try simp only [Act.put, List.setIfInBounds_toArray, List.set_cons_zero, List.set_cons_succ]
                    refine tkR 22 (v := ?_) ?_ ?_
                    rotate_left
                    · intro w hSw; (try dsimp only at hSw); go_simp <;> with_reducible rfl
                    try simp only [Act.put, List.setIfInBounds_toArray, List.set_cons_zero, List.set_cons_succ]
                    refine tkR 23 (v := ?_) ?_ ?_
                    rotate_left
                    · intro w hSw; (try dsimp only at hSw); go_simp <;> with_reducible rfl
                    try simp only [Act.put, List.setIfInBounds_toArray, List.set_cons_zero, List.set_cons_succ]
                    refine tkR 19 (v := ?_) ?_ ?_
                    rotate_left
                    · intro w hSw; (try dsimp only at hSw); go_simp <;> with_reducible rfl
                    try simp only [Act.put, List.setIfInBounds_toArray, List.set_cons_zero, List.set_cons_succ]
                    refine tkR 24 (v := ?_) ?_ ?_
                    rotate_left
                    · intro w hSw; (try dsimp only at hSw); go_simp <;> with_reducible rfl
                    try simp only [Act.put, List.setIfInBounds_toArray, List.set_cons_zero, List.set_cons_succ]
                    refine tkR 20 (v := ?_) ?_ ?_
                    rotate_left
                    · intro w hSw; (try dsimp only at hSw); go_simp <;> with_reducible rfl
                    try simp only [Act.put, List.setIfInBounds_toArray, List.set_cons_zero, List.set_cons_succ]
                    refine tkR 25 (v := ?_) ?_ ?_
                    rotate_left
                    · intro w hSw; (try dsimp only at hSw); go_simp <;> with_reducible rfl
                    try simp only [Act.put, List.setIfInBounds_toArray, List.set_cons_zero, List.set_cons_succ]
                    refine wpAnyH_ready (rs := [21]) (by kernel_rfl) (by simp) ?_
                    refine rdR (fun K hK => ?_) ?_
                    · go_simp
                      refine (lastS_any _ _ _ s (HRS0.out.below ?b1) HSK.out e1 HE1.out).mono ?_
                      case b1 => exact Below.trans hTe (Below.mono bwT hTe.size)
                      rintro e6 w6 ⟨rfl, hb6⟩
                      have hp6 : Below we.heap.size we w6 := Below.trans (show Below we.heap.size we _ from bwT) (hb6.mono szT)
                      have sz6 := hp6.size
                      have hS6 := (And.intro (oldc hp6 l1 c1) (And.intro (oldc hp6 l1 c2) (And.intro (oldc hp6 l3 d1') (And.intro (oldc hp6 l3 d2') (And.intro (oldc hp6 klt u0) (And.intro (oldc hp6 klt u1) (And.intro (oldc hp6 klt u2) (oldc hp6 klt u3))))))))
                      clear hb6
                      refine hK.out _ _ ?_ (fun hHeld => ?_)
                      · exact kpT
                      clear hK K
                      try simp only [Act.put, List.setIfInBounds_toArray, List.set_cons_zero, List.set_cons_succ]
                      refine wpAnyH_ready (rs := [26]) (by kernel_rfl) (by simp) ?_
                      refine rdR (fun K hK => ?_) ?_
                      · go_simp
                        refine (lastS_any _ _ _ t (HRT0.out.below ?b1) HTK1.out e2 HE2.out).mono ?_
                        case b1 => exact Below.trans hTe (Below.mono bwT hTe.size)
                        rintro e7 w7 ⟨rfl, hb7⟩
                        have hp7 : Below we.heap.size we w7 := Below.trans (show Below we.heap.size we _ from bwT) (hb7.mono szT)
                        have sz7 := hp7.size
                        have hS7 := (And.intro (oldc hp7 l1 c1) (And.intro (oldc hp7 l1 c2) (And.intro (oldc hp7 l3 d1') (And.intro (oldc hp7 l3 d2') (And.intro (oldc hp7 klt u0) (And.intro (oldc hp7 klt u1) (And.intro (oldc hp7 klt u2) (oldc hp7 klt u3))))))))
                        clear hb7
                        refine hK.out _ _ ?_ (fun hHeld => ?_)
                        · exact kpT
                        clear hK K
                        try simp only [Act.put, List.setIfInBounds_toArray, List.set_cons_zero, List.set_cons_succ]
                        refine tkR 27 (v := ?_) ?_ ?_
                        rotate_left
                        · intro w hSw; (try dsimp only at hSw); go_simp <;> with_reducible rfl
                        try simp only [Act.put, List.setIfInBounds_toArray, List.set_cons_zero, List.set_cons_succ]
                        refine tkR 28 (v := ?_) ?_ ?_
                        rotate_left
                        · intro w hSw; (try dsimp only at hSw); go_simp <;> with_reducible rfl
                        try simp only [Act.put, List.setIfInBounds_toArray, List.set_cons_zero, List.set_cons_succ]
                        refine tkR 29 (v := ?_) ?_ ?_
                        rotate_left
                        · intro w hSw; (try dsimp only at hSw); go_simp <;> with_reducible rfl
                        try simp only [Act.put, List.setIfInBounds_toArray, List.set_cons_zero, List.set_cons_succ]
                        refine skR 30 ?_
                        try simp only [Act.put, List.setIfInBounds_toArray, List.set_cons_zero, List.set_cons_succ]
                        refine skR 31 ?_
                        try simp only [Act.put, List.setIfInBounds_toArray, List.set_cons_zero, List.set_cons_succ]
                        refine skR 34 ?_
                        try simp only [Act.put, List.setIfInBounds_toArray, List.set_cons_zero, List.set_cons_succ]
                        refine skR 35 ?_
                        try simp only [Act.put, List.setIfInBounds_toArray, List.set_cons_zero, List.set_cons_succ]
                        refine skR 32 ?_
                        try simp only [Act.put, List.setIfInBounds_toArray, List.set_cons_zero, List.set_cons_succ]
                        refine skR 36 ?_
                        try simp only [Act.put, List.setIfInBounds_toArray, List.set_cons_zero, List.set_cons_succ]
                        refine skR 33 ?_
                        try simp only [Act.put, List.setIfInBounds_toArray, List.set_cons_zero, List.set_cons_succ]
                        refine skR 37 ?_
                        try simp only [Act.put, List.setIfInBounds_toArray, List.set_cons_zero, List.set_cons_succ]
                        refine skR 38 ?_
                        try simp only [Act.put, List.setIfInBounds_toArray, List.set_cons_zero, List.set_cons_succ]
                        refine tkR 39 (v := ?_) ?_ ?_
                        rotate_left
                        · intro w hSw; (try dsimp only at hSw); go_simp <;> with_reducible rfl
                        try simp only [Act.put, List.setIfInBounds_toArray, List.set_cons_zero, List.set_cons_succ]
                        refine wpAnyH_done (by kernel_rfl) ?_ _
                        have hXz : Below wc.heap.size wc w7 := hXe.trans (hp7.mono sXe)
                        have hBz : Below w.heap.size w w7 := hBc.trans (hXz.mono hBc.size)
                        have HJ2 := Lib.hid (show rowR (rs, es) T i (j + 1) = true by rw [rowR_succ, HJ.out, HAG.out]; rfl)
                        clear HJ HI
                        go_wp2
                        go_roundw
                        case rel => exact ⟨j + 1, by omega, by go_num, HJ2, hXz⟩
                        case measure => simp [intOf]; omega
                      exact AllReadyH.nil
                    exact AllReadyH.nil
                  have hee : (e1 == e2) = true := by simp [he]
                  cases q
                  · have HAG := Lib.hid (show recB (rs, es) T i j = false by rw [HAG0.out, decide_eq_true he]; rfl)
                    clear HAG0 he
                    have HQQ := Lib.hid (show (y1.toList == y2.toList) = false by simpa [bne] using hq)
                    clear hq
                    go_upto_region 22 with fail
                    refine wp_region_held_drew (S := (fun w' => w'.cell? ⟨xb, xo + i, none⟩ = some (.string x1) ∧ w'.cell? ⟨xb, xo + j, none⟩ = some (.string x2) ∧ w'.cell? ⟨yb, yo + i, none⟩ = some (.string y1) ∧ w'.cell? ⟨yb, yo + j, none⟩ = some (.string y2) ∧ w'.cell? ⟨tb, toff + i * 2, none⟩ = some (.int .i64 s.1) ∧ w'.cell? ⟨tb, toff + i * 2 + 1, none⟩ = some (.slice sao s.2.length scap) ∧ w'.cell? ⟨tb, toff + j * 2, none⟩ = some (.int .i64 t.1) ∧ w'.cell? ⟨tb, toff + j * 2 + 1, none⟩ = some (.slice tao2 t.2.length tcp2))) (by kernel_rfl) ?_ (fun hHeld => ?_)
                    · first | exact trivial | ((try dsimp only); go_keep)
                    refine tkR 0 (v := ?_) ?_ ?_
                    rotate_left
                    · intro w hSw; (try dsimp only at hSw); go_simp <;> with_reducible rfl
                    try simp only [Act.put, List.setIfInBounds_toArray, List.set_cons_zero, List.set_cons_succ]
                    refine tkR 1 (v := ?_) ?_ ?_
                    rotate_left
                    · intro w hSw; (try dsimp only at hSw); go_simp <;> with_reducible rfl
                    try simp only [Act.put, List.setIfInBounds_toArray, List.set_cons_zero, List.set_cons_succ]
                    refine tkR 2 (v := ?_) ?_ ?_
                    rotate_left
                    · intro w hSw; (try dsimp only at hSw); go_simp <;> with_reducible rfl
                    try simp only [Act.put, List.setIfInBounds_toArray, List.set_cons_zero, List.set_cons_succ]
                    refine tkR 3 (v := ?_) ?_ ?_
                    rotate_left
                    · intro w hSw; (try dsimp only at hSw); go_simp <;> with_reducible rfl
                    try simp only [Act.put, List.setIfInBounds_toArray, List.set_cons_zero, List.set_cons_succ]
                    refine tkR 4 (v := ?_) ?_ ?_
                    rotate_left
                    · intro w hSw; (try dsimp only at hSw); go_simp <;> with_reducible rfl
                    try simp only [Act.put, List.setIfInBounds_toArray, List.set_cons_zero, List.set_cons_succ]
                    refine tkR 5 (v := ?_) ?_ ?_
                    rotate_left
                    · intro w hSw; (try dsimp only at hSw); go_simp <;> with_reducible rfl
                    try simp only [Act.put, List.setIfInBounds_toArray, List.set_cons_zero, List.set_cons_succ]
                    refine tkR 6 (v := ?_) ?_ ?_
                    rotate_left
                    · intro w hSw; (try dsimp only at hSw); go_simp <;> with_reducible rfl
                    try simp only [Act.put, List.setIfInBounds_toArray, List.set_cons_zero, List.set_cons_succ]
                    refine tkR 7 (v := ?_) ?_ ?_
                    rotate_left
                    · intro w hSw; (try dsimp only at hSw); go_simp <;> with_reducible rfl
                    try simp only [Act.put, List.setIfInBounds_toArray, List.set_cons_zero, List.set_cons_succ]
                    refine tkR 10 (v := ?_) ?_ ?_
                    rotate_left
                    · intro w hSw; (try dsimp only at hSw); go_simp <;> with_reducible rfl
                    try simp only [Act.put, List.setIfInBounds_toArray, List.set_cons_zero, List.set_cons_succ]
                    refine tkR 11 (v := ?_) ?_ ?_
                    rotate_left
                    · intro w hSw; (try dsimp only at hSw); go_simp <;> with_reducible rfl
                    try simp only [Act.put, List.setIfInBounds_toArray, List.set_cons_zero, List.set_cons_succ]
                    refine tkR 8 (v := ?_) ?_ ?_
                    rotate_left
                    · intro w hSw; (try dsimp only at hSw); go_simp <;> with_reducible rfl
                    try simp only [Act.put, List.setIfInBounds_toArray, List.set_cons_zero, List.set_cons_succ]
                    refine tkR 12 (v := ?_) ?_ ?_
                    rotate_left
                    · intro w hSw; (try dsimp only at hSw); go_simp <;> with_reducible rfl
                    try simp only [Act.put, List.setIfInBounds_toArray, List.set_cons_zero, List.set_cons_succ]
                    refine tkR 9 (v := ?_) ?_ ?_
                    rotate_left
                    · intro w hSw; (try dsimp only at hSw); go_simp <;> with_reducible rfl
                    try simp only [Act.put, List.setIfInBounds_toArray, List.set_cons_zero, List.set_cons_succ]
                    refine tkR 13 (v := ?_) ?_ ?_
                    rotate_left
                    · intro w hSw; (try dsimp only at hSw); go_simp <;> with_reducible rfl
                    try simp only [Act.put, List.setIfInBounds_toArray, List.set_cons_zero, List.set_cons_succ]
                    refine tkR 14 (v := ?_) ?_ ?_
                    rotate_left
                    · intro w hSw; (try dsimp only at hSw); go_simp <;> with_reducible rfl
                    try simp only [Act.put, List.setIfInBounds_toArray, List.set_cons_zero, List.set_cons_succ]
                    refine tkR 15 (v := ?_) ?_ ?_
                    rotate_left
                    · intro w hSw; (try dsimp only at hSw); go_simp <;> with_reducible rfl
                    try simp only [Act.put, List.setIfInBounds_toArray, List.set_cons_zero, List.set_cons_succ]
                    refine tkR 16 (v := ?_) ?_ ?_
                    rotate_left
                    · intro w hSw; (try dsimp only at hSw); go_simp <;> with_reducible rfl
                    try simp only [Act.put, List.setIfInBounds_toArray, List.set_cons_zero, List.set_cons_succ]
                    refine tkR 17 (v := ?_) ?_ ?_
                    rotate_left
                    · intro w hSw; (try dsimp only at hSw); go_simp <;> with_reducible rfl
                    try simp only [Act.put, List.setIfInBounds_toArray, List.set_cons_zero, List.set_cons_succ]
                    refine tkR 18 (v := ?_) ?_ ?_
                    rotate_left
                    · intro w hSw; (try dsimp only at hSw); go_simp <;> with_reducible rfl
                    try simp only [Act.put, List.setIfInBounds_toArray, List.set_cons_zero, List.set_cons_succ]
                    refine tkR 22 (v := ?_) ?_ ?_
                    rotate_left
                    · intro w hSw; (try dsimp only at hSw); go_simp <;> with_reducible rfl
                    try simp only [Act.put, List.setIfInBounds_toArray, List.set_cons_zero, List.set_cons_succ]
                    refine tkR 23 (v := ?_) ?_ ?_
                    rotate_left
                    · intro w hSw; (try dsimp only at hSw); go_simp <;> with_reducible rfl
                    try simp only [Act.put, List.setIfInBounds_toArray, List.set_cons_zero, List.set_cons_succ]
                    refine tkR 19 (v := ?_) ?_ ?_
                    rotate_left
                    · intro w hSw; (try dsimp only at hSw); go_simp <;> with_reducible rfl
                    try simp only [Act.put, List.setIfInBounds_toArray, List.set_cons_zero, List.set_cons_succ]
                    refine tkR 24 (v := ?_) ?_ ?_
                    rotate_left
                    · intro w hSw; (try dsimp only at hSw); go_simp <;> with_reducible rfl
                    try simp only [Act.put, List.setIfInBounds_toArray, List.set_cons_zero, List.set_cons_succ]
                    refine tkR 20 (v := ?_) ?_ ?_
                    rotate_left
                    · intro w hSw; (try dsimp only at hSw); go_simp <;> with_reducible rfl
                    try simp only [Act.put, List.setIfInBounds_toArray, List.set_cons_zero, List.set_cons_succ]
                    refine tkR 25 (v := ?_) ?_ ?_
                    rotate_left
                    · intro w hSw; (try dsimp only at hSw); go_simp <;> with_reducible rfl
                    try simp only [Act.put, List.setIfInBounds_toArray, List.set_cons_zero, List.set_cons_succ]
                    refine wpAnyH_ready (rs := [21]) (by kernel_rfl) (by simp) ?_
                    refine rdR (fun K hK => ?_) ?_
                    · go_simp
                      refine (lastS_any _ _ _ s (HRS0.out.below ?b1) HSK.out e1 HE1.out).mono ?_
                      case b1 => exact Below.trans hTe (Below.mono bwT hTe.size)
                      rintro e6 w6 ⟨rfl, hb6⟩
                      have hp6 : Below we.heap.size we w6 := Below.trans (show Below we.heap.size we _ from bwT) (hb6.mono szT)
                      have sz6 := hp6.size
                      have hS6 := (And.intro (oldc hp6 l1 c1) (And.intro (oldc hp6 l1 c2) (And.intro (oldc hp6 l3 d1') (And.intro (oldc hp6 l3 d2') (And.intro (oldc hp6 klt u0) (And.intro (oldc hp6 klt u1) (And.intro (oldc hp6 klt u2) (oldc hp6 klt u3))))))))
                      clear hb6
                      refine hK.out _ _ ?_ (fun hHeld => ?_)
                      · exact kpT
                      clear hK K
                      try simp only [Act.put, List.setIfInBounds_toArray, List.set_cons_zero, List.set_cons_succ]
                      refine wpAnyH_ready (rs := [26]) (by kernel_rfl) (by simp) ?_
                      refine rdR (fun K hK => ?_) ?_
                      · go_simp
                        refine (lastS_any _ _ _ t (HRT0.out.below ?b1) HTK1.out e2 HE2.out).mono ?_
                        case b1 => exact Below.trans hTe (Below.mono bwT hTe.size)
                        rintro e7 w7 ⟨rfl, hb7⟩
                        have hp7 : Below we.heap.size we w7 := Below.trans (show Below we.heap.size we _ from bwT) (hb7.mono szT)
                        have sz7 := hp7.size
                        have hS7 := (And.intro (oldc hp7 l1 c1) (And.intro (oldc hp7 l1 c2) (And.intro (oldc hp7 l3 d1') (And.intro (oldc hp7 l3 d2') (And.intro (oldc hp7 klt u0) (And.intro (oldc hp7 klt u1) (And.intro (oldc hp7 klt u2) (oldc hp7 klt u3))))))))
                        clear hb7
                        refine hK.out _ _ ?_ (fun hHeld => ?_)
                        · exact kpT
                        clear hK K
                        try simp only [Act.put, List.setIfInBounds_toArray, List.set_cons_zero, List.set_cons_succ]
                        refine tkR 27 (v := ?_) ?_ ?_
                        rotate_left
                        · intro w hSw; (try dsimp only at hSw); go_simp <;> with_reducible rfl
                        try simp only [Act.put, List.setIfInBounds_toArray, List.set_cons_zero, List.set_cons_succ]
                        refine tkR 28 (v := ?_) ?_ ?_
                        rotate_left
                        · intro w hSw; (try dsimp only at hSw); go_simp <;> with_reducible rfl
                        try simp only [Act.put, List.setIfInBounds_toArray, List.set_cons_zero, List.set_cons_succ]
                        refine tkR 29 (v := ?_) ?_ ?_
                        rotate_left
                        · intro w hSw; (try dsimp only at hSw); go_simp <;> with_reducible rfl
                        try simp only [Act.put, List.setIfInBounds_toArray, List.set_cons_zero, List.set_cons_succ]
                        refine tkR 30 (v := ?_) ?_ ?_
                        rotate_left
                        · intro w hSw; (try dsimp only at hSw); go_simp <;> with_reducible rfl
                        try simp only [Act.put, List.setIfInBounds_toArray, List.set_cons_zero, List.set_cons_succ]
                        refine tkR 31 (v := ?_) ?_ ?_
                        rotate_left
                        · intro w hSw; (try dsimp only at hSw); go_simp <;> with_reducible rfl
                        try simp only [Act.put, List.setIfInBounds_toArray, List.set_cons_zero, List.set_cons_succ]
                        refine tkR 34 (v := ?_) ?_ ?_
                        rotate_left
                        · intro w hSw; (try dsimp only at hSw); go_simp <;> with_reducible rfl
                        try simp only [Act.put, List.setIfInBounds_toArray, List.set_cons_zero, List.set_cons_succ]
                        refine tkR 35 (v := ?_) ?_ ?_
                        rotate_left
                        · intro w hSw; (try dsimp only at hSw); go_simp <;> with_reducible rfl
                        try simp only [Act.put, List.setIfInBounds_toArray, List.set_cons_zero, List.set_cons_succ]
                        refine tkR 32 (v := ?_) ?_ ?_
                        rotate_left
                        · intro w hSw; (try dsimp only at hSw); go_simp <;> with_reducible rfl
                        try simp only [Act.put, List.setIfInBounds_toArray, List.set_cons_zero, List.set_cons_succ]
                        refine tkR 36 (v := ?_) ?_ ?_
                        rotate_left
                        · intro w hSw; (try dsimp only at hSw); go_simp <;> with_reducible rfl
                        try simp only [Act.put, List.setIfInBounds_toArray, List.set_cons_zero, List.set_cons_succ]
                        refine tkR 33 (v := ?_) ?_ ?_
                        rotate_left
                        · intro w hSw; (try dsimp only at hSw); go_simp <;> with_reducible rfl
                        try simp only [Act.put, List.setIfInBounds_toArray, List.set_cons_zero, List.set_cons_succ]
                        refine tkR 37 (v := ?_) ?_ ?_
                        rotate_left
                        · intro w hSw; (try dsimp only at hSw); go_simp <;> with_reducible rfl
                        try simp only [Act.put, List.setIfInBounds_toArray, List.set_cons_zero, List.set_cons_succ]
                        refine tkR 38 (v := ?_) ?_ ?_
                        rotate_left
                        · intro w hSw; (try dsimp only at hSw); go_simp <;> with_reducible rfl
                        try simp only [Act.put, List.setIfInBounds_toArray, List.set_cons_zero, List.set_cons_succ]
                        refine tkR 39 (v := ?_) ?_ ?_
                        rotate_left
                        · intro w hSw; (try dsimp only at hSw); go_simp <;> with_reducible rfl
                        try simp only [Act.put, List.setIfInBounds_toArray, List.set_cons_zero, List.set_cons_succ]
                        refine wpAnyH_done (by kernel_rfl) ?_ _
                        simp only [bne, HQQ.out, Bool.not_false, Bool.not_true]
                        have hXz : Below wc.heap.size wc w7 := hXe.trans (hp7.mono sXe)
                        have hBz : Below w.heap.size w w7 := hBc.trans (hXz.mono hBc.size)
                        have HF := Lib.hid (show R = false from divF_end HRD.out HD.out HDD.out hk2 (divR_bad hli (rowR_bad hlj (HAG.out.trans (by decide)))))
                        clear HRD HD HDD HK HI HJ
                        go_wp2
                        go_ret
                        exact ⟨ret_bool HF.out.symm, hBz⟩
                      exact AllReadyH.nil
                    exact AllReadyH.nil
                  · have HAG := Lib.hid (show recB (rs, es) T i j = true by rw [HAG0.out, Bool.or_true])
                    clear HAG0 he
                    have HQQ := Lib.hid (show (y1.toList == y2.toList) = true by simpa [bne] using hq)
                    clear hq
                    go_upto_region 22 with fail
                    refine wp_region_held_drew (S := (fun w' => w'.cell? ⟨xb, xo + i, none⟩ = some (.string x1) ∧ w'.cell? ⟨xb, xo + j, none⟩ = some (.string x2) ∧ w'.cell? ⟨yb, yo + i, none⟩ = some (.string y1) ∧ w'.cell? ⟨yb, yo + j, none⟩ = some (.string y2) ∧ w'.cell? ⟨tb, toff + i * 2, none⟩ = some (.int .i64 s.1) ∧ w'.cell? ⟨tb, toff + i * 2 + 1, none⟩ = some (.slice sao s.2.length scap) ∧ w'.cell? ⟨tb, toff + j * 2, none⟩ = some (.int .i64 t.1) ∧ w'.cell? ⟨tb, toff + j * 2 + 1, none⟩ = some (.slice tao2 t.2.length tcp2))) (by kernel_rfl) ?_ (fun hHeld => ?_)
                    · first | exact trivial | ((try dsimp only); go_keep)
                    refine tkR 0 (v := ?_) ?_ ?_
                    rotate_left
                    · intro w hSw; (try dsimp only at hSw); go_simp <;> with_reducible rfl
                    try simp only [Act.put, List.setIfInBounds_toArray, List.set_cons_zero, List.set_cons_succ]
                    refine tkR 1 (v := ?_) ?_ ?_
                    rotate_left
                    · intro w hSw; (try dsimp only at hSw); go_simp <;> with_reducible rfl
                    try simp only [Act.put, List.setIfInBounds_toArray, List.set_cons_zero, List.set_cons_succ]
                    refine tkR 2 (v := ?_) ?_ ?_
                    rotate_left
                    · intro w hSw; (try dsimp only at hSw); go_simp <;> with_reducible rfl
                    try simp only [Act.put, List.setIfInBounds_toArray, List.set_cons_zero, List.set_cons_succ]
                    refine tkR 3 (v := ?_) ?_ ?_
                    rotate_left
                    · intro w hSw; (try dsimp only at hSw); go_simp <;> with_reducible rfl
                    try simp only [Act.put, List.setIfInBounds_toArray, List.set_cons_zero, List.set_cons_succ]
                    refine tkR 4 (v := ?_) ?_ ?_
                    rotate_left
                    · intro w hSw; (try dsimp only at hSw); go_simp <;> with_reducible rfl
                    try simp only [Act.put, List.setIfInBounds_toArray, List.set_cons_zero, List.set_cons_succ]
                    refine tkR 5 (v := ?_) ?_ ?_
                    rotate_left
                    · intro w hSw; (try dsimp only at hSw); go_simp <;> with_reducible rfl
                    try simp only [Act.put, List.setIfInBounds_toArray, List.set_cons_zero, List.set_cons_succ]
                    refine tkR 6 (v := ?_) ?_ ?_
                    rotate_left
                    · intro w hSw; (try dsimp only at hSw); go_simp <;> with_reducible rfl
                    try simp only [Act.put, List.setIfInBounds_toArray, List.set_cons_zero, List.set_cons_succ]
                    refine tkR 7 (v := ?_) ?_ ?_
                    rotate_left
                    · intro w hSw; (try dsimp only at hSw); go_simp <;> with_reducible rfl
                    try simp only [Act.put, List.setIfInBounds_toArray, List.set_cons_zero, List.set_cons_succ]
                    refine tkR 10 (v := ?_) ?_ ?_
                    rotate_left
                    · intro w hSw; (try dsimp only at hSw); go_simp <;> with_reducible rfl
                    try simp only [Act.put, List.setIfInBounds_toArray, List.set_cons_zero, List.set_cons_succ]
                    refine tkR 11 (v := ?_) ?_ ?_
                    rotate_left
                    · intro w hSw; (try dsimp only at hSw); go_simp <;> with_reducible rfl
                    try simp only [Act.put, List.setIfInBounds_toArray, List.set_cons_zero, List.set_cons_succ]
                    refine tkR 8 (v := ?_) ?_ ?_
                    rotate_left
                    · intro w hSw; (try dsimp only at hSw); go_simp <;> with_reducible rfl
                    try simp only [Act.put, List.setIfInBounds_toArray, List.set_cons_zero, List.set_cons_succ]
                    refine tkR 12 (v := ?_) ?_ ?_
                    rotate_left
                    · intro w hSw; (try dsimp only at hSw); go_simp <;> with_reducible rfl
                    try simp only [Act.put, List.setIfInBounds_toArray, List.set_cons_zero, List.set_cons_succ]
                    refine tkR 9 (v := ?_) ?_ ?_
                    rotate_left
                    · intro w hSw; (try dsimp only at hSw); go_simp <;> with_reducible rfl
                    try simp only [Act.put, List.setIfInBounds_toArray, List.set_cons_zero, List.set_cons_succ]
                    refine tkR 13 (v := ?_) ?_ ?_
                    rotate_left
                    · intro w hSw; (try dsimp only at hSw); go_simp <;> with_reducible rfl
                    try simp only [Act.put, List.setIfInBounds_toArray, List.set_cons_zero, List.set_cons_succ]
                    refine tkR 14 (v := ?_) ?_ ?_
                    rotate_left
                    · intro w hSw; (try dsimp only at hSw); go_simp <;> with_reducible rfl
                    try simp only [Act.put, List.setIfInBounds_toArray, List.set_cons_zero, List.set_cons_succ]
                    refine tkR 15 (v := ?_) ?_ ?_
                    rotate_left
                    · intro w hSw; (try dsimp only at hSw); go_simp <;> with_reducible rfl
                    try simp only [Act.put, List.setIfInBounds_toArray, List.set_cons_zero, List.set_cons_succ]
                    refine tkR 16 (v := ?_) ?_ ?_
                    rotate_left
                    · intro w hSw; (try dsimp only at hSw); go_simp <;> with_reducible rfl
                    try simp only [Act.put, List.setIfInBounds_toArray, List.set_cons_zero, List.set_cons_succ]
                    refine tkR 17 (v := ?_) ?_ ?_
                    rotate_left
                    · intro w hSw; (try dsimp only at hSw); go_simp <;> with_reducible rfl
                    try simp only [Act.put, List.setIfInBounds_toArray, List.set_cons_zero, List.set_cons_succ]
                    refine tkR 18 (v := ?_) ?_ ?_
                    rotate_left
                    · intro w hSw; (try dsimp only at hSw); go_simp <;> with_reducible rfl
                    try simp only [Act.put, List.setIfInBounds_toArray, List.set_cons_zero, List.set_cons_succ]
                    refine tkR 22 (v := ?_) ?_ ?_
                    rotate_left
                    · intro w hSw; (try dsimp only at hSw); go_simp <;> with_reducible rfl
                    try simp only [Act.put, List.setIfInBounds_toArray, List.set_cons_zero, List.set_cons_succ]
                    refine tkR 23 (v := ?_) ?_ ?_
                    rotate_left
                    · intro w hSw; (try dsimp only at hSw); go_simp <;> with_reducible rfl
                    try simp only [Act.put, List.setIfInBounds_toArray, List.set_cons_zero, List.set_cons_succ]
                    refine tkR 19 (v := ?_) ?_ ?_
                    rotate_left
                    · intro w hSw; (try dsimp only at hSw); go_simp <;> with_reducible rfl
                    try simp only [Act.put, List.setIfInBounds_toArray, List.set_cons_zero, List.set_cons_succ]
                    refine tkR 24 (v := ?_) ?_ ?_
                    rotate_left
                    · intro w hSw; (try dsimp only at hSw); go_simp <;> with_reducible rfl
                    try simp only [Act.put, List.setIfInBounds_toArray, List.set_cons_zero, List.set_cons_succ]
                    refine tkR 20 (v := ?_) ?_ ?_
                    rotate_left
                    · intro w hSw; (try dsimp only at hSw); go_simp <;> with_reducible rfl
                    try simp only [Act.put, List.setIfInBounds_toArray, List.set_cons_zero, List.set_cons_succ]
                    refine tkR 25 (v := ?_) ?_ ?_
                    rotate_left
                    · intro w hSw; (try dsimp only at hSw); go_simp <;> with_reducible rfl
                    try simp only [Act.put, List.setIfInBounds_toArray, List.set_cons_zero, List.set_cons_succ]
                    refine wpAnyH_ready (rs := [21]) (by kernel_rfl) (by simp) ?_
                    refine rdR (fun K hK => ?_) ?_
                    · go_simp
                      refine (lastS_any _ _ _ s (HRS0.out.below ?b1) HSK.out e1 HE1.out).mono ?_
                      case b1 => exact Below.trans hTe (Below.mono bwT hTe.size)
                      rintro e6 w6 ⟨rfl, hb6⟩
                      have hp6 : Below we.heap.size we w6 := Below.trans (show Below we.heap.size we _ from bwT) (hb6.mono szT)
                      have sz6 := hp6.size
                      have hS6 := (And.intro (oldc hp6 l1 c1) (And.intro (oldc hp6 l1 c2) (And.intro (oldc hp6 l3 d1') (And.intro (oldc hp6 l3 d2') (And.intro (oldc hp6 klt u0) (And.intro (oldc hp6 klt u1) (And.intro (oldc hp6 klt u2) (oldc hp6 klt u3))))))))
                      clear hb6
                      refine hK.out _ _ ?_ (fun hHeld => ?_)
                      · exact kpT
                      clear hK K
                      try simp only [Act.put, List.setIfInBounds_toArray, List.set_cons_zero, List.set_cons_succ]
                      refine wpAnyH_ready (rs := [26]) (by kernel_rfl) (by simp) ?_
                      refine rdR (fun K hK => ?_) ?_
                      · go_simp
                        refine (lastS_any _ _ _ t (HRT0.out.below ?b1) HTK1.out e2 HE2.out).mono ?_
                        case b1 => exact Below.trans hTe (Below.mono bwT hTe.size)
                        rintro e7 w7 ⟨rfl, hb7⟩
                        have hp7 : Below we.heap.size we w7 := Below.trans (show Below we.heap.size we _ from bwT) (hb7.mono szT)
                        have sz7 := hp7.size
                        have hS7 := (And.intro (oldc hp7 l1 c1) (And.intro (oldc hp7 l1 c2) (And.intro (oldc hp7 l3 d1') (And.intro (oldc hp7 l3 d2') (And.intro (oldc hp7 klt u0) (And.intro (oldc hp7 klt u1) (And.intro (oldc hp7 klt u2) (oldc hp7 klt u3))))))))
                        clear hb7
                        refine hK.out _ _ ?_ (fun hHeld => ?_)
                        · exact kpT
                        clear hK K
                        try simp only [Act.put, List.setIfInBounds_toArray, List.set_cons_zero, List.set_cons_succ]
                        refine tkR 27 (v := ?_) ?_ ?_
                        rotate_left
                        · intro w hSw; (try dsimp only at hSw); go_simp <;> with_reducible rfl
                        try simp only [Act.put, List.setIfInBounds_toArray, List.set_cons_zero, List.set_cons_succ]
                        refine tkR 28 (v := ?_) ?_ ?_
                        rotate_left
                        · intro w hSw; (try dsimp only at hSw); go_simp <;> with_reducible rfl
                        try simp only [Act.put, List.setIfInBounds_toArray, List.set_cons_zero, List.set_cons_succ]
                        refine tkR 29 (v := ?_) ?_ ?_
                        rotate_left
                        · intro w hSw; (try dsimp only at hSw); go_simp <;> with_reducible rfl
                        try simp only [Act.put, List.setIfInBounds_toArray, List.set_cons_zero, List.set_cons_succ]
                        refine tkR 30 (v := ?_) ?_ ?_
                        rotate_left
                        · intro w hSw; (try dsimp only at hSw); go_simp <;> with_reducible rfl
                        try simp only [Act.put, List.setIfInBounds_toArray, List.set_cons_zero, List.set_cons_succ]
                        refine tkR 31 (v := ?_) ?_ ?_
                        rotate_left
                        · intro w hSw; (try dsimp only at hSw); go_simp <;> with_reducible rfl
                        try simp only [Act.put, List.setIfInBounds_toArray, List.set_cons_zero, List.set_cons_succ]
                        refine tkR 34 (v := ?_) ?_ ?_
                        rotate_left
                        · intro w hSw; (try dsimp only at hSw); go_simp <;> with_reducible rfl
                        try simp only [Act.put, List.setIfInBounds_toArray, List.set_cons_zero, List.set_cons_succ]
                        refine tkR 35 (v := ?_) ?_ ?_
                        rotate_left
                        · intro w hSw; (try dsimp only at hSw); go_simp <;> with_reducible rfl
                        try simp only [Act.put, List.setIfInBounds_toArray, List.set_cons_zero, List.set_cons_succ]
                        refine tkR 32 (v := ?_) ?_ ?_
                        rotate_left
                        · intro w hSw; (try dsimp only at hSw); go_simp <;> with_reducible rfl
                        try simp only [Act.put, List.setIfInBounds_toArray, List.set_cons_zero, List.set_cons_succ]
                        refine tkR 36 (v := ?_) ?_ ?_
                        rotate_left
                        · intro w hSw; (try dsimp only at hSw); go_simp <;> with_reducible rfl
                        try simp only [Act.put, List.setIfInBounds_toArray, List.set_cons_zero, List.set_cons_succ]
                        refine tkR 33 (v := ?_) ?_ ?_
                        rotate_left
                        · intro w hSw; (try dsimp only at hSw); go_simp <;> with_reducible rfl
                        try simp only [Act.put, List.setIfInBounds_toArray, List.set_cons_zero, List.set_cons_succ]
                        refine tkR 37 (v := ?_) ?_ ?_
                        rotate_left
                        · intro w hSw; (try dsimp only at hSw); go_simp <;> with_reducible rfl
                        try simp only [Act.put, List.setIfInBounds_toArray, List.set_cons_zero, List.set_cons_succ]
                        refine tkR 38 (v := ?_) ?_ ?_
                        rotate_left
                        · intro w hSw; (try dsimp only at hSw); go_simp <;> with_reducible rfl
                        try simp only [Act.put, List.setIfInBounds_toArray, List.set_cons_zero, List.set_cons_succ]
                        refine tkR 39 (v := ?_) ?_ ?_
                        rotate_left
                        · intro w hSw; (try dsimp only at hSw); go_simp <;> with_reducible rfl
                        try simp only [Act.put, List.setIfInBounds_toArray, List.set_cons_zero, List.set_cons_succ]
                        refine wpAnyH_done (by kernel_rfl) ?_ _
                        simp only [bne, HQQ.out, Bool.not_false, Bool.not_true]
                        have hXz : Below wc.heap.size wc w7 := hXe.trans (hp7.mono sXe)
                        have hBz : Below w.heap.size w w7 := hBc.trans (hXz.mono hBc.size)
                        have HJ2 := Lib.hid (show rowR (rs, es) T i (j + 1) = true by rw [rowR_succ, HJ.out, HAG.out]; rfl)
                        clear HJ HI
                        go_wp2
                        go_roundw
                        case rel => exact ⟨j + 1, by omega, by go_num, HJ2, hXz⟩
                        case measure => simp [intOf]; omega
                      exact AllReadyH.nil
                    exact AllReadyH.nil
                · obtain rfl : j = i := by omega
                  have nJ : ¬ (j : Int) < (j : Int) := by omega
                  have HI2 := Lib.hid (show divR (rs, es) T (j + 1) = true by rw [divR_succ, HI.out, HJ.out]; rfl)
                  clear HI HJ
                  go_wp2_with fail
                  go_roundw
                  case rel => exact ⟨j + 1, by omega, by go_num, HI2, hXe⟩
                  case measure => simp [intOf]; omega
            · obtain rfl : i = T.length := by omega
              have nI : ¬ (T.length : Int) < (T.length : Int) := by omega
              have HDT := Lib.hid (show D = true by rw [HD.out]; exact HI.out)
              have HK2 := Lib.hid (show (1 ≤ k + 1 → d1 = true) ∧ (2 ≤ k + 1 → d2 = true) from ⟨fun _ => by by_cases h0 : k = 0; exact (HDD.out.1 h0).symm.trans HDT.out; exact HK.out.1 (by omega), fun _ => (HDD.out.2 (by omega)).symm.trans HDT.out⟩)
              clear HI HK HDD
              go_wp2
              go_roundw
              case rel => exact ⟨k + 1, by omega, by go_num, HK2, (hbT0.trans (hTc.mono sT)).trans (hXd.mono (by omega))⟩
              case measure => simp [intOf]; omega
    · obtain rfl : k = 2 := by omega
      have HF := Lib.hid (show R = true by rw [HRD.out, HK.out.1 (by omega), HK.out.2 (by omega)]; rfl)
      clear HRD HK
      go_wp2
      go_ret
      exact ⟨ret_bool HF.out.symm, hBb⟩
end Go.Proofs.Ytnfgdkbapffjcaa
