/- Contract of IsRule (spec). Written by rul_gen.py. -/
import Derived.Test.YtdpkldapobbnpaaGreatDoorRulM
import Derived.Test.YtdpkldapobbnpaaGreatDoorName
import Derived.Test.YtdpkldapobbnpaaGreatDoorAlwS
import Derived.Test.YtdpkldapobbnpaaGreatDoorRuI
namespace Go.Proofs.YtdpkldapobbnpaaGreatDoor
set_option linter.unusedVariables false
set_option linter.unusedSimpArgs false
open Go.RowKit
set_option maxRecDepth 20000 in
set_option maxHeartbeats 16000000 in
theorem isRuleS_b {z : Bool} {lo hi : Nat} (w : World) (u0 u1 u2 u3 u4 : Value) (r : Rul) (h : Rd z lo hi w [u0, u1, u2, u3, u4] r) (R : Bool) (hR : R = isRule r) : Calls Tryz.prog 54 #[.agg #[u0, u1, u2, u3, u4]] w (PostB w R) := by
 obtain ⟨nm, sx, pl, fr, tw⟩ := r
 obtain ⟨vfr, vtw, e1, gnm, gsx, gpl, hfr, htw⟩ := Rd.dRul h
 simp only [List.cons.injEq, and_true] at e1
 obtain ⟨rfl, rfl, rfl, rfl, rfl⟩ := e1
 obtain ⟨fao, fn, fcap, rfl, hfn, hfc, hfm, -⟩ := hfr.shape
 obtain ⟨tao, tn, tcap, rfl, htn, htc, htm, -⟩ := htw.shape
 subst hfn htn
 have HNM := Lib.hid gnm
 unfold maxLen at hfm htm
 have HRR := Lib.hid (show R = (ruleHd ((nm, sx, pl, fr, tw) : Rul) && ruleGo ((nm, sx, pl, fr, tw) : Rul) 2 1 false) by rw [hR, isRule_eq])
 have HFN := Lib.hid (show ∀ p : Prop, (R = true → p) → ¬ p → R = false from fun p a b => by cases R; rfl; exact absurd (a rfl) b)
 have HIR := Lib.hid hR
 have HZF := Lib.hid hfr
 have HZT := Lib.hid htw
 obtain ⟨b1, hlet_b1⟩ : ∃ r, r = nameOk nm := ⟨_, rfl⟩
 have HB1 := Lib.hid hlet_b1
 clear hlet_b1
 clear h hR gnm gsx gpl hfr htw
 go_enter Tryz.func54, Tryz.ntmps54
 obtain ⟨c1, hlet_c1⟩ : ∃ r, r = decide (0 ≤ sx ∧ sx ≤ 2) := ⟨_, rfl⟩
 have HC1 := Lib.hid hlet_c1
 clear hlet_c1
 obtain ⟨c2, hlet_c2⟩ : ∃ r, r = decide (0 ≤ pl ∧ pl ≤ 2) := ⟨_, rfl⟩
 have HC2 := Lib.hid hlet_c2
 clear hlet_c2
 obtain ⟨b2, hlet_b2⟩ : ∃ r, r = !(b1 && (c1 && c2)) := ⟨_, rfl⟩
 have HB2 := Lib.hid hlet_b2
 clear hlet_b2
 go_upto_region 1 with fail
 go_cut [22] (fun s22 wx => s22 = .bool b2 ∧ wx.cell? ⟨w.heap.size, 0, none⟩ = some (.string nm) ∧ wx.cell? ⟨w.heap.size, 1, none⟩ = some (.int .i64 sx) ∧ wx.cell? ⟨w.heap.size, 2, none⟩ = some (.int .i64 pl) ∧ wx.cell? ⟨w.heap.size, 3, none⟩ = some (.slice fao fr.length fcap) ∧ wx.cell? ⟨w.heap.size, 4, none⟩ = some (.slice tao tw.length tcap) ∧ w.heap.size < wx.heap.size ∧ Below w.heap.size w wx)
 case first =>
  go_wp2_with fail
  refine (isNameS_b _ nm HNM.out b1 HB1.out).mono ?_
  rintro e1 w1 ⟨rfl, hbw1⟩
  have hpw1 : Below w.heap.size w w1 := Below.after bwT hbw1 szT
  have sw1 := hpw1.size
  have hBw1 : Below w.heap.size w w1 := hpw1
  have l_r : w.heap.size < w1.heap.size := by have := hbw1.size; simp at this; omega
  have q_r0 : w1.cell? ⟨w.heap.size, 0, none⟩ = some (.string nm) := oldc hbw1 ltT (by simp [go_sem])
  have q_r1 : w1.cell? ⟨w.heap.size, 1, none⟩ = some (.int .i64 sx) := oldc hbw1 ltT (by simp [go_sem])
  have q_r2 : w1.cell? ⟨w.heap.size, 2, none⟩ = some (.int .i64 pl) := oldc hbw1 ltT (by simp [go_sem])
  have q_r3 : w1.cell? ⟨w.heap.size, 3, none⟩ = some (.slice fao fr.length fcap) := oldc hbw1 ltT (by simp [go_sem])
  have q_r4 : w1.cell? ⟨w.heap.size, 4, none⟩ = some (.slice tao tw.length tcap) := oldc hbw1 ltT (by simp [go_sem])
  clear hbw1 hpw1
  clear HIR HFN HRR HZF HZT HB1 HNM
  cases b1
  ·have e2 : b2 = true := by rw [HB2.out]; rfl
   clear HB2 HC1 HC2
   go_wp2_with fail
   go_meet
   exact ⟨by rw [e2], by simp [go_sem, *], by simp [go_sem, *], by simp [go_sem, *], by simp [go_sem, *], by simp [go_sem, *], (by first | omega | (simp; omega)), bwT⟩
  go_wp2_with fail
  refine (l1In_b sx 0 2 _ c1 HC1.out).mono ?_
  rintro e2 w2 ⟨rfl, hbw2⟩
  have hpw2 : Below w1.heap.size w1 w2 := Below.after bwT hbw2 szT
  have sw2 := hpw2.size
  have hBw2 : Below w.heap.size w w2 := Below.trans hBw1 (Below.mono hpw2 hBw1.size)
  have q_r0 := oldc hpw2 l_r q_r0
  have q_r1 := oldc hpw2 l_r q_r1
  have q_r2 := oldc hpw2 l_r q_r2
  have q_r3 := oldc hpw2 l_r q_r3
  have q_r4 := oldc hpw2 l_r q_r4
  have l_r := Nat.lt_of_lt_of_le l_r sw2
  clear hbw2 hpw2
  cases c1
  ·have e2 : b2 = true := by rw [HB2.out]; rfl
   clear HB2 HC1 HC2
   go_wp2_with fail
   go_meet
   exact ⟨by rw [e2], by simp [go_sem, *], by simp [go_sem, *], by simp [go_sem, *], by simp [go_sem, *], by simp [go_sem, *], (by first | omega | (simp; omega)), bwT⟩
  go_wp2_with fail
  refine (l1In_b pl 0 2 _ c2 HC2.out).mono ?_
  rintro e3 w3 ⟨rfl, hbw3⟩
  have hpw3 : Below w2.heap.size w2 w3 := Below.after bwT hbw3 szT
  have sw3 := hpw3.size
  have hBw3 : Below w.heap.size w w3 := Below.trans hBw2 (Below.mono hpw3 hBw2.size)
  have q_r0 := oldc hpw3 l_r q_r0
  have q_r1 := oldc hpw3 l_r q_r1
  have q_r2 := oldc hpw3 l_r q_r2
  have q_r3 := oldc hpw3 l_r q_r3
  have q_r4 := oldc hpw3 l_r q_r4
  have l_r := Nat.lt_of_lt_of_le l_r sw3
  clear hbw3 hpw3
  have e2 : b2 = !c2 := by rw [HB2.out]; rfl
  clear HB2 HC1 HC2
  go_wp2_with fail
  go_meet
  exact ⟨by rw [e2], by simp [go_sem, *], by simp [go_sem, *], by simp [go_sem, *], by simp [go_sem, *], by simp [go_sem, *], (by first | omega | (simp; omega)), bwT⟩
 case rest =>
  obtain ⟨rfl, q_r0, q_r1, q_r2, q_r3, q_r4, l_r, hBA⟩ := hcut
  obtain ⟨WA, hWA⟩ : ∃ W : World, W = wc := ⟨_, rfl⟩
  subst hWA
  have sA := hBA.size
  cases b2
  rotate_left
  ·have HF := Lib.hid (show R = false from HFN.out _ (fun e => (isRule_facts (HIR.out.symm.trans e))) (fun e => by have := HB2.out; rw [HB1.out, HC1.out, HC2.out, e.1, decide_eq_true e.2.1, decide_eq_true e.2.2.1] at this; cases this))
   clear HIR HFN HRR HZF HZT HB1 HNM HB2 HC1 HC2
   go_wp2
   go_ret
   exact ⟨ret_bool HF.out.symm, hBA⟩
  have hb1 : b1 = true ∧ c1 = true ∧ c2 = true := by have := HB2.out; cases b1 <;> cases c1 <;> cases c2 <;> simp at this ⊢
  obtain ⟨c3, hlet_c3⟩ : ∃ r, r = decide ((1 : Int) ≤ (fr.length : Int) ∧ (fr.length : Int) ≤ 4) := ⟨_, rfl⟩
  have HC3 := Lib.hid hlet_c3
  clear hlet_c3
  obtain ⟨c4, hlet_c4⟩ : ∃ r, r = beforeS tw fr := ⟨_, rfl⟩
  have HC4 := Lib.hid hlet_c4
  clear hlet_c4
  have HHD := Lib.hid (show ruleHd ((nm, sx, pl, fr, tw) : Rul) = (c3 && c4) by
   unfold ruleHd
   dsimp only
   rw [← HB1.out, ← HC1.out, ← HC2.out, hb1.1, hb1.2.1, hb1.2.2, ← HC4.out, HC3.out]
   simp only [Bool.true_and]
   congr 1
   exact decide_eq_decide.2 (by omega))
  have HL4 := Lib.hid (show c3 = true → fr.length ≤ 4 from fun e => by have := of_decide_eq_true (HC3.out.symm.trans e); omega)
  clear HIR HFN HB1 HNM HB2 HC1 HC2 hb1
  obtain ⟨b3, hlet_b3⟩ : ∃ r, r = !(c3 && c4) := ⟨_, rfl⟩
  have HB3 := Lib.hid hlet_b3
  clear hlet_b3
  go_upto_region 3 with fail
  go_cut [35] (fun s35 wx => s35 = .bool b3 ∧ wx.cell? ⟨w.heap.size, 0, none⟩ = some (.string nm) ∧ wx.cell? ⟨w.heap.size, 1, none⟩ = some (.int .i64 sx) ∧ wx.cell? ⟨w.heap.size, 2, none⟩ = some (.int .i64 pl) ∧ wx.cell? ⟨w.heap.size, 3, none⟩ = some (.slice fao fr.length fcap) ∧ wx.cell? ⟨w.heap.size, 4, none⟩ = some (.slice tao tw.length tcap) ∧ w.heap.size < wx.heap.size ∧ Below w.heap.size w wx)
  case first =>
   clear HRR HHD HL4
   go_wp2_with fail
   refine (l1In_b (fr.length : Int) 1 4 _ c3 HC3.out).mono ?_
   rintro e w2 ⟨rfl, hb2⟩
   have hB2 : Below w.heap.size w w2 := Below.after hBA hb2 sA
   have q_r0 := oldc hb2 l_r q_r0
   have q_r1 := oldc hb2 l_r q_r1
   have q_r2 := oldc hb2 l_r q_r2
   have q_r3 := oldc hb2 l_r q_r3
   have q_r4 := oldc hb2 l_r q_r4
   have l_r := Nat.lt_of_lt_of_le l_r hb2.size
   have s2 := hb2.size
   clear hb2
   cases c3
   ·have e3 : b3 = true := by rw [HB3.out]; rfl
    clear HB3 HC3 HC4
    go_wp2_with fail
    go_meet
    exact ⟨by rw [e3], q_r0, q_r1, q_r2, q_r3, q_r4, l_r, hB2⟩
   have e3 : b3 = !c4 := by rw [HB3.out]; rfl
   have hE3 := Lib.hid e3
   clear e3 HB3
   go_wp2_with fail
   refine (l4Before_b _ _ _ tw fr (HZT.out.below hB2) (HZF.out.below hB2) c4 HC4.out).mono ?_
   rintro e w3 ⟨rfl, hb3⟩
   have hB3 : Below w.heap.size w w3 := Below.after hB2 hb3 (by omega)
   have q_r0 := oldc hb3 l_r q_r0
   have q_r1 := oldc hb3 l_r q_r1
   have q_r2 := oldc hb3 l_r q_r2
   have q_r3 := oldc hb3 l_r q_r3
   have q_r4 := oldc hb3 l_r q_r4
   have l_r := Nat.lt_of_lt_of_le l_r hb3.size
   clear hb3 HZF HZT
   go_wp2_with fail
   go_meet
   exact ⟨by rw [hE3.out], q_r0, q_r1, q_r2, q_r3, q_r4, l_r, hB3⟩
  case rest =>
   clear q_r0 q_r1 q_r2 q_r3 q_r4 l_r
   obtain ⟨rfl, q_r0, q_r1, q_r2, q_r3, q_r4, l_r, hBA2⟩ := hcut
   obtain ⟨WB, hWB⟩ : ∃ W : World, W = wc := ⟨_, rfl⟩
   subst hWB
   have HBF := Lib.hid (show (c3 && c4) = !b3 by rw [HB3.out, Bool.not_not])
   cases b3
   rotate_left
   ·have HF := Lib.hid (show R = false by rw [HRR.out, HHD.out, HBF.out]; rfl)
    clear HRR HZF HZT HHD HB3 HBF
    go_wp2
    go_ret
    exact ⟨ret_bool HF.out.symm, hBA2⟩
   have HGO := Lib.hid (show R = ruleGo ((nm, sx, pl, fr, tw) : Rul) (3 - (1 : Int)).toNat 1 false by rw [HRR.out, HHD.out, HBF.out]; rfl)
   have hf4 : fr.length ≤ 4 := HL4.out (by have := HBF.out; cases c3; simp at this; rfl)
   clear HRR HHD HB3 hBA HBF HL4 HC3 HC4
   obtain ⟨W0, hW0⟩ : ∃ W0 : World, W0 = WB := ⟨_, rfl⟩
   subst hW0
   have hB0 : Below w.heap.size w W0 := hBA2
   have s0 := hB0.size
   go_wp2
   go_loopw [3, 4, 5, 6] (fun s3 s4 _ _ wr => ∃ (s : Int) (sm : Bool), 1 ≤ s ∧ s ≤ 3 ∧ s4 = .int .i64 s ∧ s3 = .bool sm ∧ Hid (R = ruleGo ((nm, sx, pl, fr, tw) : Rul) (3 - s).toNat s sm) ∧ Below W0.heap.size W0 wr) (fun _ s4 _ _ _ => (4 - intOf s4).toNat)
   case atStart => exact ⟨1, false, by omega, by omega, rfl, rfl, HGO, Below.refl _ _⟩
   case round =>
    clear HGO
    obtain ⟨wb, hwb⟩ : ∃ wm : World, wm = wr := ⟨_, rfl⟩
    subst hwb
    obtain ⟨s, sm, hs1, hs3, rfl, rfl, hG, hbb⟩ := hrel
    have sB := hbb.size
    have hBb : Below w.heap.size w wb := hB0.trans (hbb.mono s0)
    have q_r0 := oldc hbb l_r q_r0
    have q_r1 := oldc hbb l_r q_r1
    have q_r2 := oldc hbb l_r q_r2
    have q_r3 := oldc hbb l_r q_r3
    have q_r4 := oldc hbb l_r q_r4
    have l_r := Nat.lt_of_lt_of_le l_r sB
    by_cases hle : s ≤ 2
    ·have HST := Lib.hid (ruleGo_step (r := ((nm, sx, pl, fr, tw) : Rul)) hs1 hle sm)
     have hs12 : s = 1 ∨ s = 2 := by omega
     have v1 : ¬ w.heap.size = wb.heap.size := by omega
     have v2 : ¬ wb.heap.size = w.heap.size := by omega
     have v3 : ¬ w.heap.size = wb.heap.size + 1 := by omega
     have v4 : ¬ wb.heap.size + 1 = w.heap.size := by omega
     have v5 : w.heap.size < wb.heap.size + 1 := by omega
     have v6 : w.heap.size < wb.heap.size + 1 + 1 := by omega
     go_upto_region 10 with fail
     go_cut [5, 6] (fun s5 s6 wx => ∃ gf gt : Nat, s5 = .pointer (some ⟨gf, 0, none⟩) ∧ s6 = .pointer (some ⟨gt, 0, none⟩) ∧ wx.cell? ⟨gf, 0, none⟩ = some (.int .i64 s) ∧ wx.cell? ⟨gf, 1, none⟩ = some (.slice fao fr.length fcap) ∧ wx.cell? ⟨gt, 0, none⟩ = some (.int .i64 s) ∧ wx.cell? ⟨gt, 1, none⟩ = some (.slice tao tw.length tcap) ∧ gf < wx.heap.size ∧ gt < wx.heap.size ∧ wx.cell? ⟨w.heap.size, 0, none⟩ = some (.string nm) ∧ wx.cell? ⟨w.heap.size, 1, none⟩ = some (.int .i64 sx) ∧ wx.cell? ⟨w.heap.size, 2, none⟩ = some (.int .i64 pl) ∧ wx.cell? ⟨w.heap.size, 3, none⟩ = some (.slice fao fr.length fcap) ∧ wx.cell? ⟨w.heap.size, 4, none⟩ = some (.slice tao tw.length tcap) ∧ w.heap.size < wx.heap.size ∧ Below wb.heap.size wb wx)
     case first =>
      go_wp2_with fail
      go_meet
      exact ⟨_, _, rfl, rfl, by simp [go_sem, *], by simp [go_sem, *], by simp [go_sem, *], by simp [go_sem, *], (by first | omega | (simp; omega) | simp), (by first | omega | (simp; omega) | simp), by simp [go_sem, *], by simp [go_sem, *], by simp [go_sem, *], by simp [go_sem, *], by simp [go_sem, *], (by first | omega | (simp; omega) | simp), bwT⟩
     case rest =>
      obtain ⟨gf, gt, rfl, rfl, f0, f1, t0, t1, l_f, l_t, q_r0, q_r1, q_r2, q_r3, q_r4, l_r, hbX⟩ := hcut
      obtain ⟨WX, hWX⟩ : ∃ W : World, W = wc := ⟨_, rfl⟩
      subst hWX
      clear v1 v2 v3 v4 v5 v6
      have sX := hbX.size
      have hBX : Below w.heap.size w WX := hBb.trans (hbX.mono (by omega))
      have hXX : Below W0.heap.size W0 WX := hbb.trans (hbX.mono sB)
      have HIS := Lib.hid (show I64 s by unfold I64; omega)
      by_cases hsx : sx = 0 ∨ sx = s
      rotate_left
      ·have e1 : (sx != 0) = true := by simp; omega
       have e2 : (sx != s) = true := by simp; omega
       have HN := Lib.hid (show R = ruleGo ((nm, sx, pl, fr, tw) : Rul) (3 - (s + 1)).toNat (s + 1) sm by
        rw [hG.out, HST.out, if_neg]
        unfold ruleSx
        dsimp only
        rw [decide_eq_false hsx]
        simp)
       clear hG HST hsx
       go_wp2
       go_roundw
       case rel => exact ⟨s + 1, sm, by omega, by omega, by go_num, rfl, HN, hXX⟩
       case measure => simp [intOf]; omega
      obtain ⟨k1, hlet_k1⟩ : ∃ r, r = isKin (s, fr) := ⟨_, rfl⟩
      have HK1 := Lib.hid hlet_k1
      clear hlet_k1
      have HSX := Lib.hid (show ruleSx ((nm, sx, pl, fr, tw) : Rul) s = k1 by unfold ruleSx; dsimp only; rw [decide_eq_true hsx, ← HK1.out]; rfl)
      have HZF2 := Lib.hid (HZF.out.below hBX)
      have HZT2 := Lib.hid (HZT.out.below hBX)
      go_upto_region 11 with fail
      go_cut [5, 6, 61] (fun s5 s6 s92 wx => s5 = .pointer (some ⟨gf, 0, none⟩) ∧ s6 = .pointer (some ⟨gt, 0, none⟩) ∧ s92 = .bool (!k1) ∧ wx.cell? ⟨gf, 0, none⟩ = some (.int .i64 s) ∧ wx.cell? ⟨gf, 1, none⟩ = some (.slice fao fr.length fcap) ∧ wx.cell? ⟨gt, 0, none⟩ = some (.int .i64 s) ∧ wx.cell? ⟨gt, 1, none⟩ = some (.slice tao tw.length tcap) ∧ wx.cell? ⟨w.heap.size, 0, none⟩ = some (.string nm) ∧ wx.cell? ⟨w.heap.size, 1, none⟩ = some (.int .i64 sx) ∧ wx.cell? ⟨w.heap.size, 2, none⟩ = some (.int .i64 pl) ∧ wx.cell? ⟨w.heap.size, 3, none⟩ = some (.slice fao fr.length fcap) ∧ wx.cell? ⟨w.heap.size, 4, none⟩ = some (.slice tao tw.length tcap) ∧ Below WX.heap.size WX wx)
      case first =>
       by_cases h0 : sx = 0
       ·have e1 : (sx != 0) = false := by simp [h0]
        clear hG HST HSX hsx h0
        go_wp2_with fail
        refine (isTypeS_b _ _ _ (s, fr) (Rd.kin_mk HIS.out (HZF2.out.below ?b1)) k1 HK1.out).mono ?_
        case b1 => exact bwT
        rintro e wk ⟨rfl, hbk⟩
        have f0 := oldc hbk l_f f0
        have f1 := oldc hbk l_f f1
        have t0 := oldc hbk l_t t0
        have t1 := oldc hbk l_t t1
        have q_r0 := oldc hbk l_r q_r0
        have q_r1 := oldc hbk l_r q_r1
        have q_r2 := oldc hbk l_r q_r2
        have q_r3 := oldc hbk l_r q_r3
        have q_r4 := oldc hbk l_r q_r4
        go_wp2_with fail
        go_meet
        exact ⟨rfl, rfl, rfl, f0, f1, t0, t1, q_r0, q_r1, q_r2, q_r3, q_r4, hbk⟩
       ·have e1 : (sx != 0) = true := by simpa using h0
        have e2 : (sx != s) = false := by rcases hsx with e | e; exact absurd e h0; simp [e]
        clear hG HST HSX hsx h0
        go_wp2_with fail
        refine (isTypeS_b _ _ _ (s, fr) (Rd.kin_mk HIS.out (HZF2.out.below ?b1)) k1 HK1.out).mono ?_
        case b1 => exact bwT
        rintro e wk ⟨rfl, hbk⟩
        have f0 := oldc hbk l_f f0
        have f1 := oldc hbk l_f f1
        have t0 := oldc hbk l_t t0
        have t1 := oldc hbk l_t t1
        have q_r0 := oldc hbk l_r q_r0
        have q_r1 := oldc hbk l_r q_r1
        have q_r2 := oldc hbk l_r q_r2
        have q_r3 := oldc hbk l_r q_r3
        have q_r4 := oldc hbk l_r q_r4
        go_wp2_with fail
        go_meet
        exact ⟨rfl, rfl, rfl, f0, f1, t0, t1, q_r0, q_r1, q_r2, q_r3, q_r4, hbk⟩
      case rest =>
       clear f0 f1 t0 t1 q_r0 q_r1 q_r2 q_r3 q_r4
       obtain ⟨rfl, rfl, rfl, f0, f1, t0, t1, q_r0, q_r1, q_r2, q_r3, q_r4, hbY⟩ := hcut
       obtain ⟨WY, hWY⟩ : ∃ W : World, W = wc := ⟨_, rfl⟩
       subst hWY
       have sY := hbY.size
       have hBY : Below w.heap.size w WY := hBX.trans (hbY.mono (by omega))
       have hXY : Below W0.heap.size W0 WY := hXX.trans (hbY.mono (by omega))
       have l_f := Nat.lt_of_lt_of_le l_f sY
       have l_t := Nat.lt_of_lt_of_le l_t sY
       have l_r := Nat.lt_of_lt_of_le l_r sY
       clear hBX hXX hsx
       cases k1
       ·have HN := Lib.hid (show R = ruleGo ((nm, sx, pl, fr, tw) : Rul) (3 - (s + 1)).toNat (s + 1) sm by
         rw [hG.out, HST.out, if_neg (by rw [HSX.out]; decide)])
        clear hG HST HSX HZF2 HZT2 HK1
        go_wp2
        go_roundw
        case rel => exact ⟨s + 1, sm, by omega, by omega, by go_num, rfl, HN, hXY⟩
        case measure => simp [intOf]; omega
       obtain ⟨k2, hlet_k2⟩ : ∃ r, r = isKin (s, tw) := ⟨_, rfl⟩
       have HK2 := Lib.hid hlet_k2
       clear hlet_k2
       obtain ⟨x1, hlet_x1⟩ : ∃ r, r = sexOf (s, fr) := ⟨_, rfl⟩
       have HX1 := Lib.hid hlet_x1
       clear hlet_x1
       obtain ⟨x2, hlet_x2⟩ : ∃ r, r = sexOf (s, tw) := ⟨_, rfl⟩
       have HX2 := Lib.hid hlet_x2
       clear hlet_x2
       have HFN2 := Lib.hid (show ruleFn ((nm, sx, pl, fr, tw) : Rul) s = (k2 && decide (x1 = x2)) by unfold ruleFn; dsimp only; rw [← HK2.out, ← HX1.out, ← HX2.out])
       skip
       cases k2
       ·have HF := Lib.hid (show R = false by rw [hG.out, HST.out, if_pos HSX.out, if_neg (by rw [HFN2.out]; simp)])
        clear hG HST HSX HK1 HX1 HX2 HFN2
        go_upto_region 13 with fail
        refine wp_region_held_drew (S := (fun w' => w'.cell? ⟨gf, 0, none⟩ = some (.int .i64 s) ∧ w'.cell? ⟨gf, 1, none⟩ = some (.slice fao fr.length fcap) ∧ w'.cell? ⟨gt, 0, none⟩ = some (.int .i64 s) ∧ w'.cell? ⟨gt, 1, none⟩ = some (.slice tao tw.length tcap))) (by kernel_rfl) ?_ (fun hHeld => ?_)
        ·first | exact trivial | ((try dsimp only); go_keep)
        refine tkA 0 ?_
        try simp only [Act.put, cA, cB, cC]
        refine wpAnyH_ready (rs := [1]) (by kernel_rfl) (by simp) ?_
        refine rdR (fun K hK => ?_) ?_
        ·go_simp
         refine (isTypeS_b _ _ _ (s, tw) (Rd.kin_mk HIS.out (HZT2.out.below ?b1)) false HK2.out).mono ?_
         case b1 => exact bwT
         rintro e w5 ⟨rfl, hb5⟩
         have hS5 := And.intro (oldc hb5 (by first | omega | (simp; omega)) hHeld.1) (And.intro (oldc hb5 (by first | omega | (simp; omega)) hHeld.2.1) (And.intro (oldc hb5 (by first | omega | (simp; omega)) hHeld.2.2.1) (oldc hb5 (by first | omega | (simp; omega)) hHeld.2.2.2)))
         have hBw5 : Below w.heap.size w w5 := Below.trans (show Below w.heap.size w _ from bwT) (hb5.mono szT)
         clear hb5
         refine hK.out _ _ ?_ (fun hHeld => ?_)
         ·exact kpT
         clear hK K
         try simp only [Act.put, cA, cB, cC]
         refine tkA 2 ?_
         try simp only [Act.put, cA, cB, cC]
         refine tkA 3 ?_
         try simp only [Act.put, cA, cB, cC]
         refine skR 4 ?_
         try simp only [Act.put, cA, cB, cC]
         refine skR 6 ?_
         try simp only [Act.put, cA, cB, cC]
         refine skR 5 ?_
         try simp only [Act.put, cA, cB, cC]
         refine skR 7 ?_
         try simp only [Act.put, cA, cB, cC]
         refine skR 8 ?_
         try simp only [Act.put, cA, cB, cC]
         refine tkA 9 ?_
         try simp only [Act.put, cA, cB, cC]
         refine wpAnyH_done (by kernel_rfl) ?_ _
         go_wp2
         go_ret
         exact ⟨ret_bool HF.out.symm, bwT⟩
        exact AllReadyH.nil
       go_upto_region 13 with fail
       refine wp_region_held_drew (S := (fun w' => w'.cell? ⟨gf, 0, none⟩ = some (.int .i64 s) ∧ w'.cell? ⟨gf, 1, none⟩ = some (.slice fao fr.length fcap) ∧ w'.cell? ⟨gt, 0, none⟩ = some (.int .i64 s) ∧ w'.cell? ⟨gt, 1, none⟩ = some (.slice tao tw.length tcap))) (by kernel_rfl) ?_ (fun hHeld => ?_)
       ·first | exact trivial | ((try dsimp only); go_keep)
       refine tkA 0 ?_
       try simp only [Act.put, cA, cB, cC]
       refine wpAnyH_ready (rs := [1]) (by kernel_rfl) (by simp) ?_
       refine rdR (fun K hK => ?_) ?_
       ·go_simp
        refine (isTypeS_b _ _ _ (s, tw) (Rd.kin_mk HIS.out (HZT2.out.below ?b1)) true HK2.out).mono ?_
        case b1 => exact bwT
        rintro e w5 ⟨rfl, hb5⟩
        have hS5 := And.intro (oldc hb5 (by first | omega | (simp; omega)) hHeld.1) (And.intro (oldc hb5 (by first | omega | (simp; omega)) hHeld.2.1) (And.intro (oldc hb5 (by first | omega | (simp; omega)) hHeld.2.2.1) (oldc hb5 (by first | omega | (simp; omega)) hHeld.2.2.2)))
        have s5 := hb5.size
        try simp only [World.size_drew] at s5
        have hBw5 : Below w.heap.size w w5 := Below.trans (show Below w.heap.size w _ from bwT) (hb5.mono szT)
        have hB05 : Below W0.heap.size W0 w5 := Below.trans (show Below W0.heap.size W0 _ from bwT) (hb5.mono szT)
        have hBX5 : Below WX.heap.size WX w5 := Below.trans (show Below WX.heap.size WX _ from bwT) (hb5.mono szT)
        clear hb5
        refine hK.out _ _ ?_ (fun hHeld => ?_)
        ·exact kpT
        clear hK K
        try simp only [Act.put, cA, cB, cC]
        refine tkA 2 ?_
        try simp only [Act.put, cA, cB, cC]
        refine tkA 3 ?_
        try simp only [Act.put, cA, cB, cC]
        refine tkA 4 ?_
        try simp only [Act.put, cA, cB, cC]
        refine tkA 6 ?_
        try simp only [Act.put, cA, cB, cC]
        refine wpAnyH_ready (rs := [5]) (by kernel_rfl) (by simp) ?_
        refine rdR (fun K hK => ?_) ?_
        ·go_simp
         refine (lastS_any _ _ _ (s, tw) (Rd.kin_mk HIS.out (HZT2.out.below ?b1)) HK2.out.symm x2 HX2.out).mono ?_
         case b1 => exact bwT
         rintro e w5 ⟨rfl, hb5⟩
         have hS5 := And.intro (oldc hb5 (by first | omega | (simp; omega)) hHeld.1) (And.intro (oldc hb5 (by first | omega | (simp; omega)) hHeld.2.1) (And.intro (oldc hb5 (by first | omega | (simp; omega)) hHeld.2.2.1) (oldc hb5 (by first | omega | (simp; omega)) hHeld.2.2.2)))
         have s5 := hb5.size
         try simp only [World.size_drew] at s5
         have hBw5 : Below w.heap.size w w5 := Below.trans (show Below w.heap.size w _ from bwT) (hb5.mono szT)
         have hB05 : Below W0.heap.size W0 w5 := Below.trans (show Below W0.heap.size W0 _ from bwT) (hb5.mono szT)
         have hBX5 : Below WX.heap.size WX w5 := Below.trans (show Below WX.heap.size WX _ from bwT) (hb5.mono szT)
         clear hb5
         refine hK.out _ _ ?_ (fun hHeld => ?_)
         ·exact kpT
         clear hK K
         try simp only [Act.put, cA, cB, cC]
         refine wpAnyH_ready (rs := [7]) (by kernel_rfl) (by simp) ?_
         refine rdR (fun K hK => ?_) ?_
         ·go_simp
          refine (lastS_any _ _ _ (s, fr) (Rd.kin_mk HIS.out (HZF2.out.below ?b1)) HK1.out.symm x1 HX1.out).mono ?_
          case b1 => exact bwT
          rintro e w7 ⟨rfl, hb7⟩
          have hS7 := And.intro (oldc hb7 (by first | omega | (simp; omega)) hHeld.1) (And.intro (oldc hb7 (by first | omega | (simp; omega)) hHeld.2.1) (And.intro (oldc hb7 (by first | omega | (simp; omega)) hHeld.2.2.1) (oldc hb7 (by first | omega | (simp; omega)) hHeld.2.2.2)))
          have s7 := hb7.size
          try simp only [World.size_drew] at s7
          have hBw7 : Below w.heap.size w w7 := Below.trans (show Below w.heap.size w _ from bwT) (hb7.mono szT)
          have hB07 : Below W0.heap.size W0 w7 := Below.trans (show Below W0.heap.size W0 _ from bwT) (hb7.mono szT)
          have hBX7 : Below WX.heap.size WX w7 := Below.trans (show Below WX.heap.size WX _ from bwT) (hb7.mono szT)
          clear hb7
          refine hK.out _ _ ?_ (fun hHeld => ?_)
          ·exact kpT
          clear hK K
          try simp only [Act.put, cA, cB, cC]
          refine tkA 8 ?_
          try simp only [Act.put, cA, cB, cC]
          refine tkA 9 ?_
          try simp only [Act.put, cA, cB, cC]
          refine wpAnyH_done (by kernel_rfl) ?_ _
          by_cases hq : x1 = x2
          ·have e3 : (x1 != x2) = false := by simpa using hq
           have e3' : (x2 != x1) = false := by simpa using hq.symm
           have HN := Lib.hid (show R = ruleGo ((nm, sx, pl, fr, tw) : Rul) (3 - (s + 1)).toNat (s + 1) true by rw [hG.out, HST.out, if_pos HSX.out, if_pos (by rw [HFN2.out, decide_eq_true hq]; rfl)])
           clear hG HST HSX HK1 HX1 HX2 HFN2 hq HZF2 HZT2
           go_wp2
           go_roundw
           case rel => exact ⟨s + 1, true, by omega, by omega, by go_num, rfl, HN, bwT⟩
           case measure => simp [intOf]; omega
          ·have e3 : (x1 != x2) = true := by simpa using hq
           have e3' : (x2 != x1) = true := by simp; omega
           have HF := Lib.hid (show R = false by rw [hG.out, HST.out, if_pos HSX.out, if_neg (by rw [HFN2.out, decide_eq_false hq]; simp)])
           clear hG HST HSX HK1 HX1 HX2 HFN2 hq HZF2 HZT2
           go_wp2
           go_ret
           exact ⟨ret_bool HF.out.symm, bwT⟩
         exact AllReadyH.nil
        exact AllReadyH.nil
       exact AllReadyH.nil
    ·obtain rfl : s = 3 := by omega
     have HF := Lib.hid (show R = sm by rw [hG.out]; rfl)
     clear hG
     go_wp2
     go_ret
     exact ⟨ret_bool HF.out.symm, bwT⟩
end Go.Proofs.YtdpkldapobbnpaaGreatDoor
