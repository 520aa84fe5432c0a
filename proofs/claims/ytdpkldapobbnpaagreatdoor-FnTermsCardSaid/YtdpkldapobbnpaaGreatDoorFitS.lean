/- Contract: where a rule fits (spec.l4Fits). Written by fit_gen.py. -/
import Derived.Test.YtdpkldapobbnpaaGreatDoorFitI
import Derived.Test.YtdpkldapobbnpaaGreatDoorTPmS
import Derived.Test.YtdpkldapobbnpaaGreatDoorRuS
namespace Go.Proofs.YtdpkldapobbnpaaGreatDoor
set_option linter.unusedVariables false
set_option linter.unusedSimpArgs false
open Go.RowKit
set_option maxRecDepth 20000 in
set_option maxHeartbeats 16000000 in
theorem fitsS_b {z z1 : Bool} {lo hi lo1 hi1 : Nat} (w : World) (u0 u1 u2 u3 u4 a b : Value) (r : Rul) (t : Kin) (h : Rd z lo hi w [u0, u1, u2, u3, u4] r) (h' : Rd z1 lo1 hi1 w [a, b] t) (hr : isRule r = true) (ht : isKin t = true) (i : Nat) (hi0 : i < t.2.length) (R : Bool) (hR : R = fitsB r t i) :
  Calls Tryz.prog 117 #[.agg #[u0, u1, u2, u3, u4], .agg #[a, b], .int .i64 i] w (PostB w R) := by
 obtain ⟨nm, sx, pl, fr, tw⟩ := r
 obtain ⟨vfr, vtw, e1, gnm, gsx, gpl, hfr, htw⟩ := Rd.dRul h
 simp only [List.cons.injEq, and_true] at e1
 obtain ⟨rfl, rfl, rfl, rfl, rfl⟩ := e1
 obtain ⟨fao, fn, fcap, rfl, hfn, hfc, hfm, -⟩ := hfr.shape
 obtain ⟨tao, tn, tcap, rfl, -⟩ := htw.shape
 subst hfn
 have HT := Lib.hid h'
 obtain ⟨rfl, hI, hb⟩ := h'.kin
 obtain ⟨e, ts⟩ := t
 dsimp only at hb hi0 hI
 obtain ⟨sao, sn, scap, rfl, hsn, hsc, hsm, -⟩ := hb.shape
 unfold maxLen at hfm hsm
 have HK := Lib.hid ht
 have HB := Lib.hid hb
 have HFR := Lib.hid hfr
 have hf4 : 1 ≤ fr.length ∧ fr.length ≤ 4 := (isRule_facts hr).2.2.2.1
 have hs8 : ts.length ≤ 8 := (isKin_facts ht).2.1
 obtain ⟨L, hL⟩ : ∃ L, L = ts.length := ⟨_, rfl⟩
 subst hsn
 rw [← hL] at hs8 hi0 hsc HB HT ⊢
 have HL := Lib.hid hL
 have HRR := Lib.hid (show R = (decide (i + fr.length ≤ L) && (matchS fr (ts.drop i) && (decide (sx = 0 ∨ sx = sexAt (e, ts) i) && (decide (pl = 1 → i = 0) && decide (pl = 2 → i + fr.length = L))))) by rw [hR, hL]; rfl)
 clear h h' hR hr ht hI hb hL hfr htw gnm gsx gpl
 obtain ⟨Wc, hWc⟩ : ∃ W : World, W = (w.alloc (.cells #[.string nm, .int .i64 sx, .int .i64 pl, .slice fao fr.length fcap, .slice tao tn tcap] 50)).alloc (.cells #[.int .i64 e, .slice sao L scap] 36) := ⟨_, rfl⟩
 have hBWc : Below w.heap.size w Wc := by subst hWc; exact bwT
 have qr0 : Wc.cell? ⟨w.heap.size, 0, none⟩ = some (.string nm) := by subst hWc; simp [go_sem]
 have qr1 : Wc.cell? ⟨w.heap.size, 1, none⟩ = some (.int .i64 sx) := by subst hWc; simp [go_sem]
 have qr2 : Wc.cell? ⟨w.heap.size, 2, none⟩ = some (.int .i64 pl) := by subst hWc; simp [go_sem]
 have qr3 : Wc.cell? ⟨w.heap.size, 3, none⟩ = some (.slice fao fr.length fcap) := by subst hWc; simp [go_sem]
 have qr4 : Wc.cell? ⟨w.heap.size, 4, none⟩ = some (.slice tao tn tcap) := by subst hWc; simp [go_sem]
 have qt0 : Wc.cell? ⟨w.heap.size + 1, 0, none⟩ = some (.int .i64 e) := by subst hWc; simp [go_sem]
 have qt1 : Wc.cell? ⟨w.heap.size + 1, 1, none⟩ = some (.slice sao L scap) := by subst hWc; simp [go_sem]
 have szc : Wc.heap.size = w.heap.size + 1 + 1 := by subst hWc; simp
 have lr : w.heap.size < Wc.heap.size := by omega
 have lt : w.heap.size + 1 < Wc.heap.size := by omega
 clear szc
 have hsub : wrap64 ((L : Int) - (fr.length : Int)) = (L : Int) - fr.length := IntWalk.wrap64_in _ (by omega)
 have hi63 : ¬ (i : Int) < 0 := by omega
 by_cases hfit : i + fr.length ≤ L
 rotate_left
 ·have HF := Lib.hid (show R = false by rw [HRR.out, decide_eq_false hfit]; rfl)
  have n1 : (L : Int) - (fr.length : Int) < (i : Int) := by omega
  clear HRR HK HT HB HFR HL hBWc qr0 qr1 qr2 qr3 qr4 qt0 qt1 lr lt hWc
  go_enter Tryz.func117, Tryz.ntmps117
  go_wp2
  go_ret
  exact ⟨ret_bool HF.out.symm, bwT⟩
 have n1 : ¬ (L : Int) - (fr.length : Int) < (i : Int) := by omega
 have HADD := Lib.hid (show wrap64 ((i : Int) + (fr.length : Int)) = (i : Int) + fr.length from IntWalk.wrap64_in _ (by omega))
 have HSUB := Lib.hid hsub
 obtain ⟨bp, hlet_bp⟩ : ∃ r, r = (decide (pl = 1 → i = 0) && decide (pl = 2 → i + fr.length = L)) := ⟨_, rfl⟩
 have HPB := Lib.hid hlet_bp
 clear hlet_bp
 have HPV := Lib.hid (show bp = decide ((pl = 1 → i = 0) ∧ (pl = 2 → i + fr.length = L)) by rw [HPB.out]; simp only [Bool.decide_and])
 have HPB := Lib.hid HPB.out.symm
 go_enter Tryz.func117, Tryz.ntmps117
 go_upto_region 4 with fail
 rw [← hWc]
 clear hWc
 go_cut [46] (fun s46 wx => s46 = .bool (!bp) ∧ Wc = wx)
 case first =>
  clear HRR HFR HB HT HK HPB
  have hcasei : pl = 1 ∧ i = 0 ∨ pl = 1 ∧ ¬ i = 0 ∨ ¬ pl = 1 ∧ pl = 2 ∧ i + fr.length = L ∨ ¬ pl = 1 ∧ pl = 2 ∧ ¬ i + fr.length = L ∨ ¬ pl = 1 ∧ ¬ pl = 2 := by omega
  rcases hcasei with ⟨g1, g2⟩ | ⟨g1, g2⟩ | ⟨g0, g1, g2⟩ | ⟨g0, g1, g2⟩ | ⟨g1, g2⟩
  ·have eb : bp = true := by rw [HPV.out]; exact decide_eq_true (by omega)
   have f1 : (pl == 1) = true := by simpa using g1
   have f2 : ((i : Int) != 0) = false := by simp; omega
   have f3 : (pl == 2) = false := by simp; omega
   have f5 : (i != 0) = false := by simp; omega
   clear HPV g1 g2
   go_wp2_with fail
   go_meet
   exact ⟨by rw [eb]; rfl, rfl⟩
  ·have eb : bp = false := by rw [HPV.out]; exact decide_eq_false (by omega)
   have f1 : (pl == 1) = true := by simpa using g1
   have f2 : ((i : Int) != 0) = true := by simp; omega
   have f3 : (pl == 2) = false := by simp; omega
   have f5 : (i != 0) = true := by simp; omega
   clear HPV g1 g2
   go_wp2_with fail
   go_meet
   exact ⟨by rw [eb]; rfl, rfl⟩
  ·have eb : bp = true := by rw [HPV.out]; exact decide_eq_true (by omega)
   have f1 : (pl == 1) = false := by simpa using g0
   have f3 : (pl == 2) = true := by simpa using g1
   have f4 : ((i : Int) + (fr.length : Int) != (L : Int)) = false := by simp; omega
   clear HPV g0 g1 g2
   go_wp2_with fail
   go_meet
   exact ⟨by rw [eb]; rfl, rfl⟩
  ·have eb : bp = false := by rw [HPV.out]; exact decide_eq_false (by omega)
   have f1 : (pl == 1) = false := by simpa using g0
   have f3 : (pl == 2) = true := by simpa using g1
   have f4 : ((i : Int) + (fr.length : Int) != (L : Int)) = true := by simp; omega
   clear HPV g0 g1 g2
   go_wp2_with fail
   go_meet
   exact ⟨by rw [eb]; rfl, rfl⟩
  ·have eb : bp = true := by rw [HPV.out]; exact decide_eq_true (by omega)
   have f1 : (pl == 1) = false := by simpa using g1
   have f3 : (pl == 2) = false := by simpa using g2
   clear HPV g1 g2
   go_wp2_with fail
   go_meet
   exact ⟨by rw [eb]; rfl, rfl⟩
 case rest =>
 obtain ⟨rfl, hwq⟩ := hcut
 subst hwq
 cases bp
 ·have HF := Lib.hid (show R = false by rw [HRR.out, HPB.out]; simp)
  clear HRR HFR HB HT HK HPB HPV
  go_wp2
  go_ret
  exact ⟨ret_bool HF.out.symm, hBWc⟩
 obtain ⟨eg, hlet_eg⟩ : ∃ r, r = egoOf (e, ts) := ⟨_, rfl⟩
 have HEG := Lib.hid hlet_eg
 clear hlet_eg
 go_wp2_with fail
 refine (egoS_any _ _ _ (e, ts) (HT.out.below hBWc) eg HEG.out).mono ?_
 rintro e5 WY ⟨rfl, hb5⟩
 have hBY : Below w.heap.size w WY := hBWc.trans (hb5.mono hBWc.size)
 have qr0 := oldc hb5 lr qr0
 have qr1 := oldc hb5 lr qr1
 have qr2 := oldc hb5 lr qr2
 have qr3 := oldc hb5 lr qr3
 have qr4 := oldc hb5 lr qr4
 have qt0 := oldc hb5 lt qt0
 have qt1 := oldc hb5 lt qt1
 have lr := Nat.lt_of_lt_of_le lr hb5.size
 have lt := Nat.lt_of_lt_of_le lt hb5.size
 clear hb5 hsub HPV
 by_cases hz : i = 0
 ·have HSX := Lib.hid (show eg = sexAt (e, ts) i by rw [HEG.out, hz]; rfl)
  have hm3 : ¬ (0 : Int) < (i : Int) := by omega
  have hm4 : ¬ 0 < i := by omega
  clear HEG hz
  obtain ⟨x, hx⟩ : ∃ x, x = eg := ⟨_, rfl⟩
  subst hx
  obtain ⟨bs, hbs⟩ : ∃ b, b = decide (sx = 0 ∨ sx = x) := ⟨_, rfl⟩
  have HBS := Lib.hid hbs
  clear hbs
  go_upto_region 9 with fail
  go_cut [67] (fun s67 wx => s67 = .bool (!bs) ∧ WY = wx)
  case first =>
   by_cases h0 : sx = 0
   ·have e1 : (sx != 0) = false := by simp [h0]
    have eb : bs = true := by rw [HBS.out]; exact decide_eq_true (.inl h0)
    clear HRR HFR HB HT HK HBS h0
    go_wp2_with fail
    go_meet
    exact ⟨by rw [eb]; rfl, rfl⟩
   ·have e1 : (sx != 0) = true := by simpa using h0
    have eb : bs = decide (sx = x) := by rw [HBS.out]; exact decide_eq_decide.2 (by omega)
    have HE := Lib.hid (show (sx != x) = !bs by rw [eb]; rfl)
    clear HRR HFR HB HT HK HBS eb
    go_wp2_with fail
    go_meet
    exact ⟨by rw [HE.out], rfl⟩
  case rest =>
   obtain ⟨rfl, hwq⟩ := hcut
   subst hwq
   have HSB := Lib.hid (show decide (sx = 0 ∨ sx = sexAt (e, ts) i) = bs by rw [HBS.out, HSX.out])
   cases bs
   ·have HF := Lib.hid (show R = false by rw [HRR.out, HSB.out]; simp)
    clear HRR HFR HB HT HK HBS HSB
    go_wp2
    go_ret
    exact ⟨ret_bool HF.out.symm, hBY⟩
   clear HBS
   go_wp2
   obtain ⟨W0, hW0⟩ : ∃ W : World, W = WY := ⟨_, rfl⟩
   subst hW0
   have hBW0 : Below w.heap.size w W0 := hBY
   go_loopw [9, 10, 11, 71] (fun _ _ _ s71 wr => ∃ k : Nat, k ≤ fr.length ∧ s71 = .int .i64 k ∧ Hid (matchS fr (ts.drop i) = matchS (fr.drop k) (ts.drop (i + k))) ∧ Below W0.heap.size W0 wr) (fun _ _ _ s71 _ => fr.length - (intOf s71).toNat)
   case atStart => exact ⟨0, Nat.zero_le _, rfl, Lib.hid rfl, Below.refl _ _⟩
   case round =>
    obtain ⟨wd, hwd⟩ : ∃ wm : World, wm = wr := ⟨_, rfl⟩
    subst hwd
    obtain ⟨k, hk, rfl, hM, hcd⟩ := hrel
    have scd := hcd.size
    have qr0 := oldc hcd lr qr0
    have qr1 := oldc hcd lr qr1
    have qr2 := oldc hcd lr qr2
    have qr3 := oldc hcd lr qr3
    have qr4 := oldc hcd lr qr4
    have qt0 := oldc hcd lt qt0
    have qt1 := oldc hcd lt qt1
    have lr := Nat.lt_of_lt_of_le lr scd
    have lt := Nat.lt_of_lt_of_le lt scd
    have hBd : Below w.heap.size w wd := hBW0.trans (hcd.mono hBW0.size)
    by_cases hkl : k < fr.length
    ·have hK : (k : Int) < (fr.length : Int) := by omega
     obtain ⟨pb, poff, pk, pa, rfl, hp, c0, c1, -, -, -, -, pbl, -⟩ := (HFR.out.below hBd).stp_at hkl
     obtain ⟨xb, xoff, xk, xa, rfl, hx, d0, d1, -, -, -, -, xbl, -⟩ := (HB.out.below hBd).stp_at (i := i + k) (show i + k < L by omega)
     have hikl : ((i + k : Nat) : Int) < (L : Int) := Int.ofNat_lt.2 (show i + k < L by omega)
     have hik0 : ((i : Int) + (k : Int)) = ((i + k : Nat) : Int) := by omega
     have HMS := Lib.hid (matchS_step hp.out hx.out)
     clear hp hx
     obtain ⟨ik, hike⟩ : ∃ ik : Nat, ik = i + k := ⟨_, rfl⟩
     rw [← hike] at hikl hik0 d0 d1
     have HIK := Lib.hid hike
     clear hike
     dsimp only at HMS
     by_cases g1 : xk = pk
     rotate_left
     ·have e1 : (xk != pk) = true := by simpa using g1
      have e1' : (pk != xk) = true := by simpa using Ne.symm g1
      have HF := Lib.hid (show R = false by rw [HRR.out, hM.out, HMS.out, decide_eq_false g1]; simp)
      clear HRR HMS hM g1 HFR HB HT HK
      go_wp2
      go_ret
      exact ⟨ret_bool HF.out.symm, bwT⟩
     have e1 : (xk != pk) = false := by simpa using g1
     have e1' : (pk != xk) = false := by simpa using g1.symm
     by_cases g2 : pa = 0 ∨ pa = xa
     rotate_left
     ·have e2 : (pa != 0) = true := by simp; omega
      have e3 : (pa != xa) = true := by simp; omega
      have HF := Lib.hid (show R = false by rw [HRR.out, hM.out, HMS.out, decide_eq_false g2]; simp)
      clear HRR HMS hM g1 g2 HFR HB HT HK
      go_wp2
      go_ret
      exact ⟨ret_bool HF.out.symm, bwT⟩
     have HN := Lib.hid (show matchS fr (ts.drop i) = matchS (fr.drop (k + 1)) (ts.drop (i + (k + 1))) by rw [hM.out, HMS.out, decide_eq_true g1, decide_eq_true g2]; rfl)
     clear HMS hM g1
     by_cases g3 : pa = 0
     ·have e2 : (pa != 0) = false := by simp [g3]
      clear g2 g3
      go_wp2
      go_roundw
      case rel => exact ⟨k + 1, by omega, by go_num, HN, bwT⟩
      case measure => simp [intOf]; omega
     ·have e2 : (pa != 0) = true := by simpa using g3
      have e3 : (pa != xa) = false := by rcases g2 with g | g; exact absurd g g3; simp [g]
      clear g2 g3
      go_wp2
      go_roundw
      case rel => exact ⟨k + 1, by omega, by go_num, HN, bwT⟩
      case measure => simp [intOf]; omega
    ·have hK : ¬ (k : Int) < (fr.length : Int) := by omega
     have HMT := Lib.hid (show matchS fr (ts.drop i) = true by rw [hM.out]; exact matchS_end (by omega))
     clear hM
     have HF := Lib.hid (show R = true by rw [HRR.out, HMT.out, decide_eq_true hfit, HSB.out, HPB.out]; rfl)
     clear HRR HMT HFR HB HT HK
     go_wp2
     go_ret
     exact ⟨ret_bool HF.out.symm, bwT⟩
 ·obtain ⟨m, hm⟩ : ∃ m, i = m + 1 := ⟨i - 1, by omega⟩
  obtain ⟨xb, xoff, yk, ya, rfl, hx, d0, d1, -, -, -, -, ybl, -⟩ := (HB.out.below hBY).stp_at (i := m) (show m < L by omega)
  have hxk := ((isKin_facts HK.out).2.2.2 _ (List.mem_of_getElem? hx.out)).1
  have HXS := Lib.hid (show stSex yk = sexAt (e, ts) i by rw [hm]; exact (sexAt_succ (t := (e, ts)) hx.out).symm)
  have hm1 : (i : Int) - 1 = (m : Int) := by omega
  have hm2 : (m : Int) < (L : Int) := by omega
  have hm3 : (0 : Int) < (i : Int) := by omega
  have hm4 : 0 < i := by omega
  have HM := Lib.hid hm
  clear hx hm HEG hz
  obtain ⟨x, hlet_x⟩ : ∃ r, r = sexAt (e, ts) i := ⟨_, rfl⟩
  have HSX := Lib.hid hlet_x
  clear hlet_x
  dsimp only at hxk
  go_wp2_with fail
  refine (stepSexS_any _ yk hxk).mono ?_
  rintro e6 WZ ⟨rfl, hb6⟩
  have hBZ : Below w.heap.size w WZ := hBY.trans (hb6.mono hBY.size)
  have hx6 := HXS.out.trans HSX.out.symm
  rw [hx6]
  clear hx6
  have qr0 := oldc hb6 lr qr0
  have qr1 := oldc hb6 lr qr1
  have qr2 := oldc hb6 lr qr2
  have qr3 := oldc hb6 lr qr3
  have qr4 := oldc hb6 lr qr4
  have qt0 := oldc hb6 lt qt0
  have qt1 := oldc hb6 lt qt1
  have lr := Nat.lt_of_lt_of_le lr hb6.size
  have lt := Nat.lt_of_lt_of_le lt hb6.size
  clear hb6 d0 d1 HXS hm1 hm2 hBY
  obtain ⟨WY2, hWY2⟩ : ∃ W : World, W = WZ := ⟨_, rfl⟩
  subst hWY2
  have hBY := hBZ
  clear hBZ
  obtain ⟨bs, hbs⟩ : ∃ b, b = decide (sx = 0 ∨ sx = x) := ⟨_, rfl⟩
  have HBS := Lib.hid hbs
  clear hbs
  go_upto_region 9 with fail
  go_cut [67] (fun s67 wx => s67 = .bool (!bs) ∧ WY2 = wx)
  case first =>
   by_cases h0 : sx = 0
   ·have e1 : (sx != 0) = false := by simp [h0]
    have eb : bs = true := by rw [HBS.out]; exact decide_eq_true (.inl h0)
    clear HRR HFR HB HT HK HBS h0
    go_wp2_with fail
    go_meet
    exact ⟨by rw [eb]; rfl, rfl⟩
   ·have e1 : (sx != 0) = true := by simpa using h0
    have eb : bs = decide (sx = x) := by rw [HBS.out]; exact decide_eq_decide.2 (by omega)
    have HE := Lib.hid (show (sx != x) = !bs by rw [eb]; rfl)
    clear HRR HFR HB HT HK HBS eb
    go_wp2_with fail
    go_meet
    exact ⟨by rw [HE.out], rfl⟩
  case rest =>
   obtain ⟨rfl, hwq⟩ := hcut
   subst hwq
   have HSB := Lib.hid (show decide (sx = 0 ∨ sx = sexAt (e, ts) i) = bs by rw [HBS.out, HSX.out])
   cases bs
   ·have HF := Lib.hid (show R = false by rw [HRR.out, HSB.out]; simp)
    clear HRR HFR HB HT HK HBS HSB
    go_wp2
    go_ret
    exact ⟨ret_bool HF.out.symm, hBY⟩
   clear HBS
   go_wp2
   obtain ⟨W0, hW0⟩ : ∃ W : World, W = WY2 := ⟨_, rfl⟩
   subst hW0
   have hBW0 : Below w.heap.size w W0 := hBY
   go_loopw [9, 10, 11, 71] (fun _ _ _ s71 wr => ∃ k : Nat, k ≤ fr.length ∧ s71 = .int .i64 k ∧ Hid (matchS fr (ts.drop i) = matchS (fr.drop k) (ts.drop (i + k))) ∧ Below W0.heap.size W0 wr) (fun _ _ _ s71 _ => fr.length - (intOf s71).toNat)
   case atStart => exact ⟨0, Nat.zero_le _, rfl, Lib.hid rfl, Below.refl _ _⟩
   case round =>
    obtain ⟨wd, hwd⟩ : ∃ wm : World, wm = wr := ⟨_, rfl⟩
    subst hwd
    obtain ⟨k, hk, rfl, hM, hcd⟩ := hrel
    have scd := hcd.size
    have qr0 := oldc hcd lr qr0
    have qr1 := oldc hcd lr qr1
    have qr2 := oldc hcd lr qr2
    have qr3 := oldc hcd lr qr3
    have qr4 := oldc hcd lr qr4
    have qt0 := oldc hcd lt qt0
    have qt1 := oldc hcd lt qt1
    have lr := Nat.lt_of_lt_of_le lr scd
    have lt := Nat.lt_of_lt_of_le lt scd
    have hBd : Below w.heap.size w wd := hBW0.trans (hcd.mono hBW0.size)
    by_cases hkl : k < fr.length
    ·have hK : (k : Int) < (fr.length : Int) := by omega
     obtain ⟨pb, poff, pk, pa, rfl, hp, c0, c1, -, -, -, -, pbl, -⟩ := (HFR.out.below hBd).stp_at hkl
     obtain ⟨xb2, xoff2, xk, xa, eb, hx, d0, d1, -, -, -, -, xbl, -⟩ := (HB.out.below hBd).stp_at (i := i + k) (show i + k < L by omega)
     simp only [Option.some.injEq, Addr.mk.injEq, and_true] at eb
     obtain ⟨rfl, rfl⟩ := eb
     have hikl : ((i + k : Nat) : Int) < (L : Int) := Int.ofNat_lt.2 (show i + k < L by omega)
     have hik0 : ((i : Int) + (k : Int)) = ((i + k : Nat) : Int) := by omega
     have HMS := Lib.hid (matchS_step hp.out hx.out)
     clear hp hx
     obtain ⟨ik, hike⟩ : ∃ ik : Nat, ik = i + k := ⟨_, rfl⟩
     rw [← hike] at hikl hik0 d0 d1
     have HIK := Lib.hid hike
     clear hike
     dsimp only at HMS
     by_cases g1 : xk = pk
     rotate_left
     ·have e1 : (xk != pk) = true := by simpa using g1
      have e1' : (pk != xk) = true := by simpa using Ne.symm g1
      have HF := Lib.hid (show R = false by rw [HRR.out, hM.out, HMS.out, decide_eq_false g1]; simp)
      clear HRR HMS hM g1 HFR HB HT HK
      go_wp2
      go_ret
      exact ⟨ret_bool HF.out.symm, bwT⟩
     have e1 : (xk != pk) = false := by simpa using g1
     have e1' : (pk != xk) = false := by simpa using g1.symm
     by_cases g2 : pa = 0 ∨ pa = xa
     rotate_left
     ·have e2 : (pa != 0) = true := by simp; omega
      have e3 : (pa != xa) = true := by simp; omega
      have HF := Lib.hid (show R = false by rw [HRR.out, hM.out, HMS.out, decide_eq_false g2]; simp)
      clear HRR HMS hM g1 g2 HFR HB HT HK
      go_wp2
      go_ret
      exact ⟨ret_bool HF.out.symm, bwT⟩
     have HN := Lib.hid (show matchS fr (ts.drop i) = matchS (fr.drop (k + 1)) (ts.drop (i + (k + 1))) by rw [hM.out, HMS.out, decide_eq_true g1, decide_eq_true g2]; rfl)
     clear HMS hM g1
     by_cases g3 : pa = 0
     ·have e2 : (pa != 0) = false := by simp [g3]
      clear g2 g3
      go_wp2
      go_roundw
      case rel => exact ⟨k + 1, by omega, by go_num, HN, bwT⟩
      case measure => simp [intOf]; omega
     ·have e2 : (pa != 0) = true := by simpa using g3
      have e3 : (pa != xa) = false := by rcases g2 with g | g; exact absurd g g3; simp [g]
      clear g2 g3
      go_wp2
      go_roundw
      case rel => exact ⟨k + 1, by omega, by go_num, HN, bwT⟩
      case measure => simp [intOf]; omega
    ·have hK : ¬ (k : Int) < (fr.length : Int) := by omega
     have HMT := Lib.hid (show matchS fr (ts.drop i) = true by rw [hM.out]; exact matchS_end (by omega))
     clear hM
     have HF := Lib.hid (show R = true by rw [HRR.out, HMT.out, decide_eq_true hfit, HSB.out, HPB.out]; rfl)
     clear HRR HMT HFR HB HT HK
     go_wp2
     go_ret
     exact ⟨ret_bool HF.out.symm, bwT⟩
end Go.Proofs.YtdpkldapobbnpaaGreatDoor
