/- Contract: where a rule fits (impl.fitsAt). Written by fit_gen.py. -/
import Derived.Test.YtdpkldapobbnpaaGreatDoorRuI
import Derived.Test.YtdpkldapobbnpaaGreatDoorBase
namespace Go.Proofs.YtdpkldapobbnpaaGreatDoor
set_option linter.unusedVariables false
set_option linter.unusedSimpArgs false
open Go.RowKit
theorem matchS_step {ps xs : List Stp} {k i : Nat} {p x : Stp} (h : ps[k]? = some p) (h' : xs[i + k]? = some x) : matchS (ps.drop k) (xs.drop (i + k)) = ((decide (x.1 = p.1) && decide (p.2 = 0 ∨ p.2 = x.2)) && matchS (ps.drop (k + 1)) (xs.drop (i + (k + 1)))) := by
 rw [drop_cons h, drop_cons h', matchS]; rfl
theorem matchS_end {ps xs : List Stp} {k : Nat} (h : ps.length ≤ k) : matchS (ps.drop k) xs = true := by rw [List.drop_eq_nil_of_le h]; rfl
set_option maxRecDepth 20000 in
set_option maxHeartbeats 16000000 in
theorem fitsI_b {z z1 : Bool} {lo hi lo1 hi1 : Nat} (w : World) (u0 u1 u2 u3 u4 a b : Value) (r : Rul) (t : Kin) (h : Rd z lo hi w [u0, u1, u2, u3, u4] r) (h' : Rd z1 lo1 hi1 w [a, b] t) (hr : isRule r = true) (ht : isKin t = true) (i : Nat) (hi0 : i < t.2.length) (R : Bool) (hR : R = fitsB r t i) :
  Calls Tryz.prog 114 #[.agg #[u0, u1, u2, u3, u4], .agg #[a, b], .int .i64 i] w (PostB w R) := by
 obtain ⟨nm, sx, pl, fr, tw⟩ := r
 obtain ⟨vfr, vtw, e1, gnm, gsx, gpl, hfr, htw⟩ := Rd.dRul h
 simp only [List.cons.injEq, and_true] at e1
 obtain ⟨rfl, rfl, rfl, rfl, rfl⟩ := e1
 obtain ⟨fao, fn, fcap, rfl, hfn, hfc, hfm, -⟩ := hfr.shape
 obtain ⟨tao, tn, tcap, rfl, -⟩ := htw.shape
 subst hfn
 have HT := Lib.hid h'
 obtain ⟨rfl, hI, hb⟩ := h'.kin
 obtain ⟨e, ts⟩ := t
 dsimp only at hb hi0 hI
 obtain ⟨sao, sn, scap, rfl, hsn, hsc, hsm, -⟩ := hb.shape
 unfold maxLen at hfm hsm
 have HK := Lib.hid ht
 have HB := Lib.hid hb
 have HFR := Lib.hid hfr
 have hf4 : 1 ≤ fr.length ∧ fr.length ≤ 4 := (isRule_facts hr).2.2.2.1
 have hs8 : ts.length ≤ 8 := (isKin_facts ht).2.1
 obtain ⟨L, hL⟩ : ∃ L, L = ts.length := ⟨_, rfl⟩
 subst hsn
 rw [← hL] at hs8 hi0 hsc HB HT ⊢
 have HL := Lib.hid hL
 have HRR := Lib.hid (show R = (decide (i + fr.length ≤ L) && (matchS fr (ts.drop i) && (decide (sx = 0 ∨ sx = sexAt (e, ts) i) && (decide (pl = 1 → i = 0) && decide (pl = 2 → i + fr.length = L))))) by rw [hR, hL]; rfl)
 clear h h' hR hr ht hI hb hL hfr htw gnm gsx gpl
 obtain ⟨Wc, hWc⟩ : ∃ W : World, W = (w.alloc (.cells #[.string nm, .int .i64 sx, .int .i64 pl, .slice fao fr.length fcap, .slice tao tn tcap] 50)).alloc (.cells #[.int .i64 e, .slice sao L scap] 36) := ⟨_, rfl⟩
 have hBWc : Below w.heap.size w Wc := by subst hWc; exact bwT
 have qr0 : Wc.cell? ⟨w.heap.size, 0, none⟩ = some (.string nm) := by subst hWc; simp [go_sem]
 have qr1 : Wc.cell? ⟨w.heap.size, 1, none⟩ = some (.int .i64 sx) := by subst hWc; simp [go_sem]
 have qr2 : Wc.cell? ⟨w.heap.size, 2, none⟩ = some (.int .i64 pl) := by subst hWc; simp [go_sem]
 have qr3 : Wc.cell? ⟨w.heap.size, 3, none⟩ = some (.slice fao fr.length fcap) := by subst hWc; simp [go_sem]
 have qr4 : Wc.cell? ⟨w.heap.size, 4, none⟩ = some (.slice tao tn tcap) := by subst hWc; simp [go_sem]
 have qt0 : Wc.cell? ⟨w.heap.size + 1, 0, none⟩ = some (.int .i64 e) := by subst hWc; simp [go_sem]
 have qt1 : Wc.cell? ⟨w.heap.size + 1, 1, none⟩ = some (.slice sao L scap) := by subst hWc; simp [go_sem]
 have szc : Wc.heap.size = w.heap.size + 1 + 1 := by subst hWc; simp
 have lr : w.heap.size < Wc.heap.size := by omega
 have lt : w.heap.size + 1 < Wc.heap.size := by omega
 clear szc
 have hsub : wrap64 ((L : Int) - (fr.length : Int)) = (L : Int) - fr.length := IntWalk.wrap64_in _ (by omega)
 have hi63 : ¬ (i : Int) < 0 := by omega
 by_cases hfit : i + fr.length ≤ L
 rotate_left
 ·have HF := Lib.hid (show R = false by rw [HRR.out, decide_eq_false hfit]; rfl)
  have n1 : (L : Int) - (fr.length : Int) < (i : Int) := by omega
  clear HRR HK HT HB HFR HL hBWc qr0 qr1 qr2 qr3 qr4 qt0 qt1 lr lt hWc
  go_enter Tryz.func114, Tryz.ntmps114
  go_wp2
  go_ret
  exact ⟨ret_bool HF.out.symm, bwT⟩
 have n1 : ¬ (L : Int) - (fr.length : Int) < (i : Int) := by omega
 have HADD := Lib.hid (show wrap64 ((i : Int) + (fr.length : Int)) = (i : Int) + fr.length from IntWalk.wrap64_in _ (by omega))
 have HSUB := Lib.hid hsub
 go_enter Tryz.func114, Tryz.ntmps114
 go_wp2
 rw [← hWc]
 clear hWc
 obtain ⟨W0, hW0⟩ : ∃ W : World, W = Wc := ⟨_, rfl⟩
 subst hW0
 have hBW0 : Below w.heap.size w W0 := hBWc
 clear hsub
 go_loopw [8, 9, 10, 28] (fun _ _ _ s28 wr => ∃ k : Nat, k ≤ fr.length ∧ s28 = .int .i64 k ∧ Hid (matchS fr (ts.drop i) = matchS (fr.drop k) (ts.drop (i + k))) ∧ Below W0.heap.size W0 wr) (fun _ _ _ s28 _ => fr.length - (intOf s28).toNat)
 case atStart => exact ⟨0, Nat.zero_le _, rfl, Lib.hid rfl, Below.refl _ _⟩
 case round =>
  obtain ⟨wd, hwd⟩ : ∃ wm : World, wm = wr := ⟨_, rfl⟩
  subst hwd
  obtain ⟨k, hk, rfl, hM, hcd⟩ := hrel
  have scd := hcd.size
  have qr0 := oldc hcd lr qr0
  have qr1 := oldc hcd lr qr1
  have qr2 := oldc hcd lr qr2
  have qr3 := oldc hcd lr qr3
  have qr4 := oldc hcd lr qr4
  have qt0 := oldc hcd lt qt0
  have qt1 := oldc hcd lt qt1
  have lr := Nat.lt_of_lt_of_le lr scd
  have lt := Nat.lt_of_lt_of_le lt scd
  have hBd : Below w.heap.size w wd := hBW0.trans (hcd.mono hBW0.size)
  by_cases hkl : k < fr.length
  ·have hK : (k : Int) < (fr.length : Int) := by omega
   obtain ⟨pb, poff, pk, pa, rfl, hp, c0, c1, -, -, -, -, pbl, -⟩ := (HFR.out.below hBd).stp_at hkl
   obtain ⟨xb, xoff, xk, xa, rfl, hx, d0, d1, -, -, -, -, xbl, -⟩ := (HB.out.below hBd).stp_at (i := i + k) (show i + k < L by omega)
   have hikl : ((i + k : Nat) : Int) < (L : Int) := Int.ofNat_lt.2 (show i + k < L by omega)
   have hik0 : ((i : Int) + (k : Int)) = ((i + k : Nat) : Int) := by omega
   have HMS := Lib.hid (matchS_step hp.out hx.out)
   clear hp hx
   obtain ⟨ik, hike⟩ : ∃ ik : Nat, ik = i + k := ⟨_, rfl⟩
   rw [← hike] at hikl hik0 d0 d1
   have HIK := Lib.hid hike
   clear hike
   dsimp only at HMS
   by_cases g1 : xk = pk
   rotate_left
   ·have e1 : (xk != pk) = true := by simpa using g1
    have e1' : (pk != xk) = true := by simpa using Ne.symm g1
    have HF := Lib.hid (show R = false by rw [HRR.out, hM.out, HMS.out, decide_eq_false g1]; simp)
    clear HRR HMS hM g1 HFR HB HT HK
    go_wp2
    go_ret
    exact ⟨ret_bool HF.out.symm, bwT⟩
   have e1 : (xk != pk) = false := by simpa using g1
   have e1' : (pk != xk) = false := by simpa using g1.symm
   by_cases g2 : pa = 0 ∨ pa = xa
   rotate_left
   ·have e2 : (pa != 0) = true := by simp; omega
    have e3 : (pa != xa) = true := by simp; omega
    have HF := Lib.hid (show R = false by rw [HRR.out, hM.out, HMS.out, decide_eq_false g2]; simp)
    clear HRR HMS hM g1 g2 HFR HB HT HK
    go_wp2
    go_ret
    exact ⟨ret_bool HF.out.symm, bwT⟩
   have HN := Lib.hid (show matchS fr (ts.drop i) = matchS (fr.drop (k + 1)) (ts.drop (i + (k + 1))) by rw [hM.out, HMS.out, decide_eq_true g1, decide_eq_true g2]; rfl)
   clear HMS hM g1
   by_cases g3 : pa = 0
   ·have e2 : (pa != 0) = false := by simp [g3]
    clear g2 g3
    go_wp2
    go_roundw
    case rel => exact ⟨k + 1, by omega, by go_num, HN, bwT⟩
    case measure => simp [intOf]; omega
   ·have e2 : (pa != 0) = true := by simpa using g3
    have e3 : (pa != xa) = false := by rcases g2 with g | g; exact absurd g g3; simp [g]
    clear g2 g3
    go_wp2
    go_roundw
    case rel => exact ⟨k + 1, by omega, by go_num, HN, bwT⟩
    case measure => simp [intOf]; omega
  ·have hK : ¬ (k : Int) < (fr.length : Int) := by omega
   have HMT := Lib.hid (show matchS fr (ts.drop i) = true by rw [hM.out]; exact matchS_end (by omega))
   clear hM
   have HR2 := Lib.hid (show R = (decide (sx = 0 ∨ sx = sexAt (e, ts) i) && (decide (pl = 1 → i = 0) && decide (pl = 2 → i + fr.length = L))) by rw [HRR.out, HMT.out, decide_eq_true hfit]; rfl)
   clear HRR HMT HFR HB
   obtain ⟨x, hlet_x⟩ : ∃ r, r = sexAt (e, ts) i := ⟨_, rfl⟩
   have HSX := Lib.hid hlet_x
   clear hlet_x
   obtain ⟨bs, hlet_bs⟩ : ∃ r, r = decide (sx = 0 ∨ sx = x) := ⟨_, rfl⟩
   have HBS := Lib.hid hlet_bs
   clear hlet_bs
   go_upto_region 11 with fail
   go_cut [68] (fun s68 wx => s68 = .bool (!bs) ∧ wx.cell? ⟨w.heap.size, 0, none⟩ = some (.string nm) ∧ wx.cell? ⟨w.heap.size, 1, none⟩ = some (.int .i64 sx) ∧ wx.cell? ⟨w.heap.size, 2, none⟩ = some (.int .i64 pl) ∧ wx.cell? ⟨w.heap.size, 3, none⟩ = some (.slice fao fr.length fcap) ∧ wx.cell? ⟨w.heap.size, 4, none⟩ = some (.slice tao tn tcap) ∧ wx.cell? ⟨w.heap.size + 1, 0, none⟩ = some (.int .i64 e) ∧ wx.cell? ⟨w.heap.size + 1, 1, none⟩ = some (.slice sao L scap) ∧ Below wd.heap.size wd wx)
   case first =>
    clear HR2
    by_cases h0 : sx = 0
    ·have e1 : (sx != 0) = false := by simp [h0]
     have eb : bs = true := by rw [HBS.out]; exact decide_eq_true (.inl h0)
     clear HBS HSX h0
     go_upto_region 11 with fail
     refine wp_region_held_drew (S := (fun w' => w'.cell? ⟨w.heap.size, 1, none⟩ = some (.int .i64 sx))) (by kernel_rfl) ?_ (fun hHeld => ?_)
     ·first | exact trivial | ((try dsimp only); go_keep)
     refine tkA 0 ?_
     try simp only [Act.put, cA, cB, cC]
     refine tkA 1 ?_
     try simp only [Act.put, cA, cB, cC]
     refine tkA 2 ?_
     try simp only [Act.put, cA, cB, cC]
     refine tkA 3 ?_
     try simp only [Act.put, cA, cB, cC]
     refine skR 4 ?_
     try simp only [Act.put, cA, cB, cC]
     refine skR 6 ?_
     try simp only [Act.put, cA, cB, cC]
     refine skR 7 ?_
     try simp only [Act.put, cA, cB, cC]
     refine skR 5 ?_
     try simp only [Act.put, cA, cB, cC]
     refine skR 8 ?_
     try simp only [Act.put, cA, cB, cC]
     refine skR 9 ?_
     try simp only [Act.put, cA, cB, cC]
     refine tkA 10 ?_
     try simp only [Act.put, cA, cB, cC]
     refine wpAnyH_done (by kernel_rfl) ?_ _
     go_wp2_with fail
     go_meet
     exact ⟨by rw [eb]; rfl, qr0, qr1, qr2, qr3, qr4, qt0, qt1, bwT⟩
    ·have e1 : (sx != 0) = true := by simpa using h0
     have eb : bs = decide (sx = x) := by rw [HBS.out]; exact decide_eq_decide.2 (by omega)
     have eb2 : (sx != x) = !bs := by rw [eb]; rfl
     have HE := Lib.hid eb2
     clear HBS eb eb2
     go_upto_region 11 with fail
     refine wp_region_held_drew (S := (fun w' => w'.cell? ⟨w.heap.size, 1, none⟩ = some (.int .i64 sx) ∧ w'.cell? ⟨w.heap.size + 1, 0, none⟩ = some (.int .i64 e) ∧ w'.cell? ⟨w.heap.size + 1, 1, none⟩ = some (.slice sao L scap))) (by kernel_rfl) ?_ (fun hHeld => ?_)
     ·first | exact trivial | ((try dsimp only); go_keep)
     refine tkA 0 ?_
     try simp only [Act.put, cA, cB, cC]
     refine tkA 1 ?_
     try simp only [Act.put, cA, cB, cC]
     refine tkA 2 ?_
     try simp only [Act.put, cA, cB, cC]
     refine tkA 3 ?_
     try simp only [Act.put, cA, cB, cC]
     refine tkA 4 ?_
     try simp only [Act.put, cA, cB, cC]
     refine tkA 6 ?_
     try simp only [Act.put, cA, cB, cC]
     refine tkA 7 ?_
     try simp only [Act.put, cA, cB, cC]
     refine tkA 5 ?_
     try simp only [Act.put, cA, cB, cC]
     refine wpAnyH_ready (rs := [8]) (by kernel_rfl) (by simp) ?_
     refine rdR (fun K hK => ?_) ?_
     ·go_simp
      refine (sexBeforeI_any _ _ _ (e, ts) (HT.out.below ?b1) HK.out i (show i < ts.length by rw [← HL.out]; exact hi0) x HSX.out).mono ?_
      case b1 => exact bwT
      rintro e5 w5 ⟨rfl, hb5⟩
      have hp5 : Below wd.heap.size wd w5 := Below.trans (show Below wd.heap.size wd _ from bwT) (hb5.mono szT)
      have hS5 := And.intro (oldc hp5 lr qr1) (And.intro (oldc hp5 lt qt0) (oldc hp5 lt qt1))
      clear hb5
      refine hK.out _ _ ?_ (fun hHeld => ?_)
      ·exact kpT
      clear hK K
      try simp only [Act.put, cA, cB, cC]
      refine tkA 9 ?_
      try simp only [Act.put, cA, cB, cC]
      refine tkA 10 ?_
      try simp only [Act.put, cA, cB, cC]
      refine wpAnyH_done (by kernel_rfl) ?_ _
      go_wp2_with fail
      go_meet
      exact ⟨by rw [HE.out], oldc hp5 lr qr0, oldc hp5 lr qr1, oldc hp5 lr qr2, oldc hp5 lr qr3, oldc hp5 lr qr4, oldc hp5 lt qt0, oldc hp5 lt qt1, bwT⟩
     exact AllReadyH.nil
   case rest =>
    clear qr0 qr1 qr2 qr3 qr4 qt0 qt1
    obtain ⟨rfl, qr0, qr1, qr2, qr3, qr4, qt0, qt1, hbX⟩ := hcut
    obtain ⟨WX, hWX⟩ : ∃ W : World, W = wc := ⟨_, rfl⟩
    subst hWX
    have hBX : Below w.heap.size w WX := hBd.trans (hbX.mono hBd.size)
    have HR3 := Lib.hid (show R = (bs && (decide (pl = 1 → i = 0) && decide (pl = 2 → i + fr.length = L))) by rw [HR2.out, HBS.out, HSX.out])
    clear HR2 HBS HSX HT HK hbX
    cases bs
    ·have HF := Lib.hid (show R = false by rw [HR3.out]; rfl)
     clear HR3
     go_wp2
     go_ret
     exact ⟨ret_bool HF.out.symm, hBX⟩
    go_wp2
    all_goals
     go_ret
     exact ⟨ret_bool (by rw [HR3.out, Bool.true_and, Bool.eq_iff_iff]; simp; omega), hBX⟩
end Go.Proofs.YtdpkldapobbnpaaGreatDoor
