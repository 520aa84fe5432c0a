/- Contracts: the results of one replacement (spec.l4Reducts, spec.ReductsOf). Written by red_gen.py. -/
import Derived.Test.YtoipdgoejichbaaTrmA
import Derived.Test.YtoipdgoejichbaaBase
import Derived.Test.YtoipdgoejichbaaRedI
namespace Go.Proofs.Ytoipdgoejichbaa
set_option linter.unusedVariables false
set_option linter.unusedSimpArgs false
open Go.RowKit

set_option maxRecDepth 20000 in
set_option maxHeartbeats 8000000 in
theorem hasS_b {z z1 : Bool} {lo hi lo1 hi1 : Nat} (w : World) (v a b : Value) (l : List Kin) (t : Kin) (h : Rd z lo hi w [v] l) (h' : Rd z1 lo1 hi1 w [a, b] t) (R : Bool) (hR : R = decide (t ∈ l)) :
    Calls Try.prog 74 #[v, .agg #[a, b]] w (PostB w R) := by
  obtain ⟨ao, n, cap, rfl, rfl, hnc, hcm, -⟩ := h.shape
  unfold maxLen at hcm
  have HT := Lib.hid h'
  have HZ := Lib.hid h
  have HR := Lib.hid hR
  obtain ⟨rfl, -, hb⟩ := h'.kin
  obtain ⟨sao, sn, scap, rfl, -⟩ := hb.shape
  clear h' hR hb
  obtain ⟨W0, hW0⟩ : ∃ W : World, W = w.alloc (.cells #[.int .i64 t.1, .slice sao sn scap] 36) := ⟨_, rfl⟩
  have hB0 : Below w.heap.size w W0 := by subst hW0; exact bwT
  have qt0 : W0.cell? ⟨w.heap.size, 0, none⟩ = some (.int .i64 t.1) := by subst hW0; simp [go_sem]
  have qt1 : W0.cell? ⟨w.heap.size, 1, none⟩ = some (.slice sao sn scap) := by subst hW0; simp [go_sem]
  have sz0 : W0.heap.size = w.heap.size + 1 := by subst hW0; simp
  go_enter Try.func74, Try.ntmps74
  go_wp2
  rw [← hW0]
  clear hW0
  go_loopw [6, 9] (fun _ s9 wr => ∃ i : Nat, i ≤ l.length ∧ s9 = .int .i64 i ∧ Hid (∀ y ∈ l.take i, t ≠ y) ∧ Below W0.heap.size W0 wr) (fun _ s9 _ => l.length - (intOf s9).toNat)
  case atStart => exact ⟨0, Nat.zero_le _, rfl, Lib.hid (by simp), Below.refl _ _⟩
  case round =>
    obtain ⟨wb, hwb⟩ : ∃ wm : World, wm = wr := ⟨_, rfl⟩
    subst hwb
    obtain ⟨i, hi1, rfl, hN, hbb⟩ := hrel
    have sbb := hbb.size
    have hBwb : Below w.heap.size w wb := hB0.trans (hbb.mono hB0.size)
    have l_t : w.heap.size < wb.heap.size := by omega
    have q_t0 := oldc hbb (by omega) qt0
    have q_t1 := oldc hbb (by omega) qt1
    by_cases hli : i < l.length
    · have hI : (i : Int) < (l.length : Int) := by omega
      obtain ⟨xb, xoff, y, yv, rfl, hy, c0, c1, -, hys, hyr, -, -, xbl⟩ := (HZ.out.below hBwb).kin_at hli
      obtain ⟨yao, yn, ycap, rfl, -⟩ := hys.shape
      have HY := Lib.hid hy.out
      have HYR := Lib.hid hyr
      obtain ⟨r1, hlet_r1⟩ : ∃ r, r = decide (t = y) := ⟨_, rfl⟩
      have H1 := Lib.hid hlet_r1
      clear hlet_r1
      clear hy hys hyr
      go_wp2_with fail
      refine (eqTypesS_b _ _ _ _ _ t y (HT.out.below ?b1) (HYR.out.below ?b2) r1 H1.out).mono ?_
      case b1 => exact bwT
      case b2 => exact bwT
      rintro e w2 ⟨rfl, hb2⟩
      have hbb2 : Below W0.heap.size W0 w2 := Below.after (show Below W0.heap.size W0 _ from bwT) hb2 (by simp; omega)
      have hB2 : Below w.heap.size w w2 := hB0.trans (hbb2.mono hB0.size)
      clear hb2 c0 c1
      cases r1
      · have HN := Lib.hid (show ∀ y ∈ l.take (i + 1), t ≠ y by
          rw [take_snoc HY.out]
          intro x hx
          rcases List.mem_append.1 hx with hx | hx
          · exact hN.out x hx
          · simp at hx; subst hx; exact of_decide_eq_false H1.out.symm)
        clear hN HY H1 HYR HR
        go_wp2
        go_roundw
        case rel => exact ⟨i + 1, by omega, by go_num, HN, hbb2⟩
        case measure => simp [intOf]; omega
      · have HF := Lib.hid (show R = true by rw [HR.out]; refine decide_eq_true ?_; have := of_decide_eq_true H1.out.symm; rw [this]; exact List.mem_of_getElem? HY.out)
        clear hN HY H1 HYR HR
        go_wp2
        go_ret
        exact ⟨ret_bool HF.out.symm, hB2⟩
    · have hI : ¬ (i : Int) < (l.length : Int) := by omega
      have HF := Lib.hid (show R = false by rw [HR.out]; refine decide_eq_false fun e => ?_; have := hN.out t (by rw [List.take_of_length_le (by omega)]; exact e); exact this rfl)
      clear hN HR
      go_wp2
      go_ret
      exact ⟨ret_bool HF.out.symm, hBwb⟩
set_option maxRecDepth 20000 in
set_option maxHeartbeats 16000000 in
theorem reductsS_any {z z1 : Bool} {lo hi lo1 hi1 : Nat} (w : World) (v a b : Value) (rs : List Rul) (t : Kin) (h : Rd z lo hi w [v] rs) (h' : Rd z1 lo1 hi1 w [a, b] t) (hr : allRules rs) (hrl : rs.length ≤ 12) (ht : isKin t = true) :
    Calls Try.prog 72 #[v, .agg #[a, b]] w (PostOw w (redL rs t)) := by
  obtain ⟨ao, n, cap, rfl, rfl, hnc, hcm, -⟩ := h.shape
  have HT := Lib.hid h'
  obtain ⟨rfl, hI, hb⟩ := h'.kin
  obtain ⟨e, ts⟩ := t
  dsimp only at hb hI
  obtain ⟨sao, sn, scap, rfl, hsn, hsc, hsm, -⟩ := hb.shape
  unfold maxLen at hcm hsm
  have HK := Lib.hid ht
  have HRS := Lib.hid hr
  have hs8 : ts.length ≤ 8 := (isKin_facts ht).2.1
  obtain ⟨L, hL⟩ : ∃ L, L = ts.length := ⟨_, rfl⟩
  subst hsn
  rw [← hL] at hs8 hsc HT ⊢
  have HL := Lib.hid hL
  have HZ := Lib.hid h
  obtain ⟨X, hX⟩ : ∃ X, X = redL rs (e, ts) := ⟨_, rfl⟩
  rw [← hX]
  have HX := Lib.hid (show X = redTo rs (e, ts) L by rw [hX, redL, hL])
  have HLEN := Lib.hid (show ∀ i, i < L → (redTo rs (e, ts) i).length ≤ 96 from fun i hi => by
    have h1 := redTo_len rs (e, ts) i
    have h2 : i * rs.length ≤ 8 * 12 := Nat.mul_le_mul (by omega) hrl
    omega)
  clear h' hr ht hI hb hL hX
  obtain ⟨W0, hW0⟩ : ∃ W : World, W = w.alloc (.cells #[.int .i64 e, .slice sao L scap] 36) := ⟨_, rfl⟩
  have hB0 : Below w.heap.size w W0 := by subst hW0; exact bwT
  have qt0 : W0.cell? ⟨w.heap.size, 0, none⟩ = some (.int .i64 e) := by subst hW0; simp [go_sem]
  have qt1 : W0.cell? ⟨w.heap.size, 1, none⟩ = some (.slice sao L scap) := by subst hW0; simp [go_sem]
  have HSZ := Lib.hid (show W0.heap.size = w.heap.size + 1 by subst hW0; simp)
  have sz0 : w.heap.size < W0.heap.size := by have := HSZ.out; omega
  have HG0 := Lib.hid (GL.lit0 (α := Kin) true W0.heap.size W0.heap.size W0 36 (Nat.le_refl _)).top
  go_enter Try.func72, Try.ntmps72
  go_wp2
  rw [← hW0]
  clear hW0
  go_loopw [5, 6, 8, 9, 14] (fun s5 _ _ _ s14 wr => ∃ i : Nat, i ≤ L ∧ s14 = .int .i64 i ∧ Hid (GL true W0.heap.size W0.heap.size wr.heap.size wr 36 s5 (redTo rs (e, ts) i)) ∧ Below W0.heap.size W0 wr) (fun _ _ _ _ s14 _ => L - (intOf s14).toNat)
  case atStart => exact ⟨0, Nat.zero_le _, rfl, Lib.hid (by rw [show w.heap.size + 1 = W0.heap.size from HSZ.out.symm]; exact HG0.out), bwT⟩
  case round =>
    obtain ⟨wb, hwb⟩ : ∃ wm : World, wm = wr := ⟨_, rfl⟩
    subst hwb
    obtain ⟨i, hi1, rfl, hG, hbb⟩ := hrel
    clear HG0
    have sbb := hbb.size
    have hBb : Below w.heap.size w wb := hB0.trans (hbb.mono hB0.size)
    have pt0 := oldc hbb (by omega) qt0
    have pt1 := oldc hbb (by omega) qt1
    by_cases hli : i < L
    · have hI : (i : Int) < (L : Int) := by omega
      have HLI := Lib.hid (HLEN.out i hli)
      go_wp2
      go_loopw [5, 8, 9, 19] (fun s5 _ _ s19 wr => ∃ k : Nat, k ≤ rs.length ∧ s19 = .int .i64 k ∧ Hid (GL true W0.heap.size W0.heap.size wr.heap.size wr 36 s5 (redIn (rs.take k) (e, ts) i (redTo rs (e, ts) i))) ∧ Below W0.heap.size W0 wr) (fun _ _ _ s19 _ => rs.length - (intOf s19).toNat)
      case atStart => exact ⟨0, Nat.zero_le _, rfl, Lib.hid hG.out, hbb⟩
      case round =>
        clear hG hbb pt0 pt1 hBb sbb
        obtain ⟨wd, hwd⟩ : ∃ wm : World, wm = wr := ⟨_, rfl⟩
        subst hwd
        obtain ⟨k, hk1, rfl, hG, hcd⟩ := hrel
        have scd := hcd.size
        have hBwd : Below w.heap.size w wd := hB0.trans (hcd.mono hB0.size)
        have mt0 := oldc hcd (by omega) qt0
        have mt1 := oldc hcd (by omega) qt1
        by_cases hlk : k < rs.length
        · have hK : (k : Int) < (rs.length : Int) := by omega
          obtain ⟨b, off, nm, sx, pl, fr, tw, vfr, vtw, rfl, hx, c0, c1, c2, c3, c4, -, -, -, hfr, htw, hri, -, -, hbl⟩ := (HZ.out.below hBwd).dRul_at hlk
          obtain ⟨fao, fn, fcap, rfl, -⟩ := hfr.shape
          obtain ⟨tao, tn, tcap, rfl, -⟩ := htw.shape
          have HX2 := Lib.hid (redIn_take (t := (e, ts)) (i := i) (out := redTo rs (e, ts) i) hx.out)
          have HRI := Lib.hid hri
          have HIR := Lib.hid (HRS.out _ (List.mem_of_getElem? hx.out))
          obtain ⟨O, hO⟩ : ∃ O, O = redIn (rs.take k) (e, ts) i (redTo rs (e, ts) i) := ⟨_, rfl⟩
          have hOl : O.length ≤ 200 := by
            rw [hO]
            have h1 := redIn_len (e, ts) i (rs.take k) (redTo rs (e, ts) i)
            have h2 := HLI.out
            have h3 : (rs.take k).length ≤ rs.length := by rw [List.length_take]; omega
            omega
          rw [← hO] at hG HX2
          have HG := Lib.hid hG.out
          obtain ⟨r1, hlet_r1⟩ : ∃ r, r = fitsB (nm, sx, pl, fr, tw) (e, ts) i := ⟨_, rfl⟩
          have HF := Lib.hid hlet_r1
          clear hlet_r1
          clear hx hfr htw hri hO hG
          obtain ⟨oao, ocap, ho5, -, -⟩ := HG.out.len
          subst ho5
          have l_t : w.heap.size < wd.heap.size := by omega
          have q_t0 := mt0
          have q_t1 := mt1
          clear mt0 mt1
          have hwd1 : Below wd.heap.size wd wd := Below.refl _ _
          have hcdx : Below W0.heap.size W0 wd := hcd
          go_wp2_with fail
          refine (fitsS_b _ _ _ _ _ _ _ _ (nm, sx, pl, fr, tw) (e, ts) (HRI.out.below bwT) (HT.out.below bwT) HIR.out HK.out i (show i < ts.length by rw [← HL.out]; exact hli) r1 HF.out).mono ?_
          rintro e1 w1 ⟨rfl, hbw1⟩
          have hpw1 : Below wd.heap.size wd w1 := Below.after bwT hbw1 szT
          have sw1 := hpw1.size
          have hBw1 : Below w.heap.size w w1 := Below.trans hBwd (Below.mono hpw1 hBwd.size)
          have q_t0 := oldc hpw1 l_t q_t0
          have q_t1 := oldc hpw1 l_t q_t1
          have l_t := Nat.lt_of_lt_of_le l_t sw1
          have l_r : wd.heap.size < w1.heap.size := by have := hbw1.size; simp at this; omega
          have q_r0 : w1.cell? ⟨wd.heap.size, 0, none⟩ = some (.string nm) := oldc hbw1 ltT (by simp [go_sem])
          have q_r1 : w1.cell? ⟨wd.heap.size, 1, none⟩ = some (.int .i64 sx) := oldc hbw1 ltT (by simp [go_sem])
          have q_r2 : w1.cell? ⟨wd.heap.size, 2, none⟩ = some (.int .i64 pl) := oldc hbw1 ltT (by simp [go_sem])
          have q_r3 : w1.cell? ⟨wd.heap.size, 3, none⟩ = some (.slice fao fn fcap) := oldc hbw1 ltT (by simp [go_sem])
          have q_r4 : w1.cell? ⟨wd.heap.size, 4, none⟩ = some (.slice tao tn tcap) := oldc hbw1 ltT (by simp [go_sem])
          have hwd1 := Below.trans hwd1 (Below.mono hpw1 (by omega))
          have hcdx := Below.trans hcdx (Below.mono hpw1 (by omega))
          clear hbw1 hpw1
          clear c0 c1 c2 c3 c4
          cases r1
          · have HN := Lib.hid (show GL true W0.heap.size W0.heap.size (w1).heap.size w1 36 (.slice oao O.length ocap) (redIn (rs.take (k + 1)) (e, ts) i (redTo rs (e, ts) i)) by
              rw [HX2.out]
              unfold redStep
              rw [if_neg (by rw [← HF.out]; decide)]
              exact (HG.out.below hwd1).top)
            clear HG HX2 HRI HIR HF hcd
            go_wp2
            go_roundw
            case rel => exact ⟨k + 1, by omega, by go_num, HN, hcdx⟩
            case measure => simp [intOf]; omega
          have HFI := Lib.hid (show i + fr.length ≤ ts.length from (fits_facts HF.out.symm).1)
          go_wp2_with fail
          refine (replS_any _ _ _ _ _ _ _ _ (nm, sx, pl, fr, tw) (e, ts) (HRI.out.below hwd1) (HT.out.below hBw1) HIR.out HK.out i HFI.out).mono ?_
          rintro e2 w2 ⟨ra, rb, rfl, hoR, hbw2⟩
          have hpw2 : Below w1.heap.size w1 w2 := Below.after bwT hbw2 szT
          have sw2 := hpw2.size
          have hBw2 : Below w.heap.size w w2 := Below.trans hBw1 (Below.mono hpw2 hBw1.size)
          have q_t0 := oldc hpw2 l_t q_t0
          have q_t1 := oldc hpw2 l_t q_t1
          have q_r0 := oldc hpw2 l_r q_r0
          have q_r1 := oldc hpw2 l_r q_r1
          have q_r2 := oldc hpw2 l_r q_r2
          have q_r3 := oldc hpw2 l_r q_r3
          have q_r4 := oldc hpw2 l_r q_r4
          have l_r := Nat.lt_of_lt_of_le l_r sw2
          have l_t := Nat.lt_of_lt_of_le l_t sw2
          have hwd1 := Below.trans hwd1 (Below.mono hpw2 (by omega))
          have hcdx := Below.trans hcdx (Below.mono hpw2 (by omega))
          clear hbw2 hpw2
          obtain ⟨rfl, -, hrb⟩ := hoR.rd.kin
          obtain ⟨rao, rn, rcap, rfl, -⟩ := hrb.shape
          clear hrb
          obtain ⟨U, hU⟩ : ∃ U, U = replT (nm, sx, pl, fr, tw) (e, ts) i := ⟨_, rfl⟩
          rw [← hU] at hoR
          have HU := Lib.hid hU
          rw [← hU]
          clear hU
          obtain ⟨r2, hlet_r2⟩ : ∃ r, r = decide (U ∈ O) := ⟨_, rfl⟩
          have H2 := Lib.hid hlet_r2
          clear hlet_r2
          go_wp2_with fail
          refine (hasS_b _ _ _ _ O U ((HG.out.below hwd1).rd (Nat.le_refl _) (Nat.le_refl _) |>.below bwT) (hoR.rd.below bwT) r2 H2.out).mono ?_
          rintro e3 w3 ⟨rfl, hbw3⟩
          have hpw3 : Below w2.heap.size w2 w3 := Below.after bwT hbw3 szT
          have sw3 := hpw3.size
          have hBw3 : Below w.heap.size w w3 := Below.trans hBw2 (Below.mono hpw3 hBw2.size)
          have q_t0 := oldc hpw3 l_t q_t0
          have q_t1 := oldc hpw3 l_t q_t1
          have q_r0 := oldc hpw3 l_r q_r0
          have q_r1 := oldc hpw3 l_r q_r1
          have q_r2 := oldc hpw3 l_r q_r2
          have q_r3 := oldc hpw3 l_r q_r3
          have q_r4 := oldc hpw3 l_r q_r4
          have l_r := Nat.lt_of_lt_of_le l_r sw3
          have l_t := Nat.lt_of_lt_of_le l_t sw3
          have l_x : w2.heap.size < w3.heap.size := by have := hbw3.size; simp at this; omega
          have q_x0 : w3.cell? ⟨w2.heap.size, 0, none⟩ = some (.int .i64 U.1) := oldc hbw3 ltT (by simp [go_sem])
          have q_x1 : w3.cell? ⟨w2.heap.size, 1, none⟩ = some (.slice rao rn rcap) := oldc hbw3 ltT (by simp [go_sem])
          have hoR := Ow.below hoR hpw3
          have hwd1 := Below.trans hwd1 (Below.mono hpw3 (by omega))
          have hcdx := Below.trans hcdx (Below.mono hpw3 (by omega))
          clear hbw3 hpw3
          cases r2
          rotate_left
          · have HN := Lib.hid (show GL true W0.heap.size W0.heap.size (w3).heap.size w3 36 (.slice oao O.length ocap) (redIn (rs.take (k + 1)) (e, ts) i (redTo rs (e, ts) i)) by
              rw [HX2.out]
              unfold redStep
              rw [if_pos HF.out.symm, ← HU.out, if_pos (of_decide_eq_true H2.out.symm)]
              exact (HG.out.below hwd1).top)
            clear HG HX2 HRI HIR HF hcd hoR H2 HU
            go_wp2
            go_roundw
            case rel => exact ⟨k + 1, by omega, by go_num, HN, hcdx⟩
            case measure => simp [intOf]; omega
          have HNE := Lib.hid (show redIn (rs.take (k + 1)) (e, ts) i (redTo rs (e, ts) i) = O ++ [U] by
            rw [HX2.out]
            unfold redStep
            rw [if_pos HF.out.symm, ← HU.out, if_neg (of_decide_eq_false H2.out.symm)])
          have HG3 := Lib.hid (HG.out.below hwd1)
          have HOR := Lib.hid hoR
          clear HG HX2 HRI HIR HF hcd hoR H2 HU
          go_wp2_with (at_builtin; refine wpList_push rfl rfl slKin (by show (0 : Nat) < 2; omega) (HG3.out.alloc _) rfl (ad := ⟨(w3).heap.size, 0, none⟩) rfl (cs := [.int .i64 U.1, .slice rao rn rcap]) (y := U) ?k4 ((HOR.out.below ?k6).it) ?k7 (.inl ?k8) (by unfold maxLen; omega) (by omega) (by simp; omega) ?_)
          case k4 =>
            intro j c hj
            match j, hj with
            | 0, hj => simp at hj; subst hj; simp [Addr.add, go_sem]
            | 1, hj => simp at hj; subst hj; simp [Addr.add, go_sem]
          case k6 => exact bwT
          case k7 => omega
          case k8 => omega
          rintro v5 w5 hG5 _ hb5
          have HN := Lib.hid (show GL true W0.heap.size W0.heap.size w5.heap.size w5 36 v5 (redIn (rs.take (k + 1)) (e, ts) i (redTo rs (e, ts) i)) by rw [HNE.out]; exact hG5)
          have hc5 : Below W0.heap.size W0 w5 := Below.trans (show Below W0.heap.size W0 _ from bwT) hb5
          clear hG5 hb5 HG3 HOR HNE
          go_wp2
          go_roundw
          case rel => exact ⟨k + 1, by omega, by go_num, HN, hc5⟩
          case measure => simp [intOf]; omega
        · have hK : ¬ (k : Int) < (rs.length : Int) := by omega
          have HN := Lib.hid (show GL true W0.heap.size W0.heap.size wd.heap.size wd 36 _ (redTo rs (e, ts) (i + 1)) by
            have e1 := hG.out
            rw [List.take_of_length_le (by omega)] at e1
            rw [redTo_succ]; exact e1)
          clear hG
          go_wp2
          go_roundw
          case rel => exact ⟨i + 1, by omega, by go_num, HN, hcd⟩
          case measure => simp [intOf]; omega
    · obtain rfl : i = L := by omega
      have hI : ¬ (i : Int) < (i : Int) := by omega
      have HOW := Lib.hid ((hG.out.ow (l0 := W0.heap.size) (Nat.le_refl _) (Nat.le_refl _)).mono hB0.size (Nat.le_refl _))
      clear hG
      go_wp2
      go_ret
      exact ⟨_, rfl, by rw [HX.out]; exact HOW.out, hBb⟩
end Go.Proofs.Ytoipdgoejichbaa
