/- Contract of spec.l4Forms: the normal forms that are reached. -/
import Derived.Test.YtoipdgoejichbaaKPut
namespace Go.Proofs.Ytoipdgoejichbaa
set_option linter.unusedVariables false
set_option linter.unusedSimpArgs false
open Go.RowKit

/-- The forms, or that too many types are met. -/
def PostNf (w : World) (R : Option (List Kin)) (e : Ending) (w' : World) : Prop :=
  Below w.heap.size w w' ∧ match R with
    | none => e = .returned (.tuple #[.slice none 0 0, .bool false])
    | some o => ∃ u, e = .returned (.tuple #[u, .bool true]) ∧ Rd false 0 w'.heap.size w' [u] (ksrt o)
theorem redL_len {rs : List Rul} {t : Kin} (hrl : rs.length ≤ 12) (ht : isKin t = true) : (redL rs t).length ≤ 96 := by
  have h1 := redTo_len rs t t.2.length
  have h2 := (isKin_facts ht).2.1
  have h3 : t.2.length * rs.length ≤ 8 * 12 := Nat.mul_le_mul h2 hrl
  unfold redL
  omega
def outK (rs : List Rul) (t : Kin) (out : List Kin) : List Kin := if redL rs t = [] then out ++ [t] else out
theorem outK_len (rs : List Rul) (t : Kin) (out : List Kin) : (outK rs t out).length ≤ out.length + 1 := by
  unfold outK
  split
  · simp
  · omega
set_option maxRecDepth 20000 in
set_option maxHeartbeats 8000000 in
theorem l4Forms_any {z z1 : Bool} {lo hi lo1 hi1 : Nat} (w : World) (v a b : Value) (rs : List Rul) (t : Kin) (h : Rd z lo hi w [v] rs) (h' : Rd z1 lo1 hi1 w [a, b] t) (hr : allRules rs) (hrl : rs.length ≤ 12) (ht : isKin t = true) (R : Option (List Kin)) (hR : R = nfB rs 500 502 0 [t] []) :
    Calls Try.prog 39 #[v, .agg #[a, b]] w (PostNf w R) := by
  have HRS := Lib.hid hr
  have HRd := Lib.hid h
  have HT := Lib.hid h'
  obtain ⟨rfl, hI, g2⟩ := h'.kin
  obtain ⟨e, ts⟩ := t
  dsimp only at g2 hI
  obtain ⟨ub, um, ucap, rfl, -⟩ := g2.shape
  obtain ⟨va, vn, vcap, rfl, -⟩ := HRd.out.shape
  have h8 : ts.length ≤ 8 := (isKin_facts ht).2.1
  have HK := Lib.hid ht
  have HR := Lib.hid hR
  have HI := Lib.hid hI
  clear h h' hr ht hR g2 hI
  go_enter Try.func39, Try.ntmps39
  go_wp2_with fail
  refine (copyTypeS_any _ _ _ (e, ts) (HT.out.below bwT) (by dsimp only; omega)).mono ?_
  rintro e1 w1 ⟨cv, rfl, hG1, hb1⟩
  have hB1 : Below w.heap.size w w1 := Below.after bwT hb1 (by simp)
  have s1 := hB1.size
  have hC1 := Lib.hid (Rd.kin_mk HI.out (hG1.rd (l0 := 0) (Nat.zero_le _) (Nat.zero_le _)))
  obtain ⟨ca, ccap, rfl, -, -⟩ := hG1.len
  dsimp only at hC1
  clear hG1 hb1
  go_wp2
  obtain ⟨w2, hw2⟩ : ∃ w2 : World, w2 = (w1.alloc (.cells #[.int .i64 e, .slice ca ts.length ccap] 36)).alloc (.cells #[] 36) := ⟨_, rfl⟩
  have hB2 : Below w1.heap.size w1 w2 := by rw [hw2]; exact bwT
  have HM := Lib.hid (show GL false w1.heap.size 0 w2.heap.size w2 36 (.slice (some ⟨w1.heap.size, 0, none⟩) 1 1) [(e, ts)] by
    rw [hw2]
    obtain ⟨fp, g1, g2⟩ := hC1.out
    exact ((GL.litK w1.heap.size w1 _ (Nat.le_refl _) ⟨fp, Rep.weak g1, g2⟩).alloc _).top)
  have HO := Lib.hid (show RdS (fun b => some b ≠ (Value.slice (some ⟨w1.heap.size, 0, none⟩) 1 1).ownBlock) w2 [.slice (some ⟨w1.heap.size + 1, 0, none⟩) 0 0] (ksrt []) by
    rw [hw2]
    have q := (GR.lit0 (α := Kin) (fun _ => False) (w1.heap.size + 1) (w1.alloc (.cells #[.int .i64 e, .slice ca ts.length ccap] 36)) 36 (by simp)).rds
    have e2 := q.mono (S' := fun b => some b ≠ (Value.slice (some ⟨w1.heap.size, 0, none⟩) 1 1).ownBlock) fun b _ h => h.elim False.elim fun h => by simp [Value.ownBlock]; omega
    rw [show (w1.alloc (.cells #[.int .i64 e, .slice ca ts.length ccap] 36)).heap.size = w1.heap.size + 1 from by simp] at e2
    exact e2)
  have s2 := hB2.size
  rw [← hw2]
  clear hw2 hC1
  go_loopw [4, 5, 6, 7, 8, 9, 11] (fun _ _ s6 s7 s8 _ _ wl => ∃ (i : Nat) (o out : List Kin), i ≤ o.length ∧ o.length ≤ 500 ∧ out.length ≤ i ∧ s8 = .int .i64 i ∧ Hid (nfB rs 500 (502 - i) i o out = R) ∧ Hid (∀ u ∈ o, isKin u = true) ∧ Hid (GL false w1.heap.size 0 wl.heap.size wl 36 s6 o) ∧ Hid (RdS (fun b => some b ≠ s6.ownBlock) wl [s7] (ksrt out)) ∧ Below w1.heap.size w1 wl) (fun _ _ _ _ s8 _ _ _ => 502 - (intOf s8).toNat)
  case atStart => exact ⟨0, [(e, ts)], [], Nat.zero_le _, by simp, Nat.zero_le _, rfl, Lib.hid HR.out.symm, Lib.hid (fun u hu => by rw [List.mem_singleton] at hu; subst hu; exact HK.out), HM, HO, hB2⟩
  case round =>
    clear HM HO hB2
    obtain ⟨wl, hwl⟩ : ∃ x : World, x = wr := ⟨_, rfl⟩
    subst hwl
    obtain ⟨i, o, out, hi, ho, hout, rfl, hgl, hok, hM, hO, hbl⟩ := hrel
    have sl := hbl.size
    obtain ⟨aom, capm, rfl, -, -⟩ := hM.out.len
    obtain ⟨aot, nt, capt, rfl, hn9, -⟩ := hO.out.rd.shape
    subst hn9
    have HLS := Lib.hid (ksrt_len out)
    have hBl : Below w.heap.size w wl := hB1.trans (hbl.mono s1)
    by_cases hlt : i < o.length
    · have hI : (i : Int) < (o.length : Int) := by omega
      obtain ⟨bi, offi, ⟨te, tl⟩, vt, rfl, hti, k0, k1, hIt, hrv, hrt, -, -, hbi⟩ := (hM.out.rd (l0 := 0) (Nat.zero_le _) (Nat.zero_le _)).kin_at hlt
      dsimp only at k0 hIt hrv hrt
      obtain ⟨ta, tn, tcap, rfl, htn, -⟩ := hrv.shape
      subst htn
      have HTI := Lib.hid hti.out
      have HRT := Lib.hid hrt
      have HKT := Lib.hid (hok.out _ (List.mem_of_getElem? hti.out))
      have htl : tl.length ≤ 8 := (isKin_facts HKT.out).2.1
      have HIT := Lib.hid hIt
      clear hti hrv hrt hIt
      go_wp2_with fail
      refine (reductsS_any _ _ _ _ rs (te, tl) (HRd.out.below hBl) HRT.out HRS.out hrl HKT.out).mono ?_
      obtain ⟨N, hN⟩ : ∃ N, N = redL rs (te, tl) := ⟨_, rfl⟩
      rw [← hN]
      rintro e4 w4 ⟨u4, rfl, ho4, hb4⟩
      obtain ⟨a4, n4, cap4, rfl, hn4, -⟩ := ho4.rd.shape
      subst hn4
      have HN := Lib.hid hN
      have hNl : N.length ≤ 96 := by rw [hN]; exact redL_len hrl HKT.out
      have HNK := Lib.hid (show ∀ u ∈ N, isKin u = true by rw [hN]; exact redL_kin HRS.out HKT.out)
      have HOB := Lib.hid (show ∀ g, (Value.slice (some ⟨bi, offi, none⟩) o.length capm).ownBlock = some g → g < wl.heap.size from by
        obtain ⟨_, _, _, _, _, h9, _⟩ := hM.out
        exact h9)
      have HN4 := Lib.hid (ho4.rd.rds (S := fun b => some b ≠ (Value.slice (some ⟨bi, offi, none⟩) o.length capm).ownBlock) fun b h1 h2 e => by have := HOB.out b e.symm; omega)
      have HM4 := Lib.hid (hM.out.below hb4).top
      have HO4 := Lib.hid (hO.out.below hb4)
      have hb4c : Below w1.heap.size w1 w4 := hbl.trans (hb4.mono sl)
      have s4 := hb4.size
      have HRT4 := Lib.hid (HRT.out.below hb4)
      have k0 := oldc hb4 hbi k0
      have k1 := oldc hb4 hbi k1
      clear ho4 hN hM hO hb4 HRT
      go_upto_if 30 with fail
      go_cut [7] (fun s7 wx => Hid (RdS (fun b => some b ≠ (Value.slice (some ⟨bi, offi, none⟩) o.length capm).ownBlock) wx [s7] (ksrt (outK rs (te, tl) out))) ∧ Below w4.heap.size w4 wx)
      case first =>
        by_cases hN0 : N = []
        · have hn0 : (N.length : Int) = 0 := by rw [hN0]; rfl
          have HE := Lib.hid (show ksrt (outK rs (te, tl) out) = kins (te, tl) (ksrt out) by unfold outK; rw [← HN.out, if_pos hN0, ksrt_snoc])
          clear hN0 HN4 HM4
          go_wp2_with fail
          refine (copyTypeS_any _ _ _ (te, tl) HRT4.out (by dsimp only; omega)).mono ?_
          rintro e5 w5 ⟨cv5, rfl, hG5, hb5⟩
          have s5 := hb5.size
          have HC5 := Lib.hid ((Rd.kin_mk HIT.out (hG5.rd (l0 := w4.heap.size) (Nat.le_refl _) (Nat.le_refl _))).rds (S := fun b => some b ≠ (Value.slice (some ⟨bi, offi, none⟩) o.length capm).ownBlock) fun b h1 h2 e => by have := HOB.out b e.symm; omega)
          obtain ⟨c5, ccap5, rfl, -, -⟩ := hG5.len
          dsimp only at HC5
          have HO5 := Lib.hid (HO4.out.below hb5)
          clear hG5
          go_wp2_with fail
          refine (l4Put_any _ _ _ _ _ (ksrt out) (te, tl) HO5.out HC5.out (by rw [ksrt_len]; omega)).mono ?_
          rintro e6 w6 ⟨u6, rfl, hr6, hb6⟩
          have hp6 : Below w4.heap.size w4 w6 := hb5.trans (hb6.mono s5)
          have HO6 := Lib.hid (hr6.mono (S' := fun b => some b ≠ (Value.slice (some ⟨bi, offi, none⟩) o.length capm).ownBlock) fun b _ h => h.elim id fun h e => by have := HOB.out b e.symm; omega)
          clear hr6 hb6 hb5
          go_wp2_with fail
          go_meet
          exact ⟨by rw [HE.out]; exact HO6, hp6⟩
        · have hn0 : ¬ (N.length : Int) = 0 := by
            intro h
            exact hN0 (List.length_eq_zero_iff.1 (by omega))
          have HE := Lib.hid (show ksrt (outK rs (te, tl) out) = ksrt out by unfold outK; rw [← HN.out, if_neg hN0])
          clear hN0 HN4 HM4
          go_wp2_with fail
          go_meet
          exact ⟨by rw [HE.out]; exact HO4, Below.refl _ _⟩
      case rest =>
        obtain ⟨hO6, hb6⟩ := hcut
        obtain ⟨w6, hw6⟩ : ∃ W : World, W = wc := ⟨_, rfl⟩
        subst hw6
        have s6 := hb6.size
        obtain ⟨ax, nx, capx, rfl, hnx, -⟩ := hO6.out.rd.shape
        subst hnx
        have hb6c : Below w1.heap.size w1 w6 := hb4c.trans (hb6.mono (by omega))
        have HN6 := Lib.hid (HN4.out.below hb6)
        have HM6 := Lib.hid (HM4.out.below hb6).top
        have HOL := Lib.hid (outK_len rs (te, tl) out)
        obtain ⟨OUT, hOUT⟩ : ∃ OUT, OUT = outK rs (te, tl) out := ⟨_, rfl⟩
        rw [← hOUT] at hO6 HOL
        have HOUT := Lib.hid hOUT
        clear hOUT HN4 HM4 HO4 hb6 HRT4 k0 k1
        rw [← HOUT.out]
        go_wp2
        go_loopw [6, 11, 40] (fun s6 _ s40 wi => ∃ j : Nat, j ≤ N.length ∧ s40 = .int .i64 j ∧ Hid (GL false w1.heap.size 0 wi.heap.size wi 36 s6 (nAll o (N.take j))) ∧ Hid (RdS (fun b => some b ≠ s6.ownBlock) wi [.slice ax (ksrt OUT).length capx] (ksrt OUT)) ∧ Hid (RdS (fun b => some b ≠ s6.ownBlock) wi [.slice a4 N.length cap4] N) ∧ Below w1.heap.size w1 wi) (fun _ _ s40 _ => N.length - (intOf s40).toNat)
        case atStart => exact ⟨0, Nat.zero_le _, rfl, HM6, hO6, HN6, hb6c⟩
        case round =>
          clear HM6 hO6 HN6
          obtain ⟨wi, hwi⟩ : ∃ x : World, x = wr := ⟨_, rfl⟩
          subst hwi
          obtain ⟨j, hj, rfl, hM, hO, hNN, hbi2⟩ := hrel
          have si := hbi2.size
          have HLJ := Lib.hid (nAll_len (N.take j) o)
          obtain ⟨O, hOd⟩ : ∃ O, O = nAll o (N.take j) := ⟨_, rfl⟩
          have HOD := Lib.hid hOd
          have hOl : O.length ≤ 596 := by have := HLJ.out.2; rw [← hOd, List.length_take] at this; omega
          rw [← hOd] at hM
          clear hOd HLJ
          obtain ⟨aon, capn, rfl, -, -⟩ := hM.out.len
          by_cases hlj : j < N.length
          · have hJ : (j : Int) < (N.length : Int) := by omega
            obtain ⟨bn, offn, ⟨ue, ul⟩, vu, rfl, hu, m0, m1, hRu, hbn⟩ := hNN.out.kin_at hlj
            obtain ⟨-, hRv⟩ := hRu.kin2
            dsimp only at m0 hRu hRv
            obtain ⟨ua, un, ucap2, rfl, -⟩ := hRv.rd.shape
            have HU := Lib.hid hu.out
            have HRU := Lib.hid hRu
            have HST := Lib.hid (show nAll o (N.take (j + 1)) = nAdd O (ue, ul) by rw [nAll_step hu.out, HOD.out])
            obtain ⟨r, hr⟩ : ∃ r, r = decide ((ue, ul) ∈ O) := ⟨_, rfl⟩
            have HRR := Lib.hid hr
            obtain ⟨WA, hWA⟩ : ∃ W : World, W = wi.alloc (.cells #[.int .i64 ue, .slice ua un ucap2] 36) := ⟨_, rfl⟩
            have hbA : Below wi.heap.size wi WA := by rw [hWA]; exact (Below.refl _ _).alloc (Nat.le_refl _) _
            have x0 : WA.cell? ⟨wi.heap.size, 0, none⟩ = some (.int .i64 ue) := by rw [hWA]; simp [go_sem]
            have x1 : WA.cell? ⟨wi.heap.size, 1, none⟩ = some (.slice ua un ucap2) := by rw [hWA]; simp [go_sem]
            have lA : wi.heap.size < WA.heap.size := by rw [hWA]; simp
            clear hu hRu hRv hr
            go_upto_region 12 with fail
            rw [← hWA]
            clear hWA m0 m1
            go_wp2_with fail
            refine (hasS_b _ _ _ _ O (ue, ul) ((hM.out.rd (l0 := 0) (Nat.zero_le _) (Nat.zero_le _)).below hbA) (HRU.out.rd.below hbA) r HRR.out).mono ?_
            rintro e7 w7 ⟨rfl, hb7⟩
            have hb7i : Below wi.heap.size wi w7 := hbA.trans (hb7.mono (by omega))
            have x0 := oldc hb7 lA x0
            have x1 := oldc hb7 lA x1
            have s7 := hb7i.size
            have hb7c : Below w1.heap.size w1 w7 := hbi2.trans (hb7i.mono si)
            have HM7 := Lib.hid (hM.out.below hb7i).top
            have HO7 := Lib.hid (hO.out.below hb7i)
            have HN7 := Lib.hid (hNN.out.below hb7i)
            have HU7 := Lib.hid (HRU.out.below hb7i)
            clear hM hO hNN hb7 HRU hbA
            cases r
            · have HE := Lib.hid (show O ++ [(ue, ul)] = nAll o (N.take (j + 1)) by rw [HST.out]; unfold nAdd; rw [if_neg (of_decide_eq_false HRR.out.symm)])
              go_wp2_with (at_builtin; refine wpList_push_s rfl rfl slKin (by show (0 : Nat) < 2; omega) (HM7.out.alloc _) rfl (ad := ⟨w7.heap.size, 0, none⟩) rfl (cs := [.int .i64 ue, .slice ua un ucap2]) (y := ((ue, ul) : Kin)) (cells_newK w7 _ _ _) (HU7.out.below bwT) (by unfold maxLen; omega) (by omega) (by simp; omega) ?_)
              intro v8 w8 hG8 hgb8 hb8 hv8
              rw [HE.out] at hG8
              have HG8 := Lib.hid hG8
              have hkb : ∀ k, k < w7.heap.size → some k ≠ (Value.slice aon O.length capn).ownBlock → w8.heap[k]? = w7.heap[k]? := fun k h1 h2 => (hgb8.block k (by simp; omega) h2).trans (Below.heap_alloc w7 _ k h1)
              have hne : ∀ k, k < w7.heap.size → some k ≠ (Value.slice aon O.length capn).ownBlock → some k ≠ v8.ownBlock := fun k h1 h2 e => by
                rcases hv8 with h | h
                · exact h2 (e.trans h)
                · rw [h] at e; simp at e; omega
              have HO8 := Lib.hid (((HO7.out.mono (S' := fun k => some k ≠ (Value.slice aon O.length capn).ownBlock ∧ some k ≠ v8.ownBlock) fun k h1 h2 => ⟨h2, hne k h1 h2⟩).keep fun k h1 h2 => hkb k h1 h2.1).mono (S' := fun k => some k ≠ v8.ownBlock) fun _ _ h => h.2)
              have HN8 := Lib.hid (((HN7.out.mono (S' := fun k => some k ≠ (Value.slice aon O.length capn).ownBlock ∧ some k ≠ v8.ownBlock) fun k h1 h2 => ⟨h2, hne k h1 h2⟩).keep fun k h1 h2 => hkb k h1 h2.1).mono (S' := fun k => some k ≠ v8.ownBlock) fun _ _ h => h.2)
              have hB8 : Below w1.heap.size w1 w8 := Below.trans (show Below w1.heap.size w1 _ from bwT) hb8
              clear hgb8 hb8 hv8 hkb hne HM7 HO7 HN7 HU7 hG8
              go_wp2
              go_roundw
              case rel => exact ⟨j + 1, by omega, by go_num, HG8, HO8, HN8, hB8⟩
              case measure => simp [intOf]; omega
            · have HE := Lib.hid (show O = nAll o (N.take (j + 1)) by rw [HST.out]; unfold nAdd; rw [if_pos (of_decide_eq_true HRR.out.symm)])
              go_wp2
              go_roundw
              case rel => exact ⟨j + 1, by omega, by go_num, Lib.hid (by rw [← HE.out]; exact HM7.out), HO7, HN7, hb7c⟩
              case measure => simp [intOf]; omega
          · obtain rfl : j = N.length := by omega
            have hJ : ¬ (N.length : Int) < (N.length : Int) := by omega
            have HOE := Lib.hid (show O = nAll o N by have := HOD.out; rwa [List.take_length] at this)
            have hOlo : o.length ≤ O.length := by rw [HOE.out]; exact (nAll_len N o).1
            have hBi : Below w.heap.size w wi := hB1.trans (hbi2.mono s1)
            clear HOD hNN
            by_cases hbig : 500 < O.length
            · have hbI : (500 : Int) < (O.length : Int) := by omega
              have HRn := Lib.hid (show R = none by
                rw [← hgl.out]
                obtain ⟨f, hf⟩ : ∃ f, 502 - i = f + 1 := ⟨501 - i, by omega⟩
                rw [hf]
                refine nfB_big HTI.out ?_
                rw [← HN.out, ← HOE.out]; exact hbig)
              clear hgl hM hO hok
              go_wp2
              go_ret2
              exact ⟨hBi, by rw [HRn.out]; exact rfl⟩
            · have hbI : ¬ (500 : Int) < (O.length : Int) := by omega
              have HGL := Lib.hid (show nfB rs 500 (502 - (i + 1)) (i + 1) O OUT = R by
                rw [← hgl.out]
                obtain ⟨f, hf⟩ : ∃ f, 502 - i = f + 1 := ⟨501 - i, by omega⟩
                rw [hf, show 502 - (i + 1) = f by omega]
                refine (Eq.trans (nfB_go HTI.out ?_) ?_).symm
                · rw [← HN.out, ← HOE.out]; exact hbig
                · rw [HOUT.out, HOE.out, HN.out]; rfl)
              have HOKN := Lib.hid (show ∀ u ∈ O, isKin u = true by
                rw [HOE.out]
                intro u hu
                rcases nAll_mem.1 hu with h | h
                · exact hok.out u h
                · exact HNK.out u h)
              have hlo2 := HOL.out
              clear hgl hok
              go_wp2
              go_roundw
              case rel => exact ⟨i + 1, O, OUT, by omega, by omega, by omega, by go_num, HGL, HOKN, hM, hO, hbi2⟩
              case measure => simp [intOf]; omega
    · obtain rfl : i = o.length := by omega
      have nI : ¬ (o.length : Int) < (o.length : Int) := by omega
      have HRs := Lib.hid (show R = some out by
        rw [← hgl.out]
        obtain ⟨f, hf⟩ : ∃ f, 502 - o.length = f + 1 := ⟨501 - o.length, by omega⟩
        rw [hf]
        exact nfB_end (List.getElem?_eq_none (Nat.le_refl _)))
      clear hgl hM hok
      go_wp2
      go_ret2
      refine ⟨hBl, ?_⟩
      rw [HRs.out]
      exact ⟨_, rfl, hO.out.rd⟩
end Go.Proofs.Ytoipdgoejichbaa
