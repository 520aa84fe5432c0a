/- The walk of the law FnRules. -/
import Derived.Test.YtlfpnncjdoaelaaRLaw
namespace Go.Proofs.Ytlfpnncjdoaelaa
set_option linter.unusedVariables false
set_option linter.unusedSimpArgs false
open Go.RowKit

theorem GL.lone2 {α : Type} [FlatRep α] {w' : World} (nd : Bool) (K : Nat) (w : World) (E : TypeId) (cs : List Value) (x : α) (hr : Rep.rep nd w' cs x []) (hK : K ≤ w.heap.size) : GL nd K K (w.heap.size + 1) (w.alloc (.cells cs.toArray E)) E (.slice (some ⟨w.heap.size, 0, none⟩) 1 1) [x] :=
  ⟨[cs], [[]], ⟨by simp [Rep.len hr], .inr ⟨w.heap.size, 1, cs.toArray, rfl, hK, heap_alloc_new w _, Nat.le_refl _, by simp [maxLen], by simp [Rep.len hr], by simp [← Rep.len hr]⟩⟩, ⟨(FlatRep.flat hr).2 _ _, trivial⟩, by simp, by simp [Value.ownBlock], fun _ => by simp⟩
theorem good_parts {r : Rul} (h : goodB r = true) : isRule r = true ∧ some r = ruleI (ruleTxt r).data.toList := by
  simp only [goodB, Bool.and_eq_true, decide_eq_true_eq] at h
  exact ⟨h.1, h.2.symm⟩
theorem join_form {t : Kin} (h0 : t.1 ≠ 0) (hj : joinV t (0, [(2, 0)]) = true) : joinX t (0, [(2, 0)]) = (t.1, t.2 ++ [(2, 0)]) ∧ isKin (t.1, t.2 ++ [((2 : Int), (0 : Int))]) = true := by
  have hk : joinK t (0, [(2, 0)]) = (t.1, t.2 ++ [(2, 0)]) := by
    unfold joinK
    rw [if_neg (fun h => h0 h.1)]
  refine ⟨by rw [joinX, if_pos hj, hk], ?_⟩
  unfold joinV at hj
  rw [hk] at hj
  simp only [Bool.and_eq_true] at hj
  exact hj.2
set_option maxRecDepth 20000 in
set_option maxHeartbeats 40000000 in
theorem walk_FnRules (w : World) (c0a : Value) (code : List UInt8) (h0 : Rd false 0 w.heap.size w [c0a] code) (m : Int) (hm : w.cell? ⟨0, 0, none⟩ = some (.int .i64 m)) (hgl : 0 < w.heap.size) :
    Calls Try.prog 5 #[c0a] w (PostB w true) := by
  obtain ⟨ao0, len0, cap0, hcs0, hln0, hcn0, hcm0, -⟩ := h0.shape
  subst hcs0
  subst hln0
  unfold maxLen at hcm0
  have hle0 : code.length ≤ 9223372036854775807 := by omega
  clear hcm0 hcn0
  by_cases hg0 : 1048576 < code.length
  · go_enter Try.func5, Try.ntmps5
    go_wp2
    go_ret
    exact ⟨rfl, bwT⟩
  have hq1 : code.length ≤ 1048576 := by omega
  go_enter Try.func5, Try.ntmps5
  go_wp2_with fail
  refine (makeRules_any _ _ code (h0.below bwT) hq1).mono ?_
  rintro e1 w1 ⟨rv, rs, rfl, hor, hgd, hbw1⟩
  have hpw1 : Below w.heap.size w w1 := Below.after bwT hbw1 szT
  have sw1 := hpw1.size
  have hBw1 : Below w.heap.size w w1 := hpw1
  clear hbw1 hpw1
  obtain ⟨rao, rn, rcap, rfl, hrn, -⟩ := hor.rd.shape
  subst hrn
  have HGD := Lib.hid hgd.out.1
  have hrl : rs.length ≤ 12 := hgd.out.2.1
  clear hgd
  obtain ⟨W1, hW1⟩ : ∃ W : World, W = w1 := ⟨_, rfl⟩
  subst hW1
  have hB1 : Below w.heap.size w W1 := hBw1
  have HRS := Lib.hid hor.rd
  have HH0 := Lib.hid h0
  clear hor h0
  go_wp2
  go_loopw [4, 6, 7, 8, 23] (fun s4 _ _ _ s23 wr => ∃ i : Nat, i ≤ rs.length ∧ s23 = .int .i64 i ∧ Hid (GL true W1.heap.size W1.heap.size wr.heap.size wr 37 s4 (rs.take i)) ∧ Below W1.heap.size W1 wr) (fun _ _ _ _ s23 _ => rs.length - (intOf s23).toNat)
  case atStart => exact ⟨0, Nat.zero_le _, rfl, Lib.hid (GL.lit0 _ _ _ _ _ (Nat.le_refl _)).top, (Below.refl _ _).alloc (Nat.le_refl _) _⟩
  case round =>
    obtain ⟨wb, hwb⟩ : ∃ wm : World, wm = wr := ⟨_, rfl⟩
    subst hwb
    obtain ⟨i, hi, rfl, hG, hbb⟩ := hrel
    have sB := hbb.size
    have hBw : Below w.heap.size w wb := hB1.trans (hbb.mono hB1.size)
    have sW := hBw.size
    by_cases hlt : i < rs.length
    · have hI : (i : Int) < (rs.length : Int) := by omega
      obtain ⟨b, off, nm, sx, pl, fr, tw, vfr, vtw, rfl, hx, c0, c1, c2, c3, c4, -, -, -, hfr, htw, hri, -, -, hbl⟩ := (HRS.out.below hbb).dRul_at hlt
      obtain ⟨fao, fn, fcap, rfl, -⟩ := hfr.shape
      obtain ⟨tao, tn, tcap, rfl, -⟩ := htw.shape
      have hgp := good_parts (HGD.out _ (List.mem_of_getElem? hx.out))
      have HE := Lib.hid (take_snoc hx.out)
      obtain ⟨KT, hKT⟩ : ∃ KT, KT = ruleTxt ((nm, sx, pl, fr, tw) : Rul) := ⟨_, rfl⟩
      have hks : KT.size ≤ 40 := by rw [hKT]; exact ruleTxt_size _
      have HK := Lib.hid hKT
      have HO := Lib.hid (show some ((nm, sx, pl, fr, tw) : Rul) = ruleI KT.data.toList by rw [hKT]; exact hgp.2)
      have HR := Lib.hid hri
      obtain ⟨P, hP⟩ : ∃ P, P = rs.take i := ⟨_, rfl⟩
      rw [← hP] at HE hG
      have hPl : P.length ≤ 12 := by rw [hP, List.length_take]; omega
      obtain ⟨eao, ecap, rfl, -, -⟩ := hG.out.len
      clear hx hfr htw hri hgp hKT hP
      go_wp2_with fail
      refine (formatRuleI_x _ _ _ _ _ _ (nm, sx, pl, fr, tw) (HR.out.below bwT) KT HK.out).mono ?_
      rintro e2 w2 ⟨rfl, hb2⟩
      have hp2 : Below wb.heap.size wb w2 := Below.trans (show Below wb.heap.size wb _ from bwT) (hb2.mono (by simp))
      have s2 := hp2.size
      clear hb2
      go_wp2_with fail
      refine (parseRuleI_any _ m (oldc (hBw.trans (hp2.mono sW)) hgl hm) (by omega) KT (by omega) (some ((nm, sx, pl, fr, tw) : Rul)) HO.out).mono ?_
      rintro e3 w3 ⟨x0, x1, x2, x3, x4, rfl, hox, hb3⟩
      have hox : Ow w2.heap.size w3.heap.size w3 [x0, x1, x2, x3, x4] ((nm, sx, pl, fr, tw) : Rul) := hox
      obtain ⟨nm', sx', pl', fr', tw', fao', fn', fcap', tao', tn', tcap', hrr, rfl, rfl, rfl, rfl, rfl⟩ := rul_form hox
      simp only [Prod.mk.injEq] at hrr
      obtain ⟨rfl, rfl, rfl, rfl, rfl⟩ := hrr
      have s3 := hb3.size
      have hp3 : Below wb.heap.size wb w3 := hp2.trans (hb3.mono s2)
      have HOX := Lib.hid hox
      have HG3 := Lib.hid (hG.out.below hp3)
      clear hox hb3 hp2 hG HR HK HO c0 c1 c2 c3 c4
      go_wp2_with (at_builtin; refine wpList_push rfl rfl slRule (by show (0 : Nat) < 5; omega) (HG3.out.below ?b1) rfl (ad := ⟨w3.heap.size + 1, 0, none⟩) rfl (cs := [.string nm, .int .i64 sx, .int .i64 pl, .slice fao' fn' fcap', .slice tao' tn' tcap']) (y := ((nm, sx, pl, fr, tw) : Rul)) (lx := w2.heap.size) (hx' := w3.heap.size) ?c1 (HOX.out.below ?b2).it (by omega) (.inl (by omega)) (by unfold maxLen; omega) (by omega) ?c2 ?_)
      case b1 => exact bwT
      case b2 => exact bwT
      case c1 =>
        intro j c hj
        match j, hj with
        | 0, hj => simp at hj; subst hj; simp [Addr.add, go_sem]
        | 1, hj => simp at hj; subst hj; simp [Addr.add, go_sem]
        | 2, hj => simp at hj; subst hj; simp [Addr.add, go_sem]
        | 3, hj => simp at hj; subst hj; simp [Addr.add, go_sem]
        | 4, hj => simp at hj; subst hj; simp [Addr.add, go_sem]
      case c2 => simp; omega
      intro v' w4 hG4 _ hb4
      have HG4 := Lib.hid (show GL true W1.heap.size W1.heap.size w4.heap.size w4 37 v' (rs.take (i + 1)) by rw [HE.out]; exact hG4)
      have hB4 : Below W1.heap.size W1 w4 := Below.trans (show Below W1.heap.size W1 _ from Below.trans (hbb.trans (hp3.mono sB)) bwT) hb4
      clear HG3 HOX hG4 hb4 HE
      go_wp2
      go_roundw
      case rel => exact ⟨i + 1, by omega, by go_num, HG4, hB4⟩
      case measure => simp [intOf]; omega
    · have hI : ¬ (i : Int) < (rs.length : Int) := by omega
      obtain rfl : i = rs.length := by omega
      have HG := Lib.hid (show GL true W1.heap.size W1.heap.size wb.heap.size wb 37 _ rs by have := hG.out; rwa [List.take_length] at this)
      clear hG
      obtain ⟨eao, ecap, rfl, -, -⟩ := HG.out.len
      have HRD := Lib.hid (HG.out.rd (l0 := 0) (Nat.zero_le _) (Nat.zero_le _))
      have HRSb := Lib.hid (HRS.out.below hbb)
      clear HG HRS hbb
      go_wp2_with fail
      refine (sameRules_t _ _ _ rs HRD.out HRSb.out).mono ?_
      rintro e2 w2 ⟨rfl, hb2⟩
      have hBw2 : Below w.heap.size w w2 := hBw.trans (hb2.mono sW)
      have HRS2 := Lib.hid (HRSb.out.below hb2)
      clear hb2 HRD HRSb
      go_wp2_with fail
      refine (fresh_any _ _ code (HH0.out.below hBw2) hq1 3 (by omega) (by omega)).mono ?_
      rintro e3 w3 ⟨fa, ys, rfl, hofa, hlfa, hb3⟩
      have hBw3 : Below w.heap.size w w3 := hBw2.trans (hb3.mono hBw2.size)
      have HRS3 := Lib.hid (HRS2.out.below hb3)
      have HYS := Lib.hid hofa.rd
      clear hb3 hofa HRS2 HH0
      go_wp2_with fail
      refine (makeType_any _ _ ys HYS.out (by omega) 6 (by omega) (by omega)).mono ?_
      rintro e4 w4 ⟨tb, t, rfl, hot, hkt, hb4⟩
      have hBw4 : Below w.heap.size w w4 := hBw3.trans (hb4.mono hBw3.size)
      have HRS4 := Lib.hid (HRS3.out.below hb4)
      obtain ⟨-, htI, hts⟩ := hot.rd.kin
      obtain ⟨tao, tn, tcap, rfl, htn, -⟩ := hts.shape
      subst htn
      have HT4 := Lib.hid hot.rd
      have HKT := Lib.hid hkt.out.1
      have ht6 : t.2.length ≤ 6 := hkt.out.2.1
      have ht0 : t.1 ≠ 0 := by rcases hkt.out.2.2 with h | h <;> rw [h] <;> decide
      have HT0 := Lib.hid ht0
      clear hb4 hot hkt hts htI HYS HRS3 ht0
      obtain ⟨V, hV⟩ : ∃ V, V = joinV t (0, [(2, 0)]) := ⟨_, rfl⟩
      obtain ⟨U, hU⟩ : ∃ U, U = joinX t (0, [(2, 0)]) := ⟨_, rfl⟩
      have HV := Lib.hid hV
      have HU := Lib.hid hU
      obtain ⟨WA, hWA⟩ : ∃ W : World, W = w4.alloc (.cells #[.int .i64 t.1, .slice tao t.2.length tcap] 42) := ⟨_, rfl⟩
      have szA : WA.heap.size = w4.heap.size + 1 := by rw [hWA]; simp
      have HLIT := Lib.hid (show Rd true (w4.heap.size + 1) (w4.heap.size + 1 + 1) (WA.alloc (.cells #[.int .i64 2, .int .i64 0] 48)) [.int .i64 0, .slice (some ⟨w4.heap.size + 1, 0, none⟩) 1 1] ((0, [(2, 0)]) : Kin) by
        have h := (GL.lone2 (α := Stp) (w' := WA) true WA.heap.size WA 48 [.int .i64 2, .int .i64 0] (2, 0) (repStp_mk (by unfold I64; omega) (by unfold I64; omega)) (Nat.le_refl _)).rd (l0 := w4.heap.size + 1) (by omega) (by omega)
        rw [szA] at h
        exact Rd.kin_mk (by unfold I64; omega) h)
      have HWA := Lib.hid hWA
      clear hV hU hWA szA
      go_wp2_with fail
      rw [← HWA.out]
      refine (joinS_any _ _ _ _ _ t (0, [(2, 0)]) (HT4.out.below ?b1) HLIT.out HKT.out (by simp) (.inl rfl)).mono ?_
      case b1 => rw [HWA.out]; exact bwT
      rw [← HV.out, ← HU.out]
      rintro e5 w5 ⟨ub, rfl, hou, hb5⟩
      rw [HWA.out] at hb5
      have s5 := hb5.size
      simp only [World.size_alloc] at s5
      have hB45 : Below w4.heap.size w4 w5 := Below.trans (show Below w4.heap.size w4 _ from bwT) (hb5.mono (by simp; omega))
      obtain ⟨-, -, hus⟩ := hou.rd.kin
      obtain ⟨uao, un, ucap, rfl, hun, -⟩ := hus.shape
      have a0 : w5.cell? ⟨w4.heap.size, 0, none⟩ = some (.int .i64 t.1) := oldc hb5 ltT (by simp [go_sem])
      have a1 : w5.cell? ⟨w4.heap.size, 1, none⟩ = some (.slice tao t.2.length tcap) := oldc hb5 ltT (by simp [go_sem])
      obtain ⟨W6, hW6⟩ : ∃ W : World, W = w5.alloc (.cells #[.int .i64 U.1, .slice uao un ucap] 42) := ⟨_, rfl⟩
      have hB56 : Below w5.heap.size w5 W6 := by rw [hW6]; exact bwT
      have sz6 : W6.heap.size = w5.heap.size + 1 := by rw [hW6]; simp
      have a0 := oldc hB56 (show w4.heap.size < _ by omega) a0
      have a1 := oldc hB56 (show w4.heap.size < _ by omega) a1
      have b0 : W6.cell? ⟨w5.heap.size, 0, none⟩ = some (.int .i64 U.1) := by rw [hW6]; simp [go_sem]
      have b1 : W6.cell? ⟨w5.heap.size, 1, none⟩ = some (.slice uao un ucap) := by rw [hW6]; simp [go_sem]
      have la : w4.heap.size < W6.heap.size := by omega
      have lb : w5.heap.size < W6.heap.size := by omega
      have hB46 : Below w4.heap.size w4 W6 := hB45.trans (hB56.mono hB45.size)
      have hBw6 : Below w.heap.size w W6 := hBw4.trans (hB46.mono hBw4.size)
      have HR6 := Lib.hid (HRS4.out.below hB46)
      have HT6 := Lib.hid (HT4.out.below hB46)
      have HU6 := Lib.hid (hou.rd.below hB56)
      clear hou hus hb5 hB45 HRS4 HT4 HLIT HWA hB56 hB46 hBw4 hBw3 hBw2 hBw hun
      go_wp2
      rw [← hW6]
      clear hW6
      go_loopw [13, 14, 57, 64] (fun _ _ s57 _ wr => ∃ i : Nat, i ≤ rs.length ∧ s57 = .int .i64 i ∧ Below W6.heap.size W6 wr) (fun _ _ s57 _ _ => rs.length - (intOf s57).toNat)
      case atStart => exact ⟨0, Nat.zero_le _, rfl, Below.refl _ _⟩
      case round =>
        obtain ⟨wb, hwb⟩ : ∃ wm : World, wm = wr := ⟨_, rfl⟩
        subst hwb
        obtain ⟨i, hi, rfl, hbb⟩ := hrel
        have sB := hbb.size
        by_cases hlt : i < rs.length
        rotate_left
        · have hI : ¬ (i : Int) < (rs.length : Int) := by omega
          go_wp2
          go_ret
          exact ⟨rfl, hBw6.trans (hbb.mono hBw6.size)⟩
        have hI : (i : Int) < (rs.length : Int) := by omega
        obtain ⟨b, off, nm, sx, pl, fr, tw, vfr, vtw, rfl, hx, c0, c1, c2, c3, c4, -, -, -, hfr, htw, hri, -, -, hbl⟩ := (HR6.out.below hbb).dRul_at hlt
        obtain ⟨fao, fn, fcap, rfl, hfn, -⟩ := hfr.shape
        have HFL := Lib.hid (show fr.length ≤ 4 from (isRule_facts (good_parts (HGD.out _ (List.mem_of_getElem? hx.out))).1).2.2.2.1.2)
        subst hfn
        obtain ⟨gao, gn, gcap, rfl, -⟩ := htw.shape
        have HIR := Lib.hid (good_parts (HGD.out _ (List.mem_of_getElem? hx.out))).1
        have HR := Lib.hid hri
        obtain ⟨W7, hW7⟩ : ∃ W : World, W = wb.alloc (.cells #[.string nm, .int .i64 sx, .int .i64 pl, .slice fao fr.length fcap, .slice gao gn gcap] 37) := ⟨_, rfl⟩
        have hB7 : Below wb.heap.size wb W7 := by rw [hW7]; exact bwT
        have sz7 : W7.heap.size = wb.heap.size + 1 := by rw [hW7]; simp
        have hB67 : Below W6.heap.size W6 W7 := hbb.trans (hB7.mono sB)
        have z0 : W7.cell? ⟨wb.heap.size, 0, none⟩ = some (.string nm) := by rw [hW7]; simp [go_sem]
        have z1 : W7.cell? ⟨wb.heap.size, 1, none⟩ = some (.int .i64 sx) := by rw [hW7]; simp [go_sem]
        have z2 : W7.cell? ⟨wb.heap.size, 2, none⟩ = some (.int .i64 pl) := by rw [hW7]; simp [go_sem]
        have z3 : W7.cell? ⟨wb.heap.size, 3, none⟩ = some (.slice fao fr.length fcap) := by rw [hW7]; simp [go_sem]
        have z4 : W7.cell? ⟨wb.heap.size, 4, none⟩ = some (.slice gao gn gcap) := by rw [hW7]; simp [go_sem]
        have lz : wb.heap.size < W7.heap.size := by omega
        have a0 := oldc hB67 la a0
        have a1 := oldc hB67 la a1
        have b0 := oldc hB67 lb b0
        have b1 := oldc hB67 lb b1
        have la : w4.heap.size < W7.heap.size := by omega
        have lb : w5.heap.size < W7.heap.size := by omega
        have HR7 := Lib.hid (HR.out.below hB7)
        have HT7 := Lib.hid (HT6.out.below hB67)
        have HU7 := Lib.hid (HU6.out.below hB67)
        clear hx hfr htw hri HR hB7
        go_upto_region 20 with fail
        rw [← hW7]
        clear hW7 c0 c1 c2 c3 c4
        go_wp2
        go_loopw [14, 64] (fun _ s64 wr => ∃ j : Nat, j ≤ t.2.length ∧ s64 = .int .i64 j ∧ Below W7.heap.size W7 wr) (fun _ s64 _ => t.2.length - (intOf s64).toNat)
        case atStart => exact ⟨0, Nat.zero_le _, rfl, Below.refl _ _⟩
        case round =>
          obtain ⟨wc0, hwc⟩ : ∃ wm : World, wm = wr := ⟨_, rfl⟩
          subst hwc
          obtain ⟨j, hj0, rfl, hcc⟩ := hrel
          have sC := hcc.size
          by_cases hj : j < t.2.length
          rotate_left
          · have hJ : ¬ (j : Int) < (t.2.length : Int) := by omega
            go_wp2
            go_roundw
            case rel => exact ⟨i + 1, by omega, by go_num, hB67.trans (hcc.mono (by omega))⟩
            case measure => simp [intOf]; omega
          have hJ : (j : Int) < (t.2.length : Int) := by omega
          have z0 := oldc hcc lz z0
          have z1 := oldc hcc lz z1
          have z2 := oldc hcc lz z2
          have z3 := oldc hcc lz z3
          have z4 := oldc hcc lz z4
          have a0 := oldc hcc la a0
          have a1 := oldc hcc la a1
          have b0 := oldc hcc lb b0
          have b1 := oldc hcc lb b1
          have lz : wb.heap.size < wc0.heap.size := by omega
          have la : w4.heap.size < wc0.heap.size := by omega
          have lb : w5.heap.size < wc0.heap.size := by omega
          have HRc := Lib.hid (HR7.out.below hcc)
          have HTc := Lib.hid (HT7.out.below hcc)
          have HUc := Lib.hid (HU7.out.below hcc)
          have hwr : IntKind.i64.wrap ((j : Int) + (fr.length : Int)) = (j : Int) + (fr.length : Int) := IntWalk.i64_in _ (by have := HFL.out; omega)
          by_cases hV : V = false
          · subst hV
            go_upto_region 23 with fail
            refine wp_region_held_drew (S := (fun w' => w'.cell? ⟨wb.heap.size, 0, none⟩ = some (.string nm) ∧ w'.cell? ⟨wb.heap.size, 1, none⟩ = some (.int .i64 sx) ∧ w'.cell? ⟨wb.heap.size, 2, none⟩ = some (.int .i64 pl) ∧ w'.cell? ⟨wb.heap.size, 3, none⟩ = some (.slice fao fr.length fcap) ∧ w'.cell? ⟨wb.heap.size, 4, none⟩ = some (.slice gao gn gcap) ∧ w'.cell? ⟨w4.heap.size, 0, none⟩ = some (.int .i64 t.1) ∧ w'.cell? ⟨w4.heap.size, 1, none⟩ = some (.slice tao t.2.length tcap) ∧ w'.cell? ⟨w5.heap.size, 0, none⟩ = some (.int .i64 U.1) ∧ w'.cell? ⟨w5.heap.size, 1, none⟩ = some (.slice uao un ucap))) (by kernel_rfl) ?_ (fun hHeld => ?_)
            · first | exact trivial | ((try dsimp only); go_keep)
            refine tkR 0 (v := ?_) ?_ ?_
            rotate_left
            · intro w hSw; (try dsimp only at hSw); go_simp <;> with_reducible rfl
            try simp only [Act.put, List.setIfInBounds_toArray, List.set_cons_zero, List.set_cons_succ]
            refine tkR 1 (v := ?_) ?_ ?_
            rotate_left
            · intro w hSw; (try dsimp only at hSw); go_simp <;> with_reducible rfl
            try simp only [Act.put, List.setIfInBounds_toArray, List.set_cons_zero, List.set_cons_succ]
            refine skR 2 ?_
            try simp only [Act.put, List.setIfInBounds_toArray, List.set_cons_zero, List.set_cons_succ]
            refine skR 3 ?_
            try simp only [Act.put, List.setIfInBounds_toArray, List.set_cons_zero, List.set_cons_succ]
            refine skR 4 ?_
            try simp only [Act.put, List.setIfInBounds_toArray, List.set_cons_zero, List.set_cons_succ]
            refine tkR 5 (v := ?_) ?_ ?_
            rotate_left
            · intro w hSw; (try dsimp only at hSw); go_simp <;> with_reducible rfl
            try simp only [Act.put, List.setIfInBounds_toArray, List.set_cons_zero, List.set_cons_succ]
            refine tkR 6 (v := ?_) ?_ ?_
            rotate_left
            · intro w hSw; (try dsimp only at hSw); go_simp <;> with_reducible rfl
            try simp only [Act.put, List.setIfInBounds_toArray, List.set_cons_zero, List.set_cons_succ]
            refine skR 7 ?_
            try simp only [Act.put, List.setIfInBounds_toArray, List.set_cons_zero, List.set_cons_succ]
            refine skR 8 ?_
            try simp only [Act.put, List.setIfInBounds_toArray, List.set_cons_zero, List.set_cons_succ]
            refine skR 9 ?_
            try simp only [Act.put, List.setIfInBounds_toArray, List.set_cons_zero, List.set_cons_succ]
            refine skR 11 ?_
            try simp only [Act.put, List.setIfInBounds_toArray, List.set_cons_zero, List.set_cons_succ]
            refine skR 12 ?_
            try simp only [Act.put, List.setIfInBounds_toArray, List.set_cons_zero, List.set_cons_succ]
            refine skR 13 ?_
            try simp only [Act.put, List.setIfInBounds_toArray, List.set_cons_zero, List.set_cons_succ]
            refine skR 10 ?_
            try simp only [Act.put, List.setIfInBounds_toArray, List.set_cons_zero, List.set_cons_succ]
            refine skR 14 ?_
            try simp only [Act.put, List.setIfInBounds_toArray, List.set_cons_zero, List.set_cons_succ]
            refine skR 15 ?_
            try simp only [Act.put, List.setIfInBounds_toArray, List.set_cons_zero, List.set_cons_succ]
            refine tkR 16 (v := ?_) ?_ ?_
            rotate_left
            · intro w hSw; (try dsimp only at hSw); go_simp <;> with_reducible rfl
            try simp only [Act.put, List.setIfInBounds_toArray, List.set_cons_zero, List.set_cons_succ]
            refine tkR 17 (v := ?_) ?_ ?_
            rotate_left
            · intro w hSw; (try dsimp only at hSw); go_simp <;> with_reducible rfl
            try simp only [Act.put, List.setIfInBounds_toArray, List.set_cons_zero, List.set_cons_succ]
            refine skR 18 ?_
            try simp only [Act.put, List.setIfInBounds_toArray, List.set_cons_zero, List.set_cons_succ]
            refine skR 19 ?_
            try simp only [Act.put, List.setIfInBounds_toArray, List.set_cons_zero, List.set_cons_succ]
            refine skR 23 ?_
            try simp only [Act.put, List.setIfInBounds_toArray, List.set_cons_zero, List.set_cons_succ]
            refine skR 20 ?_
            try simp only [Act.put, List.setIfInBounds_toArray, List.set_cons_zero, List.set_cons_succ]
            refine skR 24 ?_
            try simp only [Act.put, List.setIfInBounds_toArray, List.set_cons_zero, List.set_cons_succ]
            refine skR 21 ?_
            try simp only [Act.put, List.setIfInBounds_toArray, List.set_cons_zero, List.set_cons_succ]
            refine skR 25 ?_
            try simp only [Act.put, List.setIfInBounds_toArray, List.set_cons_zero, List.set_cons_succ]
            refine skR 22 ?_
            try simp only [Act.put, List.setIfInBounds_toArray, List.set_cons_zero, List.set_cons_succ]
            refine skR 26 ?_
            try simp only [Act.put, List.setIfInBounds_toArray, List.set_cons_zero, List.set_cons_succ]
            refine tkR 27 (v := ?_) ?_ ?_
            rotate_left
            · intro w hSw; (try dsimp only at hSw); go_simp <;> with_reducible rfl
            try simp only [Act.put, List.setIfInBounds_toArray, List.set_cons_zero, List.set_cons_succ]
            refine wpAnyH_done (by kernel_rfl) ?_ _
            go_wp2
            go_roundw
            case rel => exact ⟨j + 1, by omega, by go_num, hcc.trans (show Below W7.heap.size wc0 _ from bwT)⟩
            case measure => simp [intOf]; omega
          have hVt : V = true := by cases V; exact absurd rfl hV; rfl
          subst hVt
          clear hV
          by_cases hpl : pl = 2
          · have qpl : (pl != 2) = false := by simp [hpl]
            clear hpl
            go_upto_region 23 with fail
            refine wp_region_held_drew (S := (fun w' => w'.cell? ⟨wb.heap.size, 0, none⟩ = some (.string nm) ∧ w'.cell? ⟨wb.heap.size, 1, none⟩ = some (.int .i64 sx) ∧ w'.cell? ⟨wb.heap.size, 2, none⟩ = some (.int .i64 pl) ∧ w'.cell? ⟨wb.heap.size, 3, none⟩ = some (.slice fao fr.length fcap) ∧ w'.cell? ⟨wb.heap.size, 4, none⟩ = some (.slice gao gn gcap) ∧ w'.cell? ⟨w4.heap.size, 0, none⟩ = some (.int .i64 t.1) ∧ w'.cell? ⟨w4.heap.size, 1, none⟩ = some (.slice tao t.2.length tcap) ∧ w'.cell? ⟨w5.heap.size, 0, none⟩ = some (.int .i64 U.1) ∧ w'.cell? ⟨w5.heap.size, 1, none⟩ = some (.slice uao un ucap))) (by kernel_rfl) ?_ (fun hHeld => ?_)
            · first | exact trivial | ((try dsimp only); go_keep)
            refine tkR 0 (v := ?_) ?_ ?_
            rotate_left
            · intro w hSw; (try dsimp only at hSw); go_simp <;> with_reducible rfl
            try simp only [Act.put, List.setIfInBounds_toArray, List.set_cons_zero, List.set_cons_succ]
            refine tkR 1 (v := ?_) ?_ ?_
            rotate_left
            · intro w hSw; (try dsimp only at hSw); go_simp <;> with_reducible rfl
            try simp only [Act.put, List.setIfInBounds_toArray, List.set_cons_zero, List.set_cons_succ]
            refine tkR 2 (v := ?_) ?_ ?_
            rotate_left
            · intro w hSw; (try dsimp only at hSw); go_simp <;> with_reducible rfl
            try simp only [Act.put, List.setIfInBounds_toArray, List.set_cons_zero, List.set_cons_succ]
            refine tkR 3 (v := ?_) ?_ ?_
            rotate_left
            · intro w hSw; (try dsimp only at hSw); go_simp <;> with_reducible rfl
            try simp only [Act.put, List.setIfInBounds_toArray, List.set_cons_zero, List.set_cons_succ]
            refine tkR 4 (v := ?_) ?_ ?_
            rotate_left
            · intro w hSw; (try dsimp only at hSw); go_simp <;> with_reducible rfl
            try simp only [Act.put, List.setIfInBounds_toArray, List.set_cons_zero, List.set_cons_succ]
            refine tkR 5 (v := ?_) ?_ ?_
            rotate_left
            · intro w hSw; (try dsimp only at hSw); go_simp <;> with_reducible rfl
            try simp only [Act.put, List.setIfInBounds_toArray, List.set_cons_zero, List.set_cons_succ]
            refine tkR 6 (v := ?_) ?_ ?_
            rotate_left
            · intro w hSw; (try dsimp only at hSw); go_simp <;> with_reducible rfl
            try simp only [Act.put, List.setIfInBounds_toArray, List.set_cons_zero, List.set_cons_succ]
            refine skR 7 ?_
            try simp only [Act.put, List.setIfInBounds_toArray, List.set_cons_zero, List.set_cons_succ]
            refine skR 8 ?_
            try simp only [Act.put, List.setIfInBounds_toArray, List.set_cons_zero, List.set_cons_succ]
            refine skR 9 ?_
            try simp only [Act.put, List.setIfInBounds_toArray, List.set_cons_zero, List.set_cons_succ]
            refine skR 11 ?_
            try simp only [Act.put, List.setIfInBounds_toArray, List.set_cons_zero, List.set_cons_succ]
            refine skR 12 ?_
            try simp only [Act.put, List.setIfInBounds_toArray, List.set_cons_zero, List.set_cons_succ]
            refine skR 13 ?_
            try simp only [Act.put, List.setIfInBounds_toArray, List.set_cons_zero, List.set_cons_succ]
            refine skR 10 ?_
            try simp only [Act.put, List.setIfInBounds_toArray, List.set_cons_zero, List.set_cons_succ]
            refine skR 14 ?_
            try simp only [Act.put, List.setIfInBounds_toArray, List.set_cons_zero, List.set_cons_succ]
            refine skR 15 ?_
            try simp only [Act.put, List.setIfInBounds_toArray, List.set_cons_zero, List.set_cons_succ]
            refine tkR 16 (v := ?_) ?_ ?_
            rotate_left
            · intro w hSw; (try dsimp only at hSw); go_simp <;> with_reducible rfl
            try simp only [Act.put, List.setIfInBounds_toArray, List.set_cons_zero, List.set_cons_succ]
            refine tkR 17 (v := ?_) ?_ ?_
            rotate_left
            · intro w hSw; (try dsimp only at hSw); go_simp <;> with_reducible rfl
            try simp only [Act.put, List.setIfInBounds_toArray, List.set_cons_zero, List.set_cons_succ]
            refine skR 18 ?_
            try simp only [Act.put, List.setIfInBounds_toArray, List.set_cons_zero, List.set_cons_succ]
            refine skR 19 ?_
            try simp only [Act.put, List.setIfInBounds_toArray, List.set_cons_zero, List.set_cons_succ]
            refine skR 23 ?_
            try simp only [Act.put, List.setIfInBounds_toArray, List.set_cons_zero, List.set_cons_succ]
            refine skR 20 ?_
            try simp only [Act.put, List.setIfInBounds_toArray, List.set_cons_zero, List.set_cons_succ]
            refine skR 24 ?_
            try simp only [Act.put, List.setIfInBounds_toArray, List.set_cons_zero, List.set_cons_succ]
            refine skR 21 ?_
            try simp only [Act.put, List.setIfInBounds_toArray, List.set_cons_zero, List.set_cons_succ]
            refine skR 25 ?_
            try simp only [Act.put, List.setIfInBounds_toArray, List.set_cons_zero, List.set_cons_succ]
            refine skR 22 ?_
            try simp only [Act.put, List.setIfInBounds_toArray, List.set_cons_zero, List.set_cons_succ]
            refine skR 26 ?_
            try simp only [Act.put, List.setIfInBounds_toArray, List.set_cons_zero, List.set_cons_succ]
            refine tkR 27 (v := ?_) ?_ ?_
            rotate_left
            · intro w hSw; (try dsimp only at hSw); go_simp <;> with_reducible rfl
            try simp only [Act.put, List.setIfInBounds_toArray, List.set_cons_zero, List.set_cons_succ]
            refine wpAnyH_done (by kernel_rfl) ?_ _
            go_wp2
            go_roundw
            case rel => exact ⟨j + 1, by omega, by go_num, hcc.trans (show Below W7.heap.size wc0 _ from bwT)⟩
            case measure => simp [intOf]; omega
          have qpl : (pl != 2) = true := by simp [hpl]
          have hjf := join_form HT0.out HV.out.symm
          rw [← HU.out] at hjf
          have HKU := Lib.hid (show isKin U = true by rw [hjf.1]; exact hjf.2)
          have hju : j < U.2.length := by rw [hjf.1]; simp; omega
          obtain ⟨R1, hR1⟩ : ∃ R, R = fitsB ((nm, sx, pl, fr, tw) : Rul) t j := ⟨_, rfl⟩
          obtain ⟨R2, hR2⟩ : ∃ R, R = fitsB ((nm, sx, pl, fr, tw) : Rul) U j := ⟨_, rfl⟩
          have HSAME := Lib.hid (show R1 ≠ R2 → ¬ (j : Int) + (fr.length : Int) ≤ (t.2.length : Int) from fun hne hle => hne (by
            rw [hR1, hR2, hjf.1]
            exact (fits_same (r := ((nm, sx, pl, fr, tw) : Rul)) (m := (2, 0)) HT0.out hj (by show j + fr.length ≤ _; omega) hpl).symm))
          have HF1 := Lib.hid hR1
          have HF2 := Lib.hid hR2
          clear hR1 hR2 hjf hpl
          cases R1 <;> cases R2
          · clear HSAME
            go_upto_region 23 with fail
            refine wp_region_held_drew (S := (fun w' => w'.cell? ⟨wb.heap.size, 0, none⟩ = some (.string nm) ∧ w'.cell? ⟨wb.heap.size, 1, none⟩ = some (.int .i64 sx) ∧ w'.cell? ⟨wb.heap.size, 2, none⟩ = some (.int .i64 pl) ∧ w'.cell? ⟨wb.heap.size, 3, none⟩ = some (.slice fao fr.length fcap) ∧ w'.cell? ⟨wb.heap.size, 4, none⟩ = some (.slice gao gn gcap) ∧ w'.cell? ⟨w4.heap.size, 0, none⟩ = some (.int .i64 t.1) ∧ w'.cell? ⟨w4.heap.size, 1, none⟩ = some (.slice tao t.2.length tcap) ∧ w'.cell? ⟨w5.heap.size, 0, none⟩ = some (.int .i64 U.1) ∧ w'.cell? ⟨w5.heap.size, 1, none⟩ = some (.slice uao un ucap))) (by kernel_rfl) ?_ (fun hHeld => ?_)
            · first | exact trivial | ((try dsimp only); go_keep)
            refine tkR 0 (v := ?_) ?_ ?_
            rotate_left
            · intro w hSw; (try dsimp only at hSw); go_simp <;> with_reducible rfl
            try simp only [Act.put, List.setIfInBounds_toArray, List.set_cons_zero, List.set_cons_succ]
            refine tkR 1 (v := ?_) ?_ ?_
            rotate_left
            · intro w hSw; (try dsimp only at hSw); go_simp <;> with_reducible rfl
            try simp only [Act.put, List.setIfInBounds_toArray, List.set_cons_zero, List.set_cons_succ]
            refine tkR 2 (v := ?_) ?_ ?_
            rotate_left
            · intro w hSw; (try dsimp only at hSw); go_simp <;> with_reducible rfl
            try simp only [Act.put, List.setIfInBounds_toArray, List.set_cons_zero, List.set_cons_succ]
            refine tkR 3 (v := ?_) ?_ ?_
            rotate_left
            · intro w hSw; (try dsimp only at hSw); go_simp <;> with_reducible rfl
            try simp only [Act.put, List.setIfInBounds_toArray, List.set_cons_zero, List.set_cons_succ]
            refine tkR 4 (v := ?_) ?_ ?_
            rotate_left
            · intro w hSw; (try dsimp only at hSw); go_simp <;> with_reducible rfl
            try simp only [Act.put, List.setIfInBounds_toArray, List.set_cons_zero, List.set_cons_succ]
            refine tkR 5 (v := ?_) ?_ ?_
            rotate_left
            · intro w hSw; (try dsimp only at hSw); go_simp <;> with_reducible rfl
            try simp only [Act.put, List.setIfInBounds_toArray, List.set_cons_zero, List.set_cons_succ]
            refine tkR 6 (v := ?_) ?_ ?_
            rotate_left
            · intro w hSw; (try dsimp only at hSw); go_simp <;> with_reducible rfl
            try simp only [Act.put, List.setIfInBounds_toArray, List.set_cons_zero, List.set_cons_succ]
            refine tkR 7 (v := ?_) ?_ ?_
            rotate_left
            · intro w hSw; (try dsimp only at hSw); go_simp <;> with_reducible rfl
            try simp only [Act.put, List.setIfInBounds_toArray, List.set_cons_zero, List.set_cons_succ]
            refine tkR 8 (v := ?_) ?_ ?_
            rotate_left
            · intro w hSw; (try dsimp only at hSw); go_simp <;> with_reducible rfl
            try simp only [Act.put, List.setIfInBounds_toArray, List.set_cons_zero, List.set_cons_succ]
            refine tkR 9 (v := ?_) ?_ ?_
            rotate_left
            · intro w hSw; (try dsimp only at hSw); go_simp <;> with_reducible rfl
            try simp only [Act.put, List.setIfInBounds_toArray, List.set_cons_zero, List.set_cons_succ]
            refine tkR 11 (v := ?_) ?_ ?_
            rotate_left
            · intro w hSw; (try dsimp only at hSw); go_simp <;> with_reducible rfl
            try simp only [Act.put, List.setIfInBounds_toArray, List.set_cons_zero, List.set_cons_succ]
            refine tkR 12 (v := ?_) ?_ ?_
            rotate_left
            · intro w hSw; (try dsimp only at hSw); go_simp <;> with_reducible rfl
            try simp only [Act.put, List.setIfInBounds_toArray, List.set_cons_zero, List.set_cons_succ]
            refine tkR 13 (v := ?_) ?_ ?_
            rotate_left
            · intro w hSw; (try dsimp only at hSw); go_simp <;> with_reducible rfl
            try simp only [Act.put, List.setIfInBounds_toArray, List.set_cons_zero, List.set_cons_succ]
            refine wpAnyH_ready (rs := [10]) (by kernel_rfl) (by simp) ?_
            refine rdR (fun K hK => ?_) ?_
            · go_simp
              refine (fitsAtI_b _ _ _ _ _ _ _ _ (nm, sx, pl, fr, tw) t (HRc.out.below bwT) (HTc.out.below bwT) HIR.out HKT.out j hj false HF1.out).mono ?_
              rintro e8 w8 ⟨rfl, hb8⟩
              have hp8 : Below wc0.heap.size wc0 w8 := Below.trans (show Below wc0.heap.size wc0 _ from bwT) (hb8.mono szT)
              have s8 := hp8.size
              have hS8 := And.intro (oldc hp8 lz z0) (And.intro (oldc hp8 lz z1) (And.intro (oldc hp8 lz z2) (And.intro (oldc hp8 lz z3) (And.intro (oldc hp8 lz z4) (And.intro (oldc hp8 la a0) (And.intro (oldc hp8 la a1) (And.intro (oldc hp8 lb b0) (oldc hp8 lb b1))))))))
              clear hb8
              refine hK.out _ _ ?_ (fun hHeld => ?_)
              · exact kpT
              clear hK K
              try simp only [Act.put, List.setIfInBounds_toArray, List.set_cons_zero, List.set_cons_succ]
              refine wpAnyH_ready (rs := [14]) (by kernel_rfl) (by simp) ?_
              refine rdR (fun K hK => ?_) ?_
              · go_simp
                refine (fitsAtI_b _ _ _ _ _ _ _ _ (nm, sx, pl, fr, tw) U ((HRc.out.below hp8).below bwT) ((HUc.out.below hp8).below bwT) HIR.out HKU.out j hju false HF2.out).mono ?_
                rintro e9 w9 ⟨rfl, hb9⟩
                have hp9 : Below wc0.heap.size wc0 w9 := hp8.trans (hb9.mono s8)
                have s9 := hp9.size
                have hS9 := And.intro (oldc hp9 lz z0) (And.intro (oldc hp9 lz z1) (And.intro (oldc hp9 lz z2) (And.intro (oldc hp9 lz z3) (And.intro (oldc hp9 lz z4) (And.intro (oldc hp9 la a0) (And.intro (oldc hp9 la a1) (And.intro (oldc hp9 lb b0) (oldc hp9 lb b1))))))))
                clear hb9
                refine hK.out _ _ ?_ (fun hHeld => ?_)
                · exact kpT
                clear hK K
                try simp only [Act.put, List.setIfInBounds_toArray, List.set_cons_zero, List.set_cons_succ]
                refine tkR 15 (v := ?_) ?_ ?_
                rotate_left
                · intro w hSw; (try dsimp only at hSw); go_simp <;> with_reducible rfl
                try simp only [Act.put, List.setIfInBounds_toArray, List.set_cons_zero, List.set_cons_succ]
                refine tkR 16 (v := ?_) ?_ ?_
                rotate_left
                · intro w hSw; (try dsimp only at hSw); go_simp <;> with_reducible rfl
                try simp only [Act.put, List.setIfInBounds_toArray, List.set_cons_zero, List.set_cons_succ]
                refine tkR 17 (v := ?_) ?_ ?_
                rotate_left
                · intro w hSw; (try dsimp only at hSw); go_simp <;> with_reducible rfl
                try simp only [Act.put, List.setIfInBounds_toArray, List.set_cons_zero, List.set_cons_succ]
                refine skR 18 ?_
                try simp only [Act.put, List.setIfInBounds_toArray, List.set_cons_zero, List.set_cons_succ]
                refine skR 19 ?_
                try simp only [Act.put, List.setIfInBounds_toArray, List.set_cons_zero, List.set_cons_succ]
                refine skR 23 ?_
                try simp only [Act.put, List.setIfInBounds_toArray, List.set_cons_zero, List.set_cons_succ]
                refine skR 20 ?_
                try simp only [Act.put, List.setIfInBounds_toArray, List.set_cons_zero, List.set_cons_succ]
                refine skR 24 ?_
                try simp only [Act.put, List.setIfInBounds_toArray, List.set_cons_zero, List.set_cons_succ]
                refine skR 21 ?_
                try simp only [Act.put, List.setIfInBounds_toArray, List.set_cons_zero, List.set_cons_succ]
                refine skR 25 ?_
                try simp only [Act.put, List.setIfInBounds_toArray, List.set_cons_zero, List.set_cons_succ]
                refine skR 22 ?_
                try simp only [Act.put, List.setIfInBounds_toArray, List.set_cons_zero, List.set_cons_succ]
                refine skR 26 ?_
                try simp only [Act.put, List.setIfInBounds_toArray, List.set_cons_zero, List.set_cons_succ]
                refine tkR 27 (v := ?_) ?_ ?_
                rotate_left
                · intro w hSw; (try dsimp only at hSw); go_simp <;> with_reducible rfl
                try simp only [Act.put, List.setIfInBounds_toArray, List.set_cons_zero, List.set_cons_succ]
                refine wpAnyH_done (by kernel_rfl) ?_ _
                go_wp2
                go_roundw
                case rel => exact ⟨j + 1, by omega, by go_num, hcc.trans (hp9.mono sC)⟩
                case measure => simp [intOf]; omega
              exact AllReadyH.nil
            exact AllReadyH.nil
          · have hle := HSAME.out (by decide)
            clear HSAME
            go_upto_region 23 with fail
            refine wp_region_held_drew (S := (fun w' => w'.cell? ⟨wb.heap.size, 0, none⟩ = some (.string nm) ∧ w'.cell? ⟨wb.heap.size, 1, none⟩ = some (.int .i64 sx) ∧ w'.cell? ⟨wb.heap.size, 2, none⟩ = some (.int .i64 pl) ∧ w'.cell? ⟨wb.heap.size, 3, none⟩ = some (.slice fao fr.length fcap) ∧ w'.cell? ⟨wb.heap.size, 4, none⟩ = some (.slice gao gn gcap) ∧ w'.cell? ⟨w4.heap.size, 0, none⟩ = some (.int .i64 t.1) ∧ w'.cell? ⟨w4.heap.size, 1, none⟩ = some (.slice tao t.2.length tcap) ∧ w'.cell? ⟨w5.heap.size, 0, none⟩ = some (.int .i64 U.1) ∧ w'.cell? ⟨w5.heap.size, 1, none⟩ = some (.slice uao un ucap))) (by kernel_rfl) ?_ (fun hHeld => ?_)
            · first | exact trivial | ((try dsimp only); go_keep)
            refine tkR 0 (v := ?_) ?_ ?_
            rotate_left
            · intro w hSw; (try dsimp only at hSw); go_simp <;> with_reducible rfl
            try simp only [Act.put, List.setIfInBounds_toArray, List.set_cons_zero, List.set_cons_succ]
            refine tkR 1 (v := ?_) ?_ ?_
            rotate_left
            · intro w hSw; (try dsimp only at hSw); go_simp <;> with_reducible rfl
            try simp only [Act.put, List.setIfInBounds_toArray, List.set_cons_zero, List.set_cons_succ]
            refine tkR 2 (v := ?_) ?_ ?_
            rotate_left
            · intro w hSw; (try dsimp only at hSw); go_simp <;> with_reducible rfl
            try simp only [Act.put, List.setIfInBounds_toArray, List.set_cons_zero, List.set_cons_succ]
            refine tkR 3 (v := ?_) ?_ ?_
            rotate_left
            · intro w hSw; (try dsimp only at hSw); go_simp <;> with_reducible rfl
            try simp only [Act.put, List.setIfInBounds_toArray, List.set_cons_zero, List.set_cons_succ]
            refine tkR 4 (v := ?_) ?_ ?_
            rotate_left
            · intro w hSw; (try dsimp only at hSw); go_simp <;> with_reducible rfl
            try simp only [Act.put, List.setIfInBounds_toArray, List.set_cons_zero, List.set_cons_succ]
            refine tkR 5 (v := ?_) ?_ ?_
            rotate_left
            · intro w hSw; (try dsimp only at hSw); go_simp <;> with_reducible rfl
            try simp only [Act.put, List.setIfInBounds_toArray, List.set_cons_zero, List.set_cons_succ]
            refine tkR 6 (v := ?_) ?_ ?_
            rotate_left
            · intro w hSw; (try dsimp only at hSw); go_simp <;> with_reducible rfl
            try simp only [Act.put, List.setIfInBounds_toArray, List.set_cons_zero, List.set_cons_succ]
            refine tkR 7 (v := ?_) ?_ ?_
            rotate_left
            · intro w hSw; (try dsimp only at hSw); go_simp <;> with_reducible rfl
            try simp only [Act.put, List.setIfInBounds_toArray, List.set_cons_zero, List.set_cons_succ]
            refine tkR 8 (v := ?_) ?_ ?_
            rotate_left
            · intro w hSw; (try dsimp only at hSw); go_simp <;> with_reducible rfl
            try simp only [Act.put, List.setIfInBounds_toArray, List.set_cons_zero, List.set_cons_succ]
            refine tkR 9 (v := ?_) ?_ ?_
            rotate_left
            · intro w hSw; (try dsimp only at hSw); go_simp <;> with_reducible rfl
            try simp only [Act.put, List.setIfInBounds_toArray, List.set_cons_zero, List.set_cons_succ]
            refine tkR 11 (v := ?_) ?_ ?_
            rotate_left
            · intro w hSw; (try dsimp only at hSw); go_simp <;> with_reducible rfl
            try simp only [Act.put, List.setIfInBounds_toArray, List.set_cons_zero, List.set_cons_succ]
            refine tkR 12 (v := ?_) ?_ ?_
            rotate_left
            · intro w hSw; (try dsimp only at hSw); go_simp <;> with_reducible rfl
            try simp only [Act.put, List.setIfInBounds_toArray, List.set_cons_zero, List.set_cons_succ]
            refine tkR 13 (v := ?_) ?_ ?_
            rotate_left
            · intro w hSw; (try dsimp only at hSw); go_simp <;> with_reducible rfl
            try simp only [Act.put, List.setIfInBounds_toArray, List.set_cons_zero, List.set_cons_succ]
            refine wpAnyH_ready (rs := [10]) (by kernel_rfl) (by simp) ?_
            refine rdR (fun K hK => ?_) ?_
            · go_simp
              refine (fitsAtI_b _ _ _ _ _ _ _ _ (nm, sx, pl, fr, tw) t (HRc.out.below bwT) (HTc.out.below bwT) HIR.out HKT.out j hj false HF1.out).mono ?_
              rintro e8 w8 ⟨rfl, hb8⟩
              have hp8 : Below wc0.heap.size wc0 w8 := Below.trans (show Below wc0.heap.size wc0 _ from bwT) (hb8.mono szT)
              have s8 := hp8.size
              have hS8 := And.intro (oldc hp8 lz z0) (And.intro (oldc hp8 lz z1) (And.intro (oldc hp8 lz z2) (And.intro (oldc hp8 lz z3) (And.intro (oldc hp8 lz z4) (And.intro (oldc hp8 la a0) (And.intro (oldc hp8 la a1) (And.intro (oldc hp8 lb b0) (oldc hp8 lb b1))))))))
              clear hb8
              refine hK.out _ _ ?_ (fun hHeld => ?_)
              · exact kpT
              clear hK K
              try simp only [Act.put, List.setIfInBounds_toArray, List.set_cons_zero, List.set_cons_succ]
              refine wpAnyH_ready (rs := [14]) (by kernel_rfl) (by simp) ?_
              refine rdR (fun K hK => ?_) ?_
              · go_simp
                refine (fitsAtI_b _ _ _ _ _ _ _ _ (nm, sx, pl, fr, tw) U ((HRc.out.below hp8).below bwT) ((HUc.out.below hp8).below bwT) HIR.out HKU.out j hju true HF2.out).mono ?_
                rintro e9 w9 ⟨rfl, hb9⟩
                have hp9 : Below wc0.heap.size wc0 w9 := hp8.trans (hb9.mono s8)
                have s9 := hp9.size
                have hS9 := And.intro (oldc hp9 lz z0) (And.intro (oldc hp9 lz z1) (And.intro (oldc hp9 lz z2) (And.intro (oldc hp9 lz z3) (And.intro (oldc hp9 lz z4) (And.intro (oldc hp9 la a0) (And.intro (oldc hp9 la a1) (And.intro (oldc hp9 lb b0) (oldc hp9 lb b1))))))))
                clear hb9
                refine hK.out _ _ ?_ (fun hHeld => ?_)
                · exact kpT
                clear hK K
                try simp only [Act.put, List.setIfInBounds_toArray, List.set_cons_zero, List.set_cons_succ]
                refine tkR 15 (v := ?_) ?_ ?_
                rotate_left
                · intro w hSw; (try dsimp only at hSw); go_simp <;> with_reducible rfl
                try simp only [Act.put, List.setIfInBounds_toArray, List.set_cons_zero, List.set_cons_succ]
                refine tkR 16 (v := ?_) ?_ ?_
                rotate_left
                · intro w hSw; (try dsimp only at hSw); go_simp <;> with_reducible rfl
                try simp only [Act.put, List.setIfInBounds_toArray, List.set_cons_zero, List.set_cons_succ]
                refine tkR 17 (v := ?_) ?_ ?_
                rotate_left
                · intro w hSw; (try dsimp only at hSw); go_simp <;> with_reducible rfl
                try simp only [Act.put, List.setIfInBounds_toArray, List.set_cons_zero, List.set_cons_succ]
                refine tkR 18 (v := ?_) ?_ ?_
                rotate_left
                · intro w hSw; (try dsimp only at hSw); go_simp <;> with_reducible rfl
                try simp only [Act.put, List.setIfInBounds_toArray, List.set_cons_zero, List.set_cons_succ]
                refine tkR 19 (v := ?_) ?_ ?_
                rotate_left
                · intro w hSw; (try dsimp only at hSw); go_simp <;> with_reducible rfl
                try simp only [Act.put, List.setIfInBounds_toArray, List.set_cons_zero, List.set_cons_succ]
                refine tkR 23 (v := ?_) ?_ ?_
                rotate_left
                · intro w hSw; (try dsimp only at hSw); go_simp <;> with_reducible rfl
                try simp only [Act.put, List.setIfInBounds_toArray, List.set_cons_zero, List.set_cons_succ]
                refine tkR 20 (v := ?_) ?_ ?_
                rotate_left
                · intro w hSw; (try dsimp only at hSw); go_simp <;> with_reducible rfl
                try simp only [Act.put, List.setIfInBounds_toArray, List.set_cons_zero, List.set_cons_succ]
                refine tkR 24 (v := ?_) ?_ ?_
                rotate_left
                · intro w hSw; (try dsimp only at hSw); go_simp <;> with_reducible rfl
                try simp only [Act.put, List.setIfInBounds_toArray, List.set_cons_zero, List.set_cons_succ]
                refine tkR 21 (v := ?_) ?_ ?_
                rotate_left
                · intro w hSw; (try dsimp only at hSw); go_simp <;> with_reducible rfl
                try simp only [Act.put, List.setIfInBounds_toArray, List.set_cons_zero, List.set_cons_succ]
                refine tkR 25 (v := ?_) ?_ ?_
                rotate_left
                · intro w hSw; (try dsimp only at hSw); go_simp <;> with_reducible rfl
                try simp only [Act.put, List.setIfInBounds_toArray, List.set_cons_zero, List.set_cons_succ]
                refine tkR 22 (v := ?_) ?_ ?_
                rotate_left
                · intro w hSw; (try dsimp only at hSw); go_simp <;> with_reducible rfl
                try simp only [Act.put, List.setIfInBounds_toArray, List.set_cons_zero, List.set_cons_succ]
                refine tkR 26 (v := ?_) ?_ ?_
                rotate_left
                · intro w hSw; (try dsimp only at hSw); go_simp <;> with_reducible rfl
                try simp only [Act.put, List.setIfInBounds_toArray, List.set_cons_zero, List.set_cons_succ]
                refine tkR 27 (v := ?_) ?_ ?_
                rotate_left
                · intro w hSw; (try dsimp only at hSw); go_simp <;> with_reducible rfl
                try simp only [Act.put, List.setIfInBounds_toArray, List.set_cons_zero, List.set_cons_succ]
                refine wpAnyH_done (by kernel_rfl) ?_ _
                go_wp2
                go_roundw
                case rel => exact ⟨j + 1, by omega, by go_num, hcc.trans (hp9.mono sC)⟩
                case measure => simp [intOf]; omega
              exact AllReadyH.nil
            exact AllReadyH.nil
          · have hle := HSAME.out (by decide)
            clear HSAME
            go_upto_region 23 with fail
            refine wp_region_held_drew (S := (fun w' => w'.cell? ⟨wb.heap.size, 0, none⟩ = some (.string nm) ∧ w'.cell? ⟨wb.heap.size, 1, none⟩ = some (.int .i64 sx) ∧ w'.cell? ⟨wb.heap.size, 2, none⟩ = some (.int .i64 pl) ∧ w'.cell? ⟨wb.heap.size, 3, none⟩ = some (.slice fao fr.length fcap) ∧ w'.cell? ⟨wb.heap.size, 4, none⟩ = some (.slice gao gn gcap) ∧ w'.cell? ⟨w4.heap.size, 0, none⟩ = some (.int .i64 t.1) ∧ w'.cell? ⟨w4.heap.size, 1, none⟩ = some (.slice tao t.2.length tcap) ∧ w'.cell? ⟨w5.heap.size, 0, none⟩ = some (.int .i64 U.1) ∧ w'.cell? ⟨w5.heap.size, 1, none⟩ = some (.slice uao un ucap))) (by kernel_rfl) ?_ (fun hHeld => ?_)
            · first | exact trivial | ((try dsimp only); go_keep)
            refine tkR 0 (v := ?_) ?_ ?_
            rotate_left
            · intro w hSw; (try dsimp only at hSw); go_simp <;> with_reducible rfl
            try simp only [Act.put, List.setIfInBounds_toArray, List.set_cons_zero, List.set_cons_succ]
            refine tkR 1 (v := ?_) ?_ ?_
            rotate_left
            · intro w hSw; (try dsimp only at hSw); go_simp <;> with_reducible rfl
            try simp only [Act.put, List.setIfInBounds_toArray, List.set_cons_zero, List.set_cons_succ]
            refine tkR 2 (v := ?_) ?_ ?_
            rotate_left
            · intro w hSw; (try dsimp only at hSw); go_simp <;> with_reducible rfl
            try simp only [Act.put, List.setIfInBounds_toArray, List.set_cons_zero, List.set_cons_succ]
            refine tkR 3 (v := ?_) ?_ ?_
            rotate_left
            · intro w hSw; (try dsimp only at hSw); go_simp <;> with_reducible rfl
            try simp only [Act.put, List.setIfInBounds_toArray, List.set_cons_zero, List.set_cons_succ]
            refine tkR 4 (v := ?_) ?_ ?_
            rotate_left
            · intro w hSw; (try dsimp only at hSw); go_simp <;> with_reducible rfl
            try simp only [Act.put, List.setIfInBounds_toArray, List.set_cons_zero, List.set_cons_succ]
            refine tkR 5 (v := ?_) ?_ ?_
            rotate_left
            · intro w hSw; (try dsimp only at hSw); go_simp <;> with_reducible rfl
            try simp only [Act.put, List.setIfInBounds_toArray, List.set_cons_zero, List.set_cons_succ]
            refine tkR 6 (v := ?_) ?_ ?_
            rotate_left
            · intro w hSw; (try dsimp only at hSw); go_simp <;> with_reducible rfl
            try simp only [Act.put, List.setIfInBounds_toArray, List.set_cons_zero, List.set_cons_succ]
            refine tkR 7 (v := ?_) ?_ ?_
            rotate_left
            · intro w hSw; (try dsimp only at hSw); go_simp <;> with_reducible rfl
            try simp only [Act.put, List.setIfInBounds_toArray, List.set_cons_zero, List.set_cons_succ]
            refine tkR 8 (v := ?_) ?_ ?_
            rotate_left
            · intro w hSw; (try dsimp only at hSw); go_simp <;> with_reducible rfl
            try simp only [Act.put, List.setIfInBounds_toArray, List.set_cons_zero, List.set_cons_succ]
            refine tkR 9 (v := ?_) ?_ ?_
            rotate_left
            · intro w hSw; (try dsimp only at hSw); go_simp <;> with_reducible rfl
            try simp only [Act.put, List.setIfInBounds_toArray, List.set_cons_zero, List.set_cons_succ]
            refine tkR 11 (v := ?_) ?_ ?_
            rotate_left
            · intro w hSw; (try dsimp only at hSw); go_simp <;> with_reducible rfl
            try simp only [Act.put, List.setIfInBounds_toArray, List.set_cons_zero, List.set_cons_succ]
            refine tkR 12 (v := ?_) ?_ ?_
            rotate_left
            · intro w hSw; (try dsimp only at hSw); go_simp <;> with_reducible rfl
            try simp only [Act.put, List.setIfInBounds_toArray, List.set_cons_zero, List.set_cons_succ]
            refine tkR 13 (v := ?_) ?_ ?_
            rotate_left
            · intro w hSw; (try dsimp only at hSw); go_simp <;> with_reducible rfl
            try simp only [Act.put, List.setIfInBounds_toArray, List.set_cons_zero, List.set_cons_succ]
            refine wpAnyH_ready (rs := [10]) (by kernel_rfl) (by simp) ?_
            refine rdR (fun K hK => ?_) ?_
            · go_simp
              refine (fitsAtI_b _ _ _ _ _ _ _ _ (nm, sx, pl, fr, tw) t (HRc.out.below bwT) (HTc.out.below bwT) HIR.out HKT.out j hj true HF1.out).mono ?_
              rintro e8 w8 ⟨rfl, hb8⟩
              have hp8 : Below wc0.heap.size wc0 w8 := Below.trans (show Below wc0.heap.size wc0 _ from bwT) (hb8.mono szT)
              have s8 := hp8.size
              have hS8 := And.intro (oldc hp8 lz z0) (And.intro (oldc hp8 lz z1) (And.intro (oldc hp8 lz z2) (And.intro (oldc hp8 lz z3) (And.intro (oldc hp8 lz z4) (And.intro (oldc hp8 la a0) (And.intro (oldc hp8 la a1) (And.intro (oldc hp8 lb b0) (oldc hp8 lb b1))))))))
              clear hb8
              refine hK.out _ _ ?_ (fun hHeld => ?_)
              · exact kpT
              clear hK K
              try simp only [Act.put, List.setIfInBounds_toArray, List.set_cons_zero, List.set_cons_succ]
              refine wpAnyH_ready (rs := [14]) (by kernel_rfl) (by simp) ?_
              refine rdR (fun K hK => ?_) ?_
              · go_simp
                refine (fitsAtI_b _ _ _ _ _ _ _ _ (nm, sx, pl, fr, tw) U ((HRc.out.below hp8).below bwT) ((HUc.out.below hp8).below bwT) HIR.out HKU.out j hju false HF2.out).mono ?_
                rintro e9 w9 ⟨rfl, hb9⟩
                have hp9 : Below wc0.heap.size wc0 w9 := hp8.trans (hb9.mono s8)
                have s9 := hp9.size
                have hS9 := And.intro (oldc hp9 lz z0) (And.intro (oldc hp9 lz z1) (And.intro (oldc hp9 lz z2) (And.intro (oldc hp9 lz z3) (And.intro (oldc hp9 lz z4) (And.intro (oldc hp9 la a0) (And.intro (oldc hp9 la a1) (And.intro (oldc hp9 lb b0) (oldc hp9 lb b1))))))))
                clear hb9
                refine hK.out _ _ ?_ (fun hHeld => ?_)
                · exact kpT
                clear hK K
                try simp only [Act.put, List.setIfInBounds_toArray, List.set_cons_zero, List.set_cons_succ]
                refine tkR 15 (v := ?_) ?_ ?_
                rotate_left
                · intro w hSw; (try dsimp only at hSw); go_simp <;> with_reducible rfl
                try simp only [Act.put, List.setIfInBounds_toArray, List.set_cons_zero, List.set_cons_succ]
                refine tkR 16 (v := ?_) ?_ ?_
                rotate_left
                · intro w hSw; (try dsimp only at hSw); go_simp <;> with_reducible rfl
                try simp only [Act.put, List.setIfInBounds_toArray, List.set_cons_zero, List.set_cons_succ]
                refine tkR 17 (v := ?_) ?_ ?_
                rotate_left
                · intro w hSw; (try dsimp only at hSw); go_simp <;> with_reducible rfl
                try simp only [Act.put, List.setIfInBounds_toArray, List.set_cons_zero, List.set_cons_succ]
                refine tkR 18 (v := ?_) ?_ ?_
                rotate_left
                · intro w hSw; (try dsimp only at hSw); go_simp <;> with_reducible rfl
                try simp only [Act.put, List.setIfInBounds_toArray, List.set_cons_zero, List.set_cons_succ]
                refine tkR 19 (v := ?_) ?_ ?_
                rotate_left
                · intro w hSw; (try dsimp only at hSw); go_simp <;> with_reducible rfl
                try simp only [Act.put, List.setIfInBounds_toArray, List.set_cons_zero, List.set_cons_succ]
                refine tkR 23 (v := ?_) ?_ ?_
                rotate_left
                · intro w hSw; (try dsimp only at hSw); go_simp <;> with_reducible rfl
                try simp only [Act.put, List.setIfInBounds_toArray, List.set_cons_zero, List.set_cons_succ]
                refine tkR 20 (v := ?_) ?_ ?_
                rotate_left
                · intro w hSw; (try dsimp only at hSw); go_simp <;> with_reducible rfl
                try simp only [Act.put, List.setIfInBounds_toArray, List.set_cons_zero, List.set_cons_succ]
                refine tkR 24 (v := ?_) ?_ ?_
                rotate_left
                · intro w hSw; (try dsimp only at hSw); go_simp <;> with_reducible rfl
                try simp only [Act.put, List.setIfInBounds_toArray, List.set_cons_zero, List.set_cons_succ]
                refine tkR 21 (v := ?_) ?_ ?_
                rotate_left
                · intro w hSw; (try dsimp only at hSw); go_simp <;> with_reducible rfl
                try simp only [Act.put, List.setIfInBounds_toArray, List.set_cons_zero, List.set_cons_succ]
                refine tkR 25 (v := ?_) ?_ ?_
                rotate_left
                · intro w hSw; (try dsimp only at hSw); go_simp <;> with_reducible rfl
                try simp only [Act.put, List.setIfInBounds_toArray, List.set_cons_zero, List.set_cons_succ]
                refine tkR 22 (v := ?_) ?_ ?_
                rotate_left
                · intro w hSw; (try dsimp only at hSw); go_simp <;> with_reducible rfl
                try simp only [Act.put, List.setIfInBounds_toArray, List.set_cons_zero, List.set_cons_succ]
                refine tkR 26 (v := ?_) ?_ ?_
                rotate_left
                · intro w hSw; (try dsimp only at hSw); go_simp <;> with_reducible rfl
                try simp only [Act.put, List.setIfInBounds_toArray, List.set_cons_zero, List.set_cons_succ]
                refine tkR 27 (v := ?_) ?_ ?_
                rotate_left
                · intro w hSw; (try dsimp only at hSw); go_simp <;> with_reducible rfl
                try simp only [Act.put, List.setIfInBounds_toArray, List.set_cons_zero, List.set_cons_succ]
                refine wpAnyH_done (by kernel_rfl) ?_ _
                go_wp2
                go_roundw
                case rel => exact ⟨j + 1, by omega, by go_num, hcc.trans (hp9.mono sC)⟩
                case measure => simp [intOf]; omega
              exact AllReadyH.nil
            exact AllReadyH.nil
          · clear HSAME
            go_upto_region 23 with fail
            refine wp_region_held_drew (S := (fun w' => w'.cell? ⟨wb.heap.size, 0, none⟩ = some (.string nm) ∧ w'.cell? ⟨wb.heap.size, 1, none⟩ = some (.int .i64 sx) ∧ w'.cell? ⟨wb.heap.size, 2, none⟩ = some (.int .i64 pl) ∧ w'.cell? ⟨wb.heap.size, 3, none⟩ = some (.slice fao fr.length fcap) ∧ w'.cell? ⟨wb.heap.size, 4, none⟩ = some (.slice gao gn gcap) ∧ w'.cell? ⟨w4.heap.size, 0, none⟩ = some (.int .i64 t.1) ∧ w'.cell? ⟨w4.heap.size, 1, none⟩ = some (.slice tao t.2.length tcap) ∧ w'.cell? ⟨w5.heap.size, 0, none⟩ = some (.int .i64 U.1) ∧ w'.cell? ⟨w5.heap.size, 1, none⟩ = some (.slice uao un ucap))) (by kernel_rfl) ?_ (fun hHeld => ?_)
            · first | exact trivial | ((try dsimp only); go_keep)
            refine tkR 0 (v := ?_) ?_ ?_
            rotate_left
            · intro w hSw; (try dsimp only at hSw); go_simp <;> with_reducible rfl
            try simp only [Act.put, List.setIfInBounds_toArray, List.set_cons_zero, List.set_cons_succ]
            refine tkR 1 (v := ?_) ?_ ?_
            rotate_left
            · intro w hSw; (try dsimp only at hSw); go_simp <;> with_reducible rfl
            try simp only [Act.put, List.setIfInBounds_toArray, List.set_cons_zero, List.set_cons_succ]
            refine tkR 2 (v := ?_) ?_ ?_
            rotate_left
            · intro w hSw; (try dsimp only at hSw); go_simp <;> with_reducible rfl
            try simp only [Act.put, List.setIfInBounds_toArray, List.set_cons_zero, List.set_cons_succ]
            refine tkR 3 (v := ?_) ?_ ?_
            rotate_left
            · intro w hSw; (try dsimp only at hSw); go_simp <;> with_reducible rfl
            try simp only [Act.put, List.setIfInBounds_toArray, List.set_cons_zero, List.set_cons_succ]
            refine tkR 4 (v := ?_) ?_ ?_
            rotate_left
            · intro w hSw; (try dsimp only at hSw); go_simp <;> with_reducible rfl
            try simp only [Act.put, List.setIfInBounds_toArray, List.set_cons_zero, List.set_cons_succ]
            refine tkR 5 (v := ?_) ?_ ?_
            rotate_left
            · intro w hSw; (try dsimp only at hSw); go_simp <;> with_reducible rfl
            try simp only [Act.put, List.setIfInBounds_toArray, List.set_cons_zero, List.set_cons_succ]
            refine tkR 6 (v := ?_) ?_ ?_
            rotate_left
            · intro w hSw; (try dsimp only at hSw); go_simp <;> with_reducible rfl
            try simp only [Act.put, List.setIfInBounds_toArray, List.set_cons_zero, List.set_cons_succ]
            refine tkR 7 (v := ?_) ?_ ?_
            rotate_left
            · intro w hSw; (try dsimp only at hSw); go_simp <;> with_reducible rfl
            try simp only [Act.put, List.setIfInBounds_toArray, List.set_cons_zero, List.set_cons_succ]
            refine tkR 8 (v := ?_) ?_ ?_
            rotate_left
            · intro w hSw; (try dsimp only at hSw); go_simp <;> with_reducible rfl
            try simp only [Act.put, List.setIfInBounds_toArray, List.set_cons_zero, List.set_cons_succ]
            refine tkR 9 (v := ?_) ?_ ?_
            rotate_left
            · intro w hSw; (try dsimp only at hSw); go_simp <;> with_reducible rfl
            try simp only [Act.put, List.setIfInBounds_toArray, List.set_cons_zero, List.set_cons_succ]
            refine tkR 11 (v := ?_) ?_ ?_
            rotate_left
            · intro w hSw; (try dsimp only at hSw); go_simp <;> with_reducible rfl
            try simp only [Act.put, List.setIfInBounds_toArray, List.set_cons_zero, List.set_cons_succ]
            refine tkR 12 (v := ?_) ?_ ?_
            rotate_left
            · intro w hSw; (try dsimp only at hSw); go_simp <;> with_reducible rfl
            try simp only [Act.put, List.setIfInBounds_toArray, List.set_cons_zero, List.set_cons_succ]
            refine tkR 13 (v := ?_) ?_ ?_
            rotate_left
            · intro w hSw; (try dsimp only at hSw); go_simp <;> with_reducible rfl
            try simp only [Act.put, List.setIfInBounds_toArray, List.set_cons_zero, List.set_cons_succ]
            refine wpAnyH_ready (rs := [10]) (by kernel_rfl) (by simp) ?_
            refine rdR (fun K hK => ?_) ?_
            · go_simp
              refine (fitsAtI_b _ _ _ _ _ _ _ _ (nm, sx, pl, fr, tw) t (HRc.out.below bwT) (HTc.out.below bwT) HIR.out HKT.out j hj true HF1.out).mono ?_
              rintro e8 w8 ⟨rfl, hb8⟩
              have hp8 : Below wc0.heap.size wc0 w8 := Below.trans (show Below wc0.heap.size wc0 _ from bwT) (hb8.mono szT)
              have s8 := hp8.size
              have hS8 := And.intro (oldc hp8 lz z0) (And.intro (oldc hp8 lz z1) (And.intro (oldc hp8 lz z2) (And.intro (oldc hp8 lz z3) (And.intro (oldc hp8 lz z4) (And.intro (oldc hp8 la a0) (And.intro (oldc hp8 la a1) (And.intro (oldc hp8 lb b0) (oldc hp8 lb b1))))))))
              clear hb8
              refine hK.out _ _ ?_ (fun hHeld => ?_)
              · exact kpT
              clear hK K
              try simp only [Act.put, List.setIfInBounds_toArray, List.set_cons_zero, List.set_cons_succ]
              refine wpAnyH_ready (rs := [14]) (by kernel_rfl) (by simp) ?_
              refine rdR (fun K hK => ?_) ?_
              · go_simp
                refine (fitsAtI_b _ _ _ _ _ _ _ _ (nm, sx, pl, fr, tw) U ((HRc.out.below hp8).below bwT) ((HUc.out.below hp8).below bwT) HIR.out HKU.out j hju true HF2.out).mono ?_
                rintro e9 w9 ⟨rfl, hb9⟩
                have hp9 : Below wc0.heap.size wc0 w9 := hp8.trans (hb9.mono s8)
                have s9 := hp9.size
                have hS9 := And.intro (oldc hp9 lz z0) (And.intro (oldc hp9 lz z1) (And.intro (oldc hp9 lz z2) (And.intro (oldc hp9 lz z3) (And.intro (oldc hp9 lz z4) (And.intro (oldc hp9 la a0) (And.intro (oldc hp9 la a1) (And.intro (oldc hp9 lb b0) (oldc hp9 lb b1))))))))
                clear hb9
                refine hK.out _ _ ?_ (fun hHeld => ?_)
                · exact kpT
                clear hK K
                try simp only [Act.put, List.setIfInBounds_toArray, List.set_cons_zero, List.set_cons_succ]
                refine tkR 15 (v := ?_) ?_ ?_
                rotate_left
                · intro w hSw; (try dsimp only at hSw); go_simp <;> with_reducible rfl
                try simp only [Act.put, List.setIfInBounds_toArray, List.set_cons_zero, List.set_cons_succ]
                refine tkR 16 (v := ?_) ?_ ?_
                rotate_left
                · intro w hSw; (try dsimp only at hSw); go_simp <;> with_reducible rfl
                try simp only [Act.put, List.setIfInBounds_toArray, List.set_cons_zero, List.set_cons_succ]
                refine tkR 17 (v := ?_) ?_ ?_
                rotate_left
                · intro w hSw; (try dsimp only at hSw); go_simp <;> with_reducible rfl
                try simp only [Act.put, List.setIfInBounds_toArray, List.set_cons_zero, List.set_cons_succ]
                refine skR 18 ?_
                try simp only [Act.put, List.setIfInBounds_toArray, List.set_cons_zero, List.set_cons_succ]
                refine skR 19 ?_
                try simp only [Act.put, List.setIfInBounds_toArray, List.set_cons_zero, List.set_cons_succ]
                refine skR 23 ?_
                try simp only [Act.put, List.setIfInBounds_toArray, List.set_cons_zero, List.set_cons_succ]
                refine skR 20 ?_
                try simp only [Act.put, List.setIfInBounds_toArray, List.set_cons_zero, List.set_cons_succ]
                refine skR 24 ?_
                try simp only [Act.put, List.setIfInBounds_toArray, List.set_cons_zero, List.set_cons_succ]
                refine skR 21 ?_
                try simp only [Act.put, List.setIfInBounds_toArray, List.set_cons_zero, List.set_cons_succ]
                refine skR 25 ?_
                try simp only [Act.put, List.setIfInBounds_toArray, List.set_cons_zero, List.set_cons_succ]
                refine skR 22 ?_
                try simp only [Act.put, List.setIfInBounds_toArray, List.set_cons_zero, List.set_cons_succ]
                refine skR 26 ?_
                try simp only [Act.put, List.setIfInBounds_toArray, List.set_cons_zero, List.set_cons_succ]
                refine tkR 27 (v := ?_) ?_ ?_
                rotate_left
                · intro w hSw; (try dsimp only at hSw); go_simp <;> with_reducible rfl
                try simp only [Act.put, List.setIfInBounds_toArray, List.set_cons_zero, List.set_cons_succ]
                refine wpAnyH_done (by kernel_rfl) ?_ _
                go_wp2
                go_roundw
                case rel => exact ⟨j + 1, by omega, by go_num, hcc.trans (hp9.mono sC)⟩
                case measure => simp [intOf]; omega
              exact AllReadyH.nil
            exact AllReadyH.nil
end Go.Proofs.Ytlfpnncjdoaelaa
