/- Contract of listTerms (impl). Written by lt_gen.py. -/
import Derived.Test.YtnfgdkbapffjcaaTrmC
import Derived.Test.YtnfgdkbapffjcaaTwo
namespace Go.Proofs.Ytnfgdkbapffjcaa
set_option linter.unusedVariables false
set_option linter.unusedSimpArgs false
open Go.RowKit

theorem slStrS : SlTy Try.prog 48 9 (.string ByteArray.empty) 1 16 := SlTy.of Try.underlying48 (by kernel_rfl) rfl
def tmL (y : Trm) (T : List Kin) : List ByteArray := T.map fun t => tmText (termOf y t)
def tmB (y : Trm) (T : List Kin) : List Bool := T.map fun t => (termOf y t).isSome
theorem tmL_len (y : Trm) (T : List Kin) : (tmL y T).length = T.length := by simp [tmL]
theorem tmB_len (y : Trm) (T : List Kin) : (tmB y T).length = T.length := by simp [tmB]
theorem tmL_at {y : Trm} {T : List Kin} {i : Nat} {s : Kin} (h : T[i]? = some s) : (tmL y T)[i]? = some (tmText (termOf y s)) := by simp [tmL, h]
theorem tmB_at {y : Trm} {T : List Kin} {i : Nat} {s : Kin} (h : T[i]? = some s) : (tmB y T)[i]? = some (termOf y s).isSome := by simp [tmB, h]
def PostLt (w : World) (tv : Value) (y : Trm) (T : List Kin) (e : Ending) (w' : World) : Prop :=
  ∃ u v, e = .returned (.agg #[tv, u, v]) ∧ Rd true w.heap.size w'.heap.size w' [u] (tmL y T) ∧ Rd true w.heap.size w'.heap.size w' [v] (tmB y T) ∧ Below w.heap.size w w'
set_option maxRecDepth 20000 in
set_option maxHeartbeats 8000000 in
theorem listTermsI_any {z z1 : Bool} {lo hi lo1 hi1 : Nat} (w : World) (y1 y2 tv : Value) (rs : List Rul) (es : List Ent) (T : List Kin) (h : Rd z lo hi w [y1, y2] ((rs, es) : Trm)) (h' : Rd z1 lo1 hi1 w [tv] T) (hyv : true = isTerm (rs, es)) (hk : ∀ t ∈ T, isKin t = true) (hTL : T.length ≤ 600) :
    Calls Try.prog 44 #[.agg #[y1, y2], tv] w (PostLt w tv (rs, es) T) := by
  have HY := Lib.hid h
  obtain ⟨hy1, hy2⟩ := h.two rfl
  dsimp only at hy1 hy2
  obtain ⟨ra, rn, rcap, rfl, -⟩ := hy1.shape
  obtain ⟨ea, en, ecap, rfl, -⟩ := hy2.shape
  have hrd := Lib.hid h'
  obtain ⟨tao, tn, tcap, rfl, htn, htc, htm, -⟩ := h'.shape
  subst htn
  have HRS := Lib.hid (show allRules rs from (areRules_facts (isTerm_facts hyv.symm).1).2.1)
  have HT1 := Lib.hid hyv
  have HKN := Lib.hid hk
  clear h h' hy1 hy2 hyv hk
  go_enter Try.func44, Try.ntmps44
  go_wp2
  go_loopw [7, 8, 9, 14] (fun _ _ _ s14 wr => ∃ i : Nat, i ≤ T.length ∧ s14 = .int .i64 i ∧ Hid (Two (w.heap.size + 1 + 1) ((w.alloc (.cells #[.slice ra rn rcap, .slice ea en ecap] 31)).alloc (.cells #[.slice none 0 0, .slice none 0 0, .slice none 0 0] 72)) wr 9 4 (.slice tao T.length tcap) (tmL (rs, es) (T.take i)) (tmB (rs, es) (T.take i)))) (fun _ _ _ s14 _ => T.length - (intOf s14).toNat)
  case atStart => exact ⟨0, Nat.zero_le _, rfl, Lib.hid ⟨⟨_, _, by simp [go_sem], by simp [go_sem], by simp [go_sem], GL.start _ _ _ _ _ _, GL.start _ _ _ _ _ _, fun g h => by cases h⟩, fun o => by simp [go_sem], by simp, bwT⟩⟩
  case round =>
    obtain ⟨wa, hwa⟩ : ∃ wa : World, wa = ((w.alloc (.cells #[.slice ra rn rcap, .slice ea en ecap] 31)).alloc (.cells #[.slice none 0 0, .slice none 0 0, .slice none 0 0] 72)) := ⟨_, rfl⟩
    have ya0 : wa.cell? ⟨w.heap.size, 0, none⟩ = some (.slice ra rn rcap) := by subst hwa; simp [go_sem]
    have ya1 : wa.cell? ⟨w.heap.size, 1, none⟩ = some (.slice ea en ecap) := by subst hwa; simp [go_sem]
    have za0 : wa.cell? ⟨w.heap.size + 1, 0, none⟩ = some (.slice none 0 0) := by subst hwa; simp [go_sem]
    have za1 : wa.cell? ⟨w.heap.size + 1, 1, none⟩ = some (.slice none 0 0) := by subst hwa; simp [go_sem]
    have za2 : wa.cell? ⟨w.heap.size + 1, 2, none⟩ = some (.slice none 0 0) := by subst hwa; simp [go_sem]
    have zf : ∀ o, wa.frozen? ⟨w.heap.size + 1, o, none⟩ = false := fun o => by subst hwa; simp [go_sem]
    have hBa : Below w.heap.size w wa := by subst hwa; exact bwT
    have sa : w.heap.size + 1 + 1 ≤ wa.heap.size := by subst hwa; simp
    obtain ⟨wb, hwb⟩ : ∃ wm : World, wm = wr := ⟨_, rfl⟩
    subst hwb
    obtain ⟨i, hi1, rfl, hT0⟩ := hrel
    rw [← hwa] at hT0
    have HWA := Lib.hid hwa
    clear hwa
    have hBr := hT0.out.below
    have sr := hBr.size
    have hBw : Below w.heap.size w wb := hBa.trans (hBr.mono (by omega))
    have q_y0 := oldc hBr (by omega) ya0
    have q_y1 := oldc hBr (by omega) ya1
    have l_y : w.heap.size < wb.heap.size := by omega
    have l_g : w.heap.size + 1 + 1 < wb.heap.size := hT0.out.lt
    by_cases hli : i < T.length
    · have hIi : (i : Int) < (T.length : Int) := by omega
      obtain ⟨tb, toff, t, tvv, rfl, ht, c0, c1, hti, hvs, hrt0, -, -, tlt⟩ := hrd.out.kin_at hli
      obtain ⟨sao, sn, scap, rfl, hsn, -⟩ := hvs.shape
      subst hsn
      have k0 := oldc hBw tlt c0
      have k1 := oldc hBw tlt c1
      have hrt := Lib.hid hrt0
      have HK := Lib.hid (HKN.out t (List.mem_of_getElem? ht.out))
      obtain ⟨q, hlet_q⟩ : ∃ r, r = tmText (termOf (rs, es) t) := ⟨_, rfl⟩
      have HQ := Lib.hid hlet_q
      clear hlet_q
      obtain ⟨r2, hlet_r2⟩ : ∃ r, r = (termOf (rs, es) t).isSome := ⟨_, rfl⟩
      have HR2 := Lib.hid hlet_r2
      clear hlet_r2
      have HQL := Lib.hid (show q.size ≤ maxLen by rw [HQ.out]; exact tmText_le HT1.out t)
      obtain ⟨L1, hL1⟩ : ∃ L, L = tmL (rs, es) (T.take i) := ⟨_, rfl⟩
      obtain ⟨L2, hL2⟩ : ∃ L, L = tmB (rs, es) (T.take i) := ⟨_, rfl⟩
      have hN1 : L1.length ≤ 600 := by rw [hL1, tmL, List.length_map, List.length_take]; omega
      have hN2 : L2.length ≤ 600 := by rw [hL2, tmB, List.length_map, List.length_take]; omega
      have HL1 := Lib.hid (show L1 ++ [q] = tmL (rs, es) (T.take (i + 1)) by rw [hL1, take_snoc ht.out, HQ.out]; simp [tmL])
      have HL2 := Lib.hid (show L2 ++ [r2] = tmB (rs, es) (T.take (i + 1)) by rw [hL2, take_snoc ht.out, HR2.out]; simp [tmB])
      rw [← hL1, ← hL2] at hT0
      clear hL1 hL2 ht c0 c1 hti hvs hrt0
      go_wp2_with fail
      refine (termTI_x _ _ _ _ _ rs es t (HY.out.below ?k1) (hrt.out.below ?k2) HRS.out HK.out q HQ.out r2 HR2.out).mono ?_
      case k1 => exact hBw.alloc (by omega) _
      case k2 => exact hBw.alloc (by omega) _
      rintro e w1 ⟨rfl, hb1⟩
      have hbr1 : Below wb.heap.size wb w1 := Below.trans ((Below.refl _ _).alloc (Nat.le_refl _) _) (hb1.mono (by simp))
      have s1 := hbr1.size
      obtain ⟨⟨v1, v2, q0, q1, q2, hG1, hG2, hne⟩, hfr, hGl, hB1⟩ := hT0.out.keep hbr1
      clear hb1 hT0 k0 k1
      have hbW : Below w1.heap.size w1 (w1.alloc (.cells #[.string q] 9)) := (Below.refl _ _).alloc (Nat.le_refl _) _
      have q0W := oldc hbW hGl q0
      have q1W := oldc hbW hGl q1
      have q2W := oldc hbW hGl q2
      have hfrW := fun o => (hbW.frozen (p := ⟨w.heap.size + 1 + 1, o, none⟩) hGl).trans (hfr o)
      have hG1W := (hG1.below hbW).top
      have hG2W := Lib.hid (hG2.below hbW).top
      have hBW1 := hB1.trans (hbW.mono (Nat.le_of_lt hGl))
      obtain ⟨ao1, cap1, rfl, -, -⟩ := hG1.len
      go_wp2_with (at_builtin; refine wpList_push_at rfl rfl slStrS (by show (0 : Nat) < 1; omega) hG1W rfl (ad := ⟨w1.heap.size, 0, none⟩) rfl (cs := [.string q]) (y := q) (lx := (w1.alloc (.cells #[.string q] 9)).heap.size) (hx' := (w1.alloc (.cells #[.string q] 9)).heap.size) ?c1 (It.flat (z := true) (w0 := w1) (fp := []) ⟨rfl, HQL.out, rfl⟩) ?c3 (.inl (Nat.le_refl _)) (by unfold maxLen; omega) (by omega) ?c2 ?_)
      case c1 => intro j c hj; match j, hj with | 0, hj => simp at hj; subst hj; simp [Addr.add, go_sem]
      case c2 => simp; omega
      case c3 => simp; omega
      rintro g1 cp1 w2 hG5 hg5 hb5 hat
      have hTwo1 := Lib.hid (Two.mk1 hBW1 q0W q1W q2W hfrW (by simp; omega) hG2W.out hne hG5 hg5 (by simpa using hat) hb5)
      have q1X := oldc hb5 (Nat.lt_succ_self _) q1W
      have f1X := (hb5.frozen (p := ⟨w.heap.size + 1 + 1, 1, none⟩) (Nat.lt_succ_self _)).trans (hfrW 1)
      clear hG1W hG2W hG5 hg5 hat hfrW q0W q1W q2W hbW hBW1 hG1 hG2 hne
      go_upto_region 7 with fail
      obtain ⟨w3, hw3⟩ : ∃ x : World, x = w2.setCell ⟨w.heap.size + 1 + 1, 1, none⟩ (.slice (some ⟨g1, 0, none⟩) (L1.length + 1) cp1) := ⟨_, rfl⟩
      rw [← hw3] at hTwo1 ⊢
      clear hw3 q1X f1X hb5
      obtain ⟨⟨u1, u2, q0, q1, q2, hG1, hG2, hne⟩, hfr, hGl, hB1⟩ := hTwo1.out
      have hbW : Below w3.heap.size w3 (w3.alloc (.cells #[.bool r2] 4)) := (Below.refl _ _).alloc (Nat.le_refl _) _
      have q0W := oldc hbW hGl q0
      have q1W := oldc hbW hGl q1
      have q2W := oldc hbW hGl q2
      have hfrW := fun o => (hbW.frozen (p := ⟨w.heap.size + 1 + 1, o, none⟩) hGl).trans (hfr o)
      have hG1W := Lib.hid (hG1.below hbW).top
      have hG2W := (hG2.below hbW).top
      have hBW1 := hB1.trans (hbW.mono (Nat.le_of_lt hGl))
      obtain ⟨ao2, cap2, rfl, -, -⟩ := hG2.len
      clear hTwo1
      go_wp2_with (at_builtin; refine wpList_push_at rfl rfl slBool (by show (0 : Nat) < 1; omega) hG2W rfl (ad := ⟨w3.heap.size, 0, none⟩) rfl (cs := [.bool r2]) (y := r2) (lx := (w3.alloc (.cells #[.bool r2] 4)).heap.size) (hx' := (w3.alloc (.cells #[.bool r2] 4)).heap.size) ?c1 (It.flat (z := true) (w0 := w1) (fp := []) ⟨rfl, rfl⟩) ?c3 (.inl (Nat.le_refl _)) (by unfold maxLen; omega) (by omega) ?c2 ?_)
      case c1 => intro j c hj; match j, hj with | 0, hj => simp at hj; subst hj; simp [Addr.add, go_sem]
      case c2 => simp; omega
      case c3 => simp; omega
      rintro g2 cp2 w4 hG5 hg5 hb5 hat
      have hTwo2 := Lib.hid (Two.mk2 hBW1 q0W q2W q1W hfrW (by simp; omega) hG1W.out hne hG5 hg5 (by simpa using hat) hb5)
      have q2X := oldc hb5 (Nat.lt_succ_self _) q2W
      have f2X := (hb5.frozen (p := ⟨w.heap.size + 1 + 1, 2, none⟩) (Nat.lt_succ_self _)).trans (hfrW 2)
      rw [HL1.out, HL2.out] at hTwo2
      clear hG1W hG2W hG5 hg5 hat hfrW q0W q1W q2W hbW hBW1 hG1 hG2 hne
      go_wp2
      go_roundw
      case rel => exact ⟨i + 1, by omega, by go_num, by rw [← HWA.out]; exact hTwo2⟩
      case measure => simp [intOf]; omega
    · obtain rfl : i = T.length := by omega
      have nI : ¬ (T.length : Int) < (T.length : Int) := by omega
      have hT2 := hT0.out
      rw [List.take_length] at hT2
      obtain ⟨⟨v1, v2, q0, q1, q2, hG1, hG2, hne⟩, hfr, hGl, hB1⟩ := hT2
      obtain ⟨ao1, cap1, rfl, -, -⟩ := hG1.len
      obtain ⟨ao2, cap2, rfl, -, -⟩ := hG2.len
      have r0 := oldc hBr (by omega) za0
      have r1 := oldc hBr (by omega) za1
      have r2 := oldc hBr (by omega) za2
      have rf : ∀ o, wb.frozen? ⟨w.heap.size + 1, o, none⟩ = false := fun o => (hBr.frozen (p := ⟨w.heap.size + 1, o, none⟩) (Nat.lt_succ_self _)).trans (zf o)
      have HU := Lib.hid (hG1.rd (l0 := w.heap.size + 1 + 1) (by omega) (by omega))
      have HV := Lib.hid (hG2.rd (l0 := w.heap.size + 1 + 1) (by omega) (by omega))
      clear hG1 hG2 hT0 hne hfr
      have rf0 := rf 0
      have rf1 := rf 1
      have rf2 := rf 2
      have hxx : ¬ w.heap.size + 1 + 1 = w.heap.size + 1 := by omega
      go_wp2
      refine bodyPost_ret (v := .agg #[.slice tao T.length tcap, .slice ao1 (tmL (rs, es) T).length cap1, .slice ao2 (tmB (rs, es) T).length cap2]) (by simp [results, Try.results44, go_sem, r0, r1, r2, hxx]) rfl ⟨_, _, rfl, ?_, ?_, bwT⟩
      · exact (HU.out.keep znT).mono (by omega) (by simp)
      · exact (HV.out.keep znT).mono (by omega) (by simp)
end Go.Proofs.Ytnfgdkbapffjcaa
