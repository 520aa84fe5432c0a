/- Texts laid one behind the other (merge.py): MoiS, Fnd3. -/
import Derived.Test.YtefbbbhidnnchaaHalf
import Derived.Test.YtefbbbhidnnchaaMoiI
import Derived.Test.YtefbbbhidnnchaaZ14N
namespace Go.Proofs.Ytefbbbhidnnchaa
set_option linter.unusedVariables false
set_option linter.unusedSimpArgs false
open Go.RowKit

/-! ### MoiS -/
section

set_option maxRecDepth 20000 in
set_option maxHeartbeats 16000000 in
theorem moietiesS_any {z : Bool} {lo hi : Nat} (w : World) (v v2 : Value) (f : Fam) (h : Rd z lo hi w [v, v2] f) (sex : Int) (X : List Int) (V : Bool) (hXV : MoiAns f sex X V) :
    Calls Try.prog 16 #[.agg #[v, v2], .int .i64 sex] w (PostOwB w X V) := by
  have HXV := Lib.hid hXV
  obtain ⟨ha, hb⟩ := h.fam
  obtain ⟨ao, n, cap, rfl, hn, hnc, hcm, hnone⟩ := ha.shape
  obtain ⟨ao2, n2, cap2, rfl, hn2, hnc2, hcm2, hnone2⟩ := hb.shape
  subst hn hn2
  unfold maxLen at *
  obtain ⟨r1, hlet_r1⟩ : ∃ r, r = famB f := ⟨_, rfl⟩
  have H1 := Lib.hid hlet_r1
  clear hlet_r1
  obtain ⟨r2, hlet_r2⟩ : ∃ r, r = sexB sex := ⟨_, rfl⟩
  have H2 := Lib.hid hlet_r2
  clear hlet_r2
  have HQ := Lib.hid (show if (r1 && r2) = true then MoiRes f sex X V else (X = [] ∧ V = false) by rw [H1.out, H2.out]; exact hXV)
  clear hXV HXV hnone hnone2
  go_enter Try.func16, Try.ntmps16
  go_wp2_with fail
  refine (l7Sex_b _ sex r2 H2.out).mono ?_
  rintro e1 w1 ⟨rfl, hbw1⟩
  have hpw1 : Below w.heap.size w w1 := Below.after bwT hbw1 szT
  have sw1 := hpw1.size
  have hBw1 : Below w.heap.size w w1 := hpw1
  have l_f : w.heap.size < w1.heap.size := by have := hbw1.size; simp at this; omega
  have q_f0 : w1.cell? ⟨w.heap.size, 0, none⟩ = some (.slice ao f.1.length cap) := oldc hbw1 ltT (by simp [go_sem])
  have q_f1 : w1.cell? ⟨w.heap.size, 1, none⟩ = some (.slice ao2 f.2.length cap2) := oldc hbw1 ltT (by simp [go_sem])
  clear hbw1 hpw1
  cases r2
  · obtain ⟨rfl, rfl⟩ : X = [] ∧ V = false := by simpa using HQ.out
    clear h ha hb HQ
    go_wp2
    exact bodyPost_ret (v := .tuple #[.slice none 0 0, .bool false]) (by simp [results, go_sem]) rfl ⟨_, rfl, Ow.nil _ _ _, bwT⟩
  go_wp2_with fail
  refine (isFamS_b _ _ _ f (h.below bwT) r1 H1.out).mono ?_
  rintro e2 w2 ⟨rfl, hbw2⟩
  have hpw2 : Below w1.heap.size w1 w2 := Below.after bwT hbw2 szT
  have sw2 := hpw2.size
  have hBw2 : Below w.heap.size w w2 := Below.trans hBw1 (Below.mono hpw2 hBw1.size)
  have q_f0 := oldc hpw2 l_f q_f0
  have q_f1 := oldc hpw2 l_f q_f1
  have l_f := Nat.lt_of_lt_of_le l_f sw2
  clear hbw2 hpw2
  cases r1
  · obtain ⟨rfl, rfl⟩ : X = [] ∧ V = false := by simpa using HQ.out
    clear h ha hb HQ
    go_wp2
    exact bodyPost_ret (v := .tuple #[.slice none 0 0, .bool false]) (by simp [results, go_sem]) rfl ⟨_, rfl, Ow.nil _ _ _, bwT⟩
  have HR := Lib.hid (show MoiRes f sex X V by simpa using HQ.out)
  obtain ⟨h40, h60, hP, hU⟩ := famB_facts H1.out.symm
  have HIN := Lib.hid (show ∀ p, p < f.1.length → fo f.1 sex p < f.1.length from fun p hp => fo_lt hP (Nat.le_refl _) sex p hp)
  have HUN := Lib.hid (show ∀ u ∈ f.2, u.1.toNat < f.1.length ∧ u.2.1.toNat < f.1.length from fun u hu => by
    obtain ⟨k, hk⟩ := List.mem_iff_getElem?.1 hu
    obtain ⟨m, wo, fr, tl⟩ := u
    have := uniOk_facts (hU k (List.getElem?_eq_some_iff.1 hk).1) hk
    dsimp only
    omega)
  have htop := h.top
  clear hP hU HQ ha hb h
  obtain ⟨Wa, hWa⟩ : ∃ W : World, W = w2 := ⟨_, rfl⟩
  subst hWa
  have hBa : Below w.heap.size w Wa := hBw2
  have sa := hBa.size
  have qa_f0 := q_f0
  have qa_f1 := q_f1
  have la_f : w.heap.size < Wa.heap.size := l_f
  go_wp2
  go_loopw [6, 20] (fun s6 s20 wr => ∃ k : Nat, k ≤ f.1.length ∧ s20 = .int .i64 k ∧ Hid (GL true Wa.heap.size Wa.heap.size wr.heap.size wr 3 s6 (List.replicate k (-1 : Int))) ∧ Below Wa.heap.size Wa wr) (fun _ s20 _ => f.1.length - (intOf s20).toNat)
  case atStart => exact ⟨0, Nat.zero_le _, rfl, Lib.hid ((GL.lit0 _ _ _ _ _ (Nat.le_refl _)).top), bwT⟩
  case round =>
    obtain ⟨wb, hwb⟩ : ∃ wm : World, wm = wr := ⟨_, rfl⟩
    subst hwb
    obtain ⟨k, hk, rfl, hG, hbb⟩ := hrel
    have sI := hbb.size
    by_cases hlt : k < f.1.length
    · have hI : (k : Int) < (f.1.length : Int) := by omega
      have hG := hG.out
      go_wp2_with (at_builtin; refine wpList_push rfl rfl slInt (by show (0 : Nat) < 1; omega) (hG.alloc _) rfl (ad := ⟨wb.heap.size, 0, none⟩) rfl (cs := [.int .i64 (-1)]) (y := (-1 : Int)) (lx := wb.heap.size) (hx' := wb.heap.size) ?c1 (It.flat (z := true) (w0 := wb) (fp := []) ⟨rfl, ⟨by omega, by omega⟩, rfl⟩) (by omega) (.inl szT) (by unfold maxLen; simp; omega) (by simp; omega) ?c2 ?_)
      case c1 =>
        intro j c hj
        match j, hj with
        | 0, hj => simp at hj; subst hj; simp [Addr.add]
      case c2 => first | omega | (simp; omega)
      intro v1 w3 hG3 _ hb3
      have HN := Lib.hid (show GL true Wa.heap.size Wa.heap.size w3.heap.size w3 3 v1 (List.replicate (k + 1) (-1 : Int)) by rw [List.replicate_succ']; exact hG3)
      have hbb3 : Below Wa.heap.size Wa w3 := Below.trans bwT hb3
      clear hG hG3 hb3
      go_wp2
      go_roundw
      case rel => exact ⟨k + 1, by omega, by go_num, HN, hbb3⟩
      case measure => simp [intOf]; omega
    · obtain rfl : k = f.1.length := by omega
      have nI : ¬ (f.1.length : Int) < (f.1.length : Int) := by omega
      have how := GL.ow (l0 := Wa.heap.size) hG.out (Nat.le_refl _) (Nat.le_refl _)
      obtain ⟨aoM, capM, rfl, hcM1, hcM2⟩ := hG.out.len
      simp only [List.length_replicate] at how hcM1 ⊢
      obtain ⟨fp, hm, hz, hnd⟩ := how
      have HM := Lib.hid hm
      have HND := Lib.hid hnd
      have hBb : Below w.heap.size w wb := hBa.trans (hbb.mono sa)
      have qb_f0 := oldc hbb la_f qa_f0
      have qb_f1 := oldc hbb la_f qa_f1
      have lb_f := Nat.lt_of_lt_of_le la_f sI
      have HO0 := Lib.hid (Out.start (sex := sex) HIN.out HUN.out)
      have HF0 := Lib.hid (Fix.start (sex := sex) HIN.out HUN.out)
      have HFD := Lib.hid (show ∀ W, OffF fp wb W → Rd z lo w.heap.size W [.slice ao f.1.length cap, .slice ao2 f.2.length cap2] f from fun W hoff => (htop.keep (Below.zone hBb lo)).keep (hoff.zone (by have := hBb.size; omega) hz (.inr (by omega))))
      clear hG hm hnd htop hbb
      unfold maxLen at hcM2
      go_wp2
      go_loopw [7, 28] (fun _ s28 wr => ∃ (k : Nat) (o : List Int), k ≤ f.1.length ∧ s28 = .int .i64 k ∧ Hid (Rep.rep true wr [.slice aoM f.1.length capM] o fp) ∧ Hid (Out f sex k o) ∧ Hid (Fix f sex o) ∧ OffF fp wb wr) (fun _ s28 _ => f.1.length - (intOf s28).toNat)
      case atStart => exact ⟨0, _, Nat.zero_le _, rfl, HM, HO0, HF0, OffF.refl _ _⟩
      case round =>
        clear HM HO0 HF0
        obtain ⟨wc, hwc⟩ : ∃ wm : World, wm = wr := ⟨_, rfl⟩
        subst hwc
        obtain ⟨k, o, hk, rfl, hM, HO, HF, hoff⟩ := hrel
        have sR := hoff.size
        have hbw : Below w.heap.size w wc := hBb.trans (hoff.toBelow hBb.size (fun b hb => by have := hz b hb; omega))
        have q_f0 := offc hoff hz (.inl la_f) lb_f qb_f0
        have q_f1 := offc hoff hz (.inl la_f) lb_f qb_f1
        have l_f : w.heap.size < wc.heap.size := by omega
        by_cases hlt : k < f.1.length
        · have hI : (k : Int) < (f.1.length : Int) := by omega
          obtain ⟨b, off, x, rfl, hx, hcx, hx1, hx2, hbm, hbl, hfz⟩ := rep_int_at hM.out (i := k) hlt
          have hfz := hfz rfl
          have HMX := Lib.hid (show mrk o k = x from getI_at hx.out)
          by_cases h0 : 0 ≤ x
          · have HN := Lib.hid (HO.out.skip hlt (by rw [HMX.out]; exact h0))
            clear hx HMX HO
            go_wp2
            go_roundw
            case rel => exact ⟨k + 1, o, by omega, by go_num, hM, HN, HF, hoff⟩
            case measure => simp [intOf]; omega
          · have hol : k < o.length := by rw [HO.out.rng.1]; exact hlt
            have HNM := Lib.hid (show ¬ 0 ≤ mrk o k by rw [HMX.out]; exact h0)
            have hs1 := Lib.hid (rep_int_set hM.out hx.out ⟨hx1, hx2⟩ (y := 0) ⟨by omega, by omega⟩)
            have hof1 := Lib.hid (hoff.setCell (p := ⟨b, off + k, none⟩) hbm.out (.int .i64 0))
            have HH := Lib.hid (Hr.start (f := f) (sex := sex) (Inn.start (f := f) (sex := sex) HO.out.rng hlt) hlt (by rw [mrk_set hol, if_pos rfl]; exact Int.le_refl _))
            have nf1 : ¬ b = w.heap.size := by have := hz b hbm.out; omega
            have nf2 : ¬ w.heap.size = b := by omega
            have hzc := Lib.hid (show InZ Wa.heap.size (wc.setCell ⟨b, off + k, none⟩ (.int .i64 0)).heap.size fp from fun c hc => by have := hz c hc; simp; omega)
            clear hM hx HMX hoff HF
            go_wp2_with fail
            refine (halves_any _ _ _ _ f (HFD.out _ hof1.out) sex H2.out.symm H1.out.symm (o.set k 0) fp hs1.out Wa.heap.size hzc.out (by simp; omega) (by omega) HH.out).mono ?_
            rintro e w1 ⟨t, o', rfl, hr1, ho1, HT, HNT⟩
            have hoff1 := hof1.out.trans ho1
            have q_f0 := offc hoff1 hz (.inl la_f) lb_f qb_f0
            have q_f1 := offc hoff1 hz (.inl la_f) lb_f qb_f1
            have hbw1 : Below w.heap.size w w1 := hBb.trans (hoff1.toBelow hBb.size (fun b hb => by have := hz b hb; omega))
            have hM1 := Lib.hid hr1
            clear hr1 ho1 hs1 hof1 HH hzc
            cases t
            · obtain ⟨rfl, rfl⟩ := HR.out.no (fun hx => HNT.out rfl (HO.out.begin hlt (by have := HNM.out; omega) HIN.out HUN.out hx))
              clear HO HNM HT HNT hM1 HR
              go_wp2
              exact bodyPost_ret (v := .tuple #[.slice none 0 0, .bool false]) (by simp [results, go_sem]) rfl ⟨_, rfl, Ow.nil _ _ _, bwT⟩
            · have HF2 := Lib.hid (HT.out rfl).2
              have HN := Lib.hid (HO.out.next hlt (by have := HNM.out; omega) HIN.out HUN.out (HT.out rfl).1 HF2.out.clo)
              clear HO HNM HT HNT
              go_wp2
              go_roundw
              case rel => exact ⟨k + 1, o', by omega, by go_num, hM1, HN, HF2, hoff1⟩
              case measure => simp [intOf]; omega
        · obtain rfl : k = f.1.length := by omega
          have nIk : ¬ (f.1.length : Int) < (f.1.length : Int) := by omega
          obtain ⟨rfl, rfl⟩ := HR.out.yes (HO.out.least_of (HF.out.val HO.out.rng HO.out.done HUN.out))
          have HW := Lib.hid (show Ow w.heap.size wc.heap.size wc [_] X from ⟨fp, hM.out, fun b hb => by have := hz b hb; omega, HND.out⟩)
          clear HO HF HR hM
          go_wp2
          exact bodyPost_ret (v := .tuple #[.slice aoM f.1.length capM, .bool true]) (by simp [results, go_sem]) rfl ⟨_, rfl, HW.out, bwT⟩

end

/-! ### Fnd3 -/
section

section
variable {z : Bool} {lo hi : Nat} (w : World) (v v2 : Value) (f : Fam)
set_option maxHeartbeats 1000000 in
theorem founderOfI_b (h : Rd z lo hi w [v, v2] f) (p sex : Int) (bp : I64 p) (X : Int) (V : Bool) (hX : X = foX f p sex) (hV : V = foV f p sex) :
    Calls Try.prog 10 #[.agg #[v, v2], .int .i64 p, .int .i64 sex] w (PostIB w X V) := by
  obtain ⟨ha, -⟩ := h.fam
  obtain ⟨r1, hlet_r1⟩ : ∃ r, r = hasB f [p] := ⟨_, rfl⟩
  have H1 := Lib.hid hlet_r1
  clear hlet_r1
  obtain ⟨r2, hlet_r2⟩ : ∃ r, r = sexB sex := ⟨_, rfl⟩
  have H2 := Lib.hid hlet_r2
  clear hlet_r2
  have hh : hasB f [p] = (famB f && inB f p) := by simp [hasB]
  have HV := Lib.hid (show V = (r1 && r2) by rw [hV, foV, H1.out, H2.out, hh])
  have HX := Lib.hid (show X = if (r1 && r2) = true then ((fo f.1 sex p.toNat : Nat) : Int) else 0 by rw [hX, foX, ← hV, HV.out])
  have HH := Lib.hid hh
  clear hX hV hh
  go_enter Try.func10, Try.ntmps10
  go_wp2_with fail
  refine (has_b (z' := true) (lo' := w.heap.size + 1) (hi' := w.heap.size + 1 + 1) _ _ _ _ f (h.below bwT) [p] (by have := Rd.lit1 (w.alloc (.cells #[v, v2] 26)) 3 p bp; simpa using this) r1 H1.out).mono ?_
  rintro e3 w3 ⟨rfl, hbw3⟩
  have hpw3 : Below w.heap.size w w3 := Below.after bwT hbw3 szT
  have sw3 := hpw3.size
  have hBw3 : Below w.heap.size w w3 := hpw3
  have l_f : w.heap.size < w3.heap.size := by have := hbw3.size; simp at this; omega
  have q_f0 : w3.cell? ⟨w.heap.size, 0, none⟩ = some (v) := oldc hbw3 ltT (by simp [go_sem])
  have q_f1 : w3.cell? ⟨w.heap.size, 1, none⟩ = some (v2) := oldc hbw3 ltT (by simp [go_sem])
  clear hbw3 hpw3
  cases r1
  · go_wp2
    exact bodyPost_ret (v := .tuple #[.int .i64 0, .bool false]) (by simp [results, go_sem]) rfl ⟨by rw [HX.out, HV.out]; rfl, bwT⟩
  go_wp2_with fail
  refine (isSex_b _ sex r2 H2.out).mono ?_
  rintro e4 w4 ⟨rfl, hbw4⟩
  have hpw4 : Below w3.heap.size w3 w4 := Below.after bwT hbw4 szT
  have sw4 := hpw4.size
  have hBw4 : Below w.heap.size w w4 := Below.trans hBw3 (Below.mono hpw4 hBw3.size)
  have q_f0 := oldc hpw4 l_f q_f0
  have q_f1 := oldc hpw4 l_f q_f1
  have l_f := Nat.lt_of_lt_of_le l_f sw4
  clear hbw4 hpw4
  cases r2
  · go_wp2
    exact bodyPost_ret (v := .tuple #[.int .i64 0, .bool false]) (by simp [results, go_sem]) rfl ⟨by rw [HX.out, HV.out]; rfl, bwT⟩
  have hfi : famB f = true ∧ inB f p = true := by
    have := H1.out
    rw [HH.out] at this
    simpa using this.symm
  obtain ⟨h40, -, hP, -⟩ := famB_facts hfi.1
  have hin : 0 ≤ p ∧ p < f.1.length := by simpa [inB] using hfi.2
  obtain ⟨m, rfl⟩ := Int.eq_ofNat_of_zero_le hin.1
  have hm : m < f.1.length := by omega
  clear hfi hin
  go_wp2_with fail
  refine (founder_any _ sex _ _ f.1 (ha.below bwT) hP m hm).mono ?_
  rintro e5 w5 ⟨rfl, hbw5⟩
  have hpw5 : Below w4.heap.size w4 w5 := Below.after bwT hbw5 szT
  have sw5 := hpw5.size
  have hBw5 : Below w.heap.size w w5 := Below.trans hBw4 (Below.mono hpw5 hBw4.size)
  have q_f0 := oldc hpw5 l_f q_f0
  have q_f1 := oldc hpw5 l_f q_f1
  have l_f := Nat.lt_of_lt_of_le l_f sw5
  clear hbw5 hpw5
  have HF := Lib.hid (show X = ((fo f.1 sex m : Nat) : Int) by rw [HX.out, Int.toNat_natCast]; rfl)
  have HT := Lib.hid (show V = true by rw [HV.out]; rfl)
  clear HX HV hP
  go_wp2
  exact bodyPost_ret (v := .tuple #[.int .i64 (fo f.1 sex m : Nat), .bool true]) (by simp [results, go_sem]) rfl ⟨by rw [HF.out, HT.out], bwT⟩
set_option maxHeartbeats 1000000 in
theorem founderOfS_b (h : Rd z lo hi w [v, v2] f) (p sex : Int) (X : Int) (V : Bool) (hX : X = foX f p sex) (hV : V = foV f p sex) :
    Calls Try.prog 17 #[.agg #[v, v2], .int .i64 p, .int .i64 sex] w (PostIB w X V) := by
  obtain ⟨ha, -⟩ := h.fam
  obtain ⟨r1, hlet_r1⟩ : ∃ r, r = (famB f && inB f p) := ⟨_, rfl⟩
  have H1 := Lib.hid hlet_r1
  clear hlet_r1
  obtain ⟨r2, hlet_r2⟩ : ∃ r, r = sexB sex := ⟨_, rfl⟩
  have H2 := Lib.hid hlet_r2
  clear hlet_r2
  have HV := Lib.hid (show V = (r1 && r2) by rw [hV, foV, H1.out, H2.out])
  have HX := Lib.hid (show X = if (r1 && r2) = true then ((fo f.1 sex p.toNat : Nat) : Int) else 0 by rw [hX, foX, ← hV, HV.out])
  clear hX hV
  go_enter Try.func17, Try.ntmps17
  go_wp2_with fail
  refine (l7Sex_b _ sex r2 H2.out).mono ?_
  rintro e6 w6 ⟨rfl, hbw6⟩
  have hpw6 : Below w.heap.size w w6 := Below.after bwT hbw6 szT
  have sw6 := hpw6.size
  have hBw6 : Below w.heap.size w w6 := hpw6
  have l_f : w.heap.size < w6.heap.size := by have := hbw6.size; simp at this; omega
  have q_f0 : w6.cell? ⟨w.heap.size, 0, none⟩ = some (v) := oldc hbw6 ltT (by simp [go_sem])
  have q_f1 : w6.cell? ⟨w.heap.size, 1, none⟩ = some (v2) := oldc hbw6 ltT (by simp [go_sem])
  clear hbw6 hpw6
  cases r2
  · go_wp2
    exact bodyPost_ret (v := .tuple #[.int .i64 0, .bool false]) (by simp [results, go_sem]) rfl ⟨by rw [HX.out, HV.out]; simp, bwT⟩
  go_wp2_with fail
  refine (l1Has_b _ _ _ f (h.below bwT) p r1 H1.out).mono ?_
  rintro e7 w7 ⟨rfl, hbw7⟩
  have hpw7 : Below w6.heap.size w6 w7 := Below.after bwT hbw7 szT
  have sw7 := hpw7.size
  have hBw7 : Below w.heap.size w w7 := Below.trans hBw6 (Below.mono hpw7 hBw6.size)
  have q_f0 := oldc hpw7 l_f q_f0
  have q_f1 := oldc hpw7 l_f q_f1
  have l_f := Nat.lt_of_lt_of_le l_f sw7
  clear hbw7 hpw7
  cases r1
  · go_wp2
    exact bodyPost_ret (v := .tuple #[.int .i64 0, .bool false]) (by simp [results, go_sem]) rfl ⟨by rw [HX.out, HV.out]; rfl, bwT⟩
  have hfi : famB f = true ∧ inB f p = true := by simpa using H1.out.symm
  obtain ⟨h40, -, hP, -⟩ := famB_facts hfi.1
  have hin : 0 ≤ p ∧ p < f.1.length := by simpa [inB] using hfi.2
  obtain ⟨m, rfl⟩ := Int.eq_ofNat_of_zero_le hin.1
  have hm : m < f.1.length := by omega
  clear hfi hin
  go_wp2_with fail
  refine (l7Founder_any _ _ _ sex f.1 (ha.below bwT) hP m hm H2.out.symm).mono ?_
  rintro e8 w8 ⟨rfl, hbw8⟩
  have hpw8 : Below w7.heap.size w7 w8 := Below.after bwT hbw8 szT
  have sw8 := hpw8.size
  have hBw8 : Below w.heap.size w w8 := Below.trans hBw7 (Below.mono hpw8 hBw7.size)
  have q_f0 := oldc hpw8 l_f q_f0
  have q_f1 := oldc hpw8 l_f q_f1
  have l_f := Nat.lt_of_lt_of_le l_f sw8
  clear hbw8 hpw8
  have HF := Lib.hid (show X = ((fo f.1 sex m : Nat) : Int) by rw [HX.out, Int.toNat_natCast]; rfl)
  have HT := Lib.hid (show V = true by rw [HV.out]; rfl)
  clear HX HV hP
  go_wp2
  exact bodyPost_ret (v := .tuple #[.int .i64 (fo f.1 sex m : Nat), .bool true]) (by simp [results, go_sem]) rfl ⟨by rw [HF.out, HT.out], bwT⟩
end

end

end Go.Proofs.Ytefbbbhidnnchaa
