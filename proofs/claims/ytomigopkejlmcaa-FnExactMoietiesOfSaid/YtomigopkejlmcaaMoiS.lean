/- Contract of MoietiesOf (spec). Written by mois_gen.py. -/
import Derived.Test.YtomigopkejlmcaaHalf
import Derived.Test.YtomigopkejlmcaaMoiI
namespace Go.Proofs.Ytomigopkejlmcaa
set_option linter.unusedVariables false
set_option linter.unusedSimpArgs false
open Go.RowKit

set_option maxRecDepth 20000 in
set_option maxHeartbeats 16000000 in
theorem moietiesS_any {z : Bool} {lo hi : Nat} (w : World) (v v2 : Value) (f : Fam) (h : Rd z lo hi w [v, v2] f) (sex : Int) (X : List Int) (V : Bool) (hXV : MoiAns f sex X V) :
    Calls Try.prog 39 #[.agg #[v, v2], .int .i64 sex] w (PostOwB w X V) := by
  have HXV := Lib.hid hXV
  obtain ⟨ha, hb⟩ := h.fam
  obtain ⟨ao, n, cap, rfl, hn, hnc, hcm, hnone⟩ := ha.shape
  obtain ⟨ao2, n2, cap2, rfl, hn2, hnc2, hcm2, hnone2⟩ := hb.shape
  subst hn hn2
  unfold maxLen at *
  obtain ⟨r1, hlet_r1⟩ : ∃ r, r = famB f := ⟨_, rfl⟩
  have H1 := Lib.hid hlet_r1
  clear hlet_r1
  obtain ⟨r2, hlet_r2⟩ : ∃ r, r = sexB sex := ⟨_, rfl⟩
  have H2 := Lib.hid hlet_r2
  clear hlet_r2
  have HQ := Lib.hid (show if (r1 && r2) = true then MoiRes f sex X V else (X = [] ∧ V = false) by rw [H1.out, H2.out]; exact hXV)
  clear hXV HXV hnone hnone2
  go_enter Try.func39, Try.ntmps39
  go_wp2_with fail
  refine (l7Sex_b _ sex r2 H2.out).mono ?_
  rintro e1 w1 ⟨rfl, hbw1⟩
  have hpw1 : Below w.heap.size w w1 := Below.after (by repeat' (first | (with_reducible exact Below.refl _ _) | (with_reducible assumption) | (with_reducible refine Below.alloc ?_ (by first | omega | (simp; omega) | simp) _) | (with_reducible refine Below.setCell ?_ (by first | omega | (simp; omega) | simp) _) | (with_reducible refine Below.drew ?_) | (with_reducible refine below_drewN ?_ _))) hbw1 (by first | omega | (simp only [World.size_alloc, World.size_setCell, World.size_drew] at *; omega) | (simp; omega) | simp)
  have sw1 := hpw1.size
  have hBw1 : Below w.heap.size w w1 := hpw1
  have l_f : w.heap.size < w1.heap.size := by have := hbw1.size; simp at this; omega
  have q_f0 : w1.cell? ⟨w.heap.size, 0, none⟩ = some (.slice ao f.1.length cap) := oldc hbw1 (by first | omega | (simp; omega) | (simp; done)) (by simp [go_sem])
  have q_f1 : w1.cell? ⟨w.heap.size, 1, none⟩ = some (.slice ao2 f.2.length cap2) := oldc hbw1 (by first | omega | (simp; omega) | (simp; done)) (by simp [go_sem])
  clear hbw1 hpw1
  cases r2
  · obtain ⟨rfl, rfl⟩ : X = [] ∧ V = false := by simpa using HQ.out
    clear h ha hb HQ
    go_wp2
    exact bodyPost_ret (v := .tuple #[.slice none 0 0, .bool false]) (by simp [results, go_sem]) rfl ⟨_, rfl, Ow.nil _ _ _, (by repeat' (first | (with_reducible exact Below.refl _ _) | (with_reducible assumption) | (with_reducible refine Below.alloc ?_ (by first | omega | (simp; omega) | simp) _) | (with_reducible refine Below.setCell ?_ (by first | omega | (simp; omega) | simp) _) | (with_reducible refine Below.drew ?_) | (with_reducible refine below_drewN ?_ _)))⟩
  go_wp2_with fail
  refine (isFamS_b _ _ _ f (h.below (by repeat' (first | (with_reducible exact Below.refl _ _) | (with_reducible assumption) | (with_reducible refine Below.alloc ?_ (by first | omega | (simp; omega) | simp) _) | (with_reducible refine Below.setCell ?_ (by first | omega | (simp; omega) | simp) _) | (with_reducible refine Below.drew ?_) | (with_reducible refine below_drewN ?_ _)))) r1 H1.out).mono ?_
  rintro e2 w2 ⟨rfl, hbw2⟩
  have hpw2 : Below w1.heap.size w1 w2 := Below.after (by repeat' (first | (with_reducible exact Below.refl _ _) | (with_reducible assumption) | (with_reducible refine Below.alloc ?_ (by first | omega | (simp; omega) | simp) _) | (with_reducible refine Below.setCell ?_ (by first | omega | (simp; omega) | simp) _) | (with_reducible refine Below.drew ?_) | (with_reducible refine below_drewN ?_ _))) hbw2 (by first | omega | (simp only [World.size_alloc, World.size_setCell, World.size_drew] at *; omega) | (simp; omega) | simp)
  have sw2 := hpw2.size
  have hBw2 : Below w.heap.size w w2 := Below.trans hBw1 (Below.mono hpw2 hBw1.size)
  have q_f0 := oldc hpw2 l_f q_f0
  have q_f1 := oldc hpw2 l_f q_f1
  have l_f := Nat.lt_of_lt_of_le l_f sw2
  clear hbw2 hpw2
  cases r1
  · obtain ⟨rfl, rfl⟩ : X = [] ∧ V = false := by simpa using HQ.out
    clear h ha hb HQ
    go_wp2
    exact bodyPost_ret (v := .tuple #[.slice none 0 0, .bool false]) (by simp [results, go_sem]) rfl ⟨_, rfl, Ow.nil _ _ _, (by repeat' (first | (with_reducible exact Below.refl _ _) | (with_reducible assumption) | (with_reducible refine Below.alloc ?_ (by first | omega | (simp; omega) | simp) _) | (with_reducible refine Below.setCell ?_ (by first | omega | (simp; omega) | simp) _) | (with_reducible refine Below.drew ?_) | (with_reducible refine below_drewN ?_ _)))⟩
  have HR := Lib.hid (show MoiRes f sex X V by simpa using HQ.out)
  obtain ⟨h40, h60, hP, hU⟩ := famB_facts H1.out.symm
  have HIN := Lib.hid (show ∀ p, p < f.1.length → fo f.1 sex p < f.1.length from fun p hp => fo_lt hP (Nat.le_refl _) sex p hp)
  have HUN := Lib.hid (show ∀ u ∈ f.2, u.1.toNat < f.1.length ∧ u.2.1.toNat < f.1.length from fun u hu => by
    obtain ⟨k, hk⟩ := List.mem_iff_getElem?.1 hu
    obtain ⟨m, wo, fr, tl⟩ := u
    have := uniOk_facts (hU k (List.getElem?_eq_some_iff.1 hk).1) hk
    dsimp only
    omega)
  have htop := h.top
  clear hP hU HQ ha hb h
  obtain ⟨Wa, hWa⟩ : ∃ W : World, W = w2 := ⟨_, rfl⟩
  subst hWa
  have hBa : Below w.heap.size w Wa := hBw2
  have sa := hBa.size
  have qa_f0 := q_f0
  have qa_f1 := q_f1
  have la_f : w.heap.size < Wa.heap.size := l_f
  go_wp2
  go_loopw [6, 20] (fun s6 s20 wr => ∃ k : Nat, k ≤ f.1.length ∧ s20 = .int .i64 k ∧ Hid (GL true Wa.heap.size Wa.heap.size wr.heap.size wr 3 s6 (List.replicate k (-1 : Int))) ∧ Below Wa.heap.size Wa wr) (fun _ s20 _ => f.1.length - (intOf s20).toNat)
  case atStart => exact ⟨0, Nat.zero_le _, rfl, Lib.hid ((GL.lit0 _ _ _ _ _ (Nat.le_refl _)).top), (by repeat' (first | (with_reducible exact Below.refl _ _) | (with_reducible assumption) | (with_reducible refine Below.alloc ?_ (by first | omega | (simp; omega) | simp) _) | (with_reducible refine Below.setCell ?_ (by first | omega | (simp; omega) | simp) _) | (with_reducible refine Below.drew ?_) | (with_reducible refine below_drewN ?_ _)))⟩
  case round =>
    obtain ⟨wb, hwb⟩ : ∃ wm : World, wm = wr := ⟨_, rfl⟩
    subst hwb
    obtain ⟨k, hk, rfl, hG, hbb⟩ := hrel
    have sI := hbb.size
    by_cases hlt : k < f.1.length
    · have hI : (k : Int) < (f.1.length : Int) := by omega
      have hG := hG.out
      go_wp2_with (at_builtin; refine wpList_push rfl rfl slInt (by show (0 : Nat) < 1; omega) (hG.alloc _) rfl (ad := ⟨wb.heap.size, 0, none⟩) rfl (cs := [.int .i64 (-1)]) (y := (-1 : Int)) (lx := wb.heap.size) (hx' := wb.heap.size) ?c1 (It.flat (z := true) (w0 := wb) (fp := []) ⟨rfl, ⟨by omega, by omega⟩, rfl⟩) (by omega) (.inl (by first | omega | (simp only [World.size_alloc, World.size_setCell, World.size_drew] at *; omega) | (simp; omega) | simp)) (by unfold maxLen; simp; omega) (by simp; omega) ?c2 ?_)
      case c1 =>
        intro j c hj
        match j, hj with
        | 0, hj => simp at hj; subst hj; simp [Addr.add]
      case c2 => first | omega | (simp; omega)
      intro v1 w3 hG3 _ hb3
      have HN := Lib.hid (show GL true Wa.heap.size Wa.heap.size w3.heap.size w3 3 v1 (List.replicate (k + 1) (-1 : Int)) by rw [List.replicate_succ']; exact hG3)
      have hbb3 : Below Wa.heap.size Wa w3 := Below.trans (by repeat' (first | (with_reducible exact Below.refl _ _) | (with_reducible assumption) | (with_reducible refine Below.alloc ?_ (by first | omega | (simp; omega) | simp) _) | (with_reducible refine Below.setCell ?_ (by first | omega | (simp; omega) | simp) _) | (with_reducible refine Below.drew ?_) | (with_reducible refine below_drewN ?_ _))) hb3
      clear hG hG3 hb3
      go_wp2
      go_roundw
      case rel => exact ⟨k + 1, by omega, by go_num, HN, hbb3⟩
      case measure => simp [intOf]; omega
    · obtain rfl : k = f.1.length := by omega
      have nI : ¬ (f.1.length : Int) < (f.1.length : Int) := by omega
      have how := GL.ow (l0 := Wa.heap.size) hG.out (Nat.le_refl _) (Nat.le_refl _)
      obtain ⟨aoM, capM, rfl, hcM1, hcM2⟩ := hG.out.len
      simp only [List.length_replicate] at how hcM1 ⊢
      obtain ⟨fp, hm, hz, hnd⟩ := how
      have HM := Lib.hid hm
      have HND := Lib.hid hnd
      have hBb : Below w.heap.size w wb := hBa.trans (hbb.mono sa)
      have qb_f0 := oldc hbb la_f qa_f0
      have qb_f1 := oldc hbb la_f qa_f1
      have lb_f := Nat.lt_of_lt_of_le la_f sI
      have HO0 := Lib.hid (Out.start (sex := sex) HIN.out HUN.out)
      have HF0 := Lib.hid (Fix.start (sex := sex) HIN.out HUN.out)
      have HFD := Lib.hid (show ∀ W, OffF fp wb W → Rd z lo w.heap.size W [.slice ao f.1.length cap, .slice ao2 f.2.length cap2] f from fun W hoff => (htop.keep (Below.zone hBb lo)).keep (hoff.zone (by have := hBb.size; omega) hz (.inr (by omega))))
      clear hG hm hnd htop hbb
      unfold maxLen at hcM2
      go_wp2
      go_loopw [7, 28] (fun _ s28 wr => ∃ (k : Nat) (o : List Int), k ≤ f.1.length ∧ s28 = .int .i64 k ∧ Hid (Rep.rep true wr [.slice aoM f.1.length capM] o fp) ∧ Hid (Out f sex k o) ∧ Hid (Fix f sex o) ∧ OffF fp wb wr) (fun _ s28 _ => f.1.length - (intOf s28).toNat)
      case atStart => exact ⟨0, _, Nat.zero_le _, rfl, HM, HO0, HF0, OffF.refl _ _⟩
      case round =>
        clear HM HO0 HF0
        obtain ⟨wc, hwc⟩ : ∃ wm : World, wm = wr := ⟨_, rfl⟩
        subst hwc
        obtain ⟨k, o, hk, rfl, hM, HO, HF, hoff⟩ := hrel
        have sR := hoff.size
        have hbw : Below w.heap.size w wc := hBb.trans (hoff.toBelow hBb.size (fun b hb => by have := hz b hb; omega))
        have q_f0 := offc hoff hz (.inl la_f) lb_f qb_f0
        have q_f1 := offc hoff hz (.inl la_f) lb_f qb_f1
        have l_f : w.heap.size < wc.heap.size := by omega
        by_cases hlt : k < f.1.length
        · have hI : (k : Int) < (f.1.length : Int) := by omega
          obtain ⟨b, off, x, rfl, hx, hcx, hx1, hx2, hbm, hbl, hfz⟩ := rep_int_at hM.out (i := k) hlt
          have hfz := hfz rfl
          have HMX := Lib.hid (show mrk o k = x from getI_at hx.out)
          by_cases h0 : 0 ≤ x
          · have HN := Lib.hid (HO.out.skip hlt (by rw [HMX.out]; exact h0))
            clear hx HMX HO
            go_wp2
            go_roundw
            case rel => exact ⟨k + 1, o, by omega, by go_num, hM, HN, HF, hoff⟩
            case measure => simp [intOf]; omega
          · have hol : k < o.length := by rw [HO.out.rng.1]; exact hlt
            have HNM := Lib.hid (show ¬ 0 ≤ mrk o k by rw [HMX.out]; exact h0)
            have hs1 := Lib.hid (rep_int_set hM.out hx.out ⟨hx1, hx2⟩ (y := 0) ⟨by omega, by omega⟩)
            have hof1 := Lib.hid (hoff.setCell (p := ⟨b, off + k, none⟩) hbm.out (.int .i64 0))
            have HH := Lib.hid (Hr.start (f := f) (sex := sex) (Inn.start (f := f) (sex := sex) HO.out.rng hlt) hlt (by rw [mrk_set hol, if_pos rfl]; exact Int.le_refl _))
            have nf1 : ¬ b = w.heap.size := by have := hz b hbm.out; omega
            have nf2 : ¬ w.heap.size = b := by omega
            have hzc := Lib.hid (show InZ Wa.heap.size (wc.setCell ⟨b, off + k, none⟩ (.int .i64 0)).heap.size fp from fun c hc => by have := hz c hc; simp; omega)
            clear hM hx HMX hoff HF
            go_wp2_with fail
            refine (halves_any _ _ _ _ f (HFD.out _ hof1.out) sex H2.out.symm H1.out.symm (o.set k 0) fp hs1.out Wa.heap.size hzc.out (by simp; omega) (by omega) HH.out).mono ?_
            rintro e w1 ⟨t, o', rfl, hr1, ho1, HT, HNT⟩
            have hoff1 := hof1.out.trans ho1
            have q_f0 := offc hoff1 hz (.inl la_f) lb_f qb_f0
            have q_f1 := offc hoff1 hz (.inl la_f) lb_f qb_f1
            have hbw1 : Below w.heap.size w w1 := hBb.trans (hoff1.toBelow hBb.size (fun b hb => by have := hz b hb; omega))
            have hM1 := Lib.hid hr1
            clear hr1 ho1 hs1 hof1 HH hzc
            cases t
            · obtain ⟨rfl, rfl⟩ := HR.out.no (fun hx => HNT.out rfl (HO.out.begin hlt (by have := HNM.out; omega) HIN.out HUN.out hx))
              clear HO HNM HT HNT hM1 HR
              go_wp2
              exact bodyPost_ret (v := .tuple #[.slice none 0 0, .bool false]) (by simp [results, go_sem]) rfl ⟨_, rfl, Ow.nil _ _ _, (by repeat' (first | (with_reducible exact Below.refl _ _) | (with_reducible assumption) | (with_reducible refine Below.alloc ?_ (by first | omega | (simp; omega) | simp) _) | (with_reducible refine Below.setCell ?_ (by first | omega | (simp; omega) | simp) _) | (with_reducible refine Below.drew ?_) | (with_reducible refine below_drewN ?_ _)))⟩
            · have HF2 := Lib.hid (HT.out rfl).2
              have HN := Lib.hid (HO.out.next hlt (by have := HNM.out; omega) HIN.out HUN.out (HT.out rfl).1 HF2.out.clo)
              clear HO HNM HT HNT
              go_wp2
              go_roundw
              case rel => exact ⟨k + 1, o', by omega, by go_num, hM1, HN, HF2, hoff1⟩
              case measure => simp [intOf]; omega
        · obtain rfl : k = f.1.length := by omega
          have nIk : ¬ (f.1.length : Int) < (f.1.length : Int) := by omega
          obtain ⟨rfl, rfl⟩ := HR.out.yes (HO.out.least_of (HF.out.val HO.out.rng HO.out.done HUN.out))
          have HW := Lib.hid (show Ow w.heap.size wc.heap.size wc [_] X from ⟨fp, hM.out, fun b hb => by have := hz b hb; omega, HND.out⟩)
          clear HO HF HR hM
          go_wp2
          exact bodyPost_ret (v := .tuple #[.slice aoM f.1.length capM, .bool true]) (by simp [results, go_sem]) rfl ⟨_, rfl, HW.out, (by repeat' (first | (with_reducible exact Below.refl _ _) | (with_reducible assumption) | (with_reducible refine Below.alloc ?_ (by first | omega | (simp; omega) | simp) _) | (with_reducible refine Below.setCell ?_ (by first | omega | (simp; omega) | simp) _) | (with_reducible refine Below.drew ?_) | (with_reducible refine below_drewN ?_ _)))⟩
end Go.Proofs.Ytomigopkejlmcaa
