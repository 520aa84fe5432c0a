/- Contract of spec.TypesBetween. -/
import Derived.Test.YtcbhdmmohdnjbaaGreatWls
import Derived.Test.YtcbhdmmohdnjbaaGreatTbtI
import Derived.Test.YtcbhdmmohdnjbaaGreatTrmC
namespace Go.Proofs.YtcbhdmmohdnjbaaGreat
set_option linter.unusedVariables false
set_option linter.unusedSimpArgs false
open Go.RowKit

theorem leadsB_at {f : Fam} {l : List Stp} {i j : Nat} {x : Bool} (h : (reachL f (single f.1.length i) l)[j]? = some x) : x = leadsB f l i j := by
  rw [leadsB, List.getD_eq_getElem?_getD, h]; rfl
set_option maxRecDepth 20000 in
set_option maxHeartbeats 8000000 in
theorem typesBtS_any {z : Bool} {lo hi : Nat} (w : World) (v v2 : Value) (f : Fam) (h : Rd z lo hi w [v, v2] f) (a b : Int) (ba : I64 a) (bb : I64 b) (n : Int) :
    Calls Tryz.prog 94 #[.agg #[v, v2], .int .i64 a, .int .i64 b, .int .i64 n] w (PostOw w (tbX f a b n)) := by
  obtain ⟨ao, an, cap, rfl, hn, -⟩ := h.fam.1.shape
  subst hn
  obtain ⟨bo, bn, dap, rfl, hn2, -⟩ := h.fam.2.shape
  subst hn2
  obtain ⟨r1, hlet_r1⟩ : ∃ r, r = (famB f && inB f a) := ⟨_, rfl⟩
  have H1 := Lib.hid hlet_r1
  clear hlet_r1
  obtain ⟨r2, hlet_r2⟩ : ∃ r, r = (famB f && inB f b) := ⟨_, rfl⟩
  have H2 := Lib.hid hlet_r2
  clear hlet_r2
  obtain ⟨X, hX⟩ : ∃ X, X = tbX f a b n := ⟨_, rfl⟩
  rw [← hX]
  have HE := Lib.hid (show hasB f [a, b] = (r1 && r2) by rw [H1.out, H2.out]; unfold hasB; simp only [List.all_cons, List.all_nil, Bool.and_true]; cases famB f <;> simp)
  have HX := Lib.hid (show X = if (r1 && r2) = true then typesB f a.toNat b.toNat n else [] by rw [hX, ← HE.out]; rfl)
  have HH := Lib.hid h
  clear hX h
  go_enter Tryz.func94, Tryz.ntmps94
  go_wp2_with fail
  refine (l1Has_b _ _ _ f (HH.out.below bwT) a r1 H1.out).mono ?_
  rintro e1 w1 ⟨rfl, hbw1⟩
  have hpw1 : Below w.heap.size w w1 := Below.after bwT hbw1 szT
  have sw1 := hpw1.size
  have hBw1 : Below w.heap.size w w1 := hpw1
  have l_f : w.heap.size < w1.heap.size := by have := hbw1.size; simp at this; omega
  have q_f0 : w1.cell? ⟨w.heap.size, 0, none⟩ = some (.slice ao f.1.length cap) := oldc hbw1 ltT (by simp [go_sem])
  have q_f1 : w1.cell? ⟨w.heap.size, 1, none⟩ = some (.slice bo f.2.length dap) := oldc hbw1 ltT (by simp [go_sem])
  clear hbw1 hpw1
  cases r1
  · obtain rfl : X = [] := by rw [HX.out]; rfl
    clear HH HX H1 H2 HE
    go_wp2
    go_ret
    exact ⟨_, rfl, Ow.nil _ _ _, hBw1⟩
  go_wp2_with fail
  refine (l1Has_b _ _ _ f (HH.out.below bwT) b r2 H2.out).mono ?_
  rintro e2 w2 ⟨rfl, hbw2⟩
  have hpw2 : Below w1.heap.size w1 w2 := Below.after bwT hbw2 szT
  have sw2 := hpw2.size
  have hBw2 : Below w.heap.size w w2 := Below.trans hBw1 (Below.mono hpw2 hBw1.size)
  have q_f0 := oldc hpw2 l_f q_f0
  have q_f1 := oldc hpw2 l_f q_f1
  have l_f := Nat.lt_of_lt_of_le l_f sw2
  clear hbw2 hpw2
  cases r2
  · obtain rfl : X = [] := by rw [HX.out]; rfl
    clear HH HX H1 H2 HE
    go_wp2
    go_ret
    exact ⟨_, rfl, Ow.nil _ _ _, hBw2⟩
  obtain ⟨hf, i, j, rfl, rfl, hi, hj⟩ := hasB2 HE.out
  have h40 := (famB_facts hf).1
  have HX2 := Lib.hid (show X = typesB f i j n by rw [HX.out]; simp)
  have HFB := Lib.hid hf
  clear HX H1 H2 HE hf
  obtain ⟨PB, PO, nm, sx, fa, mo, bo', di, e1, hXP, -, x1, -, -, -, -, -, -, -, -, -, -, -, -, pbl, -⟩ := (HH.out.below hBw2).fam.1.per_at hi
  subst e1
  have hsx : sexP f i = sx := sexP_at hXP.out
  have hiI : (i : Int) < (f.1.length : Int) := by omega
  have HXP := Lib.hid hXP.out
  clear hXP
  go_wp2_with fail
  refine (typesFromS_any _ sx n).mono ?_
  rintro e3 W0 ⟨ut, rfl, ho, hb3⟩
  have hp3 : Below w2.heap.size w2 W0 := Below.trans (show Below w2.heap.size w2 _ from bwT) (hb3.mono szT)
  have hB0 : Below w.heap.size w W0 := hBw2.trans (hp3.mono hBw2.size)
  have s0 := hB0.size
  obtain ⟨T, hT⟩ : ∃ T, T = typesX sx n := ⟨_, rfl⟩
  rw [← hT] at ho
  (try simp only [World.size_alloc, World.size_drew] at ho)
  obtain ⟨P, hP⟩ : ∃ P : Kin → Bool, P = fun t => leadsB f t.2 i j := ⟨_, rfl⟩
  have HF := Lib.hid (show X = T.filter P by rw [HX2.out, hT, hP, typesB, hsx])
  have HPE := Lib.hid (show ∀ te tl, leadsB f tl i j = P (te, tl) from fun te tl => by rw [hP])
  have HKS := Lib.hid (show ∀ te tl, ((te, tl) : Kin) ∈ T → te = sx ∧ (∀ s ∈ tl, (1 ≤ s.1 ∧ s.1 ≤ 8) ∧ s.2 = 0) ∧ ¬ te = 0 from fun te tl hm => by rw [hT] at hm; exact ⟨(typesX_ks hm).1, (typesX_ks hm).2.1, (typesX_ks hm).2.2.1⟩)
  obtain ⟨tao, tn, tcap, rfl, htn, htc, htm, -⟩ := ho.rd.shape
  subst htn
  obtain ⟨FPS, hF1, hF2, hF3, hF4⟩ := ho.items
  have HI := Lib.hid hF4
  have HND := Lib.hid hF2
  have HIN := Lib.hid hF3
  have HLN := Lib.hid hF1
  have hTL : T.length ≤ 600 := by rw [hT]; exact typesX_len sx n
  have hrd := Lib.hid ho.rd
  have lF : w.heap.size < W0.heap.size := Nat.lt_of_lt_of_le l_f hp3.size
  have qa0 := oldc hp3 l_f q_f0
  have qa1 := oldc hp3 l_f q_f1
  have sw2 : w.heap.size ≤ w2.heap.size := hBw2.size
  clear hT hP hsx HX2 hF1 hF2 hF3 hF4 ho q_f0 q_f1 l_f x1 hb3 hp3
  go_wp2
  go_loopw [9, 11, 32] (fun s10 _ s30 wr => ∃ k : Nat, k ≤ T.length ∧ s30 = .int .i64 k ∧ Hid (GZ W0.heap.size wr 68 s10 ((T.take k).filter P) (FPS.take k)) ∧ Below W0.heap.size W0 wr) (fun _ _ s30 _ => T.length - (intOf s30).toNat)
  case atStart => exact ⟨0, Nat.zero_le _, rfl, Lib.hid (GZ.lit0 _ _ _ _), Below.refl _ _⟩
  case round =>
    obtain ⟨wb, hwb⟩ : ∃ wm : World, wm = wr := ⟨_, rfl⟩
    subst hwb
    obtain ⟨k, hi1, rfl, hG, hbb⟩ := hrel
    have sB := hbb.size
    have qb0 := oldc hbb lF qa0
    have qb1 := oldc hbb lF qa1
    have lb : w.heap.size < wb.heap.size := Nat.lt_of_lt_of_le lF sB
    have hBb : Below w.heap.size w wb := hB0.trans (hbb.mono s0)
    by_cases hli : k < T.length
    · have hIi : (k : Int) < (T.length : Int) := by omega
      obtain ⟨tb, toff, t, tv, rfl, ht, c0, c1, -, -, -, -, tlt, -⟩ := hrd.out.kin_at hli
      obtain ⟨b, off, cs, fp, e, hf, hr, hcs⟩ := HI.out k t ht.out
      simp only [Option.some.injEq, Addr.mk.injEq, and_true] at e
      obtain ⟨rfl, rfl⟩ := e
      obtain ⟨v', rfl, hti, hr2⟩ := repKin_inv hr
      obtain ⟨te, tl⟩ := t
      obtain ⟨sao, sn, scap, rfl, hsn, -⟩ := (show Rd true 0 W0.heap.size W0 [v'] tl from ⟨fp, hr2, fun b hb => ⟨Nat.zero_le _, Rep.lt hr2 b hb⟩⟩).shape
      subst hsn
      have k0 : wb.cell? ⟨tb, toff + k * 2, none⟩ = some (.int .i64 te) := oldc hbb (by omega) (by have := hcs 0 _ rfl; simpa [Rep.sz] using this)
      have k1 : wb.cell? ⟨tb, toff + k * 2 + 1, none⟩ = some (.slice sao tl.length scap) := oldc hbb (by omega) (by have := hcs 1 _ rfl; simpa [Rep.sz, Nat.add_assoc] using this)
      have hrt := Lib.hid (show Rd true 0 W0.heap.size W0 [.int .i64 te, .slice sao tl.length scap] ((te, tl) : Kin) from ⟨fp, hr, fun b hb => ⟨Nat.zero_le _, Rep.lt hr b hb⟩⟩)
      have hR := Lib.hid hr
      have HS1 := Lib.hid (take_snoc ht.out)
      have HS2 := Lib.hid (take_snoc hf)
      have HB := Lib.hid (show ∀ b ∈ fp, b < W0.heap.size from fun b hb => Rep.lt hr b hb)
      have HKT := Lib.hid (HKS.out te tl (List.mem_of_getElem? ht.out))
      obtain ⟨rfl, HKB, HK0⟩ := HKT.out
      have HAL := Lib.hid (HPE.out te tl)
      have hbA : Below W0.heap.size W0 (wb.alloc (.cells #[.int .i64 te, .slice sao tl.length scap] 68)) := hbb.alloc sB _
      have hGA := Lib.hid (hG.out.alloc (.cells #[.int .i64 te, .slice sao tl.length scap] 68))
      clear ht hf hr hcs hr2 hG c0 c1 hti
      go_wp2_with fail
      have hbw : Below w.heap.size w (wb.alloc (.cells #[.int .i64 te, .slice sao tl.length scap] 68)) := hBb.alloc (by omega) _
      refine (relativesS_any _ _ _ _ f (HH.out.below ?k0) HFB.out i hi te tl (hrt.out.below ?k2) HKB HK0 HXP.out rfl).mono ?_
      case k0 => exact hbw
      case k2 => exact hbA
      rintro e w1 ⟨u1, rfl, ho1, hb1⟩
      have hsl : (single f.1.length i).length = f.1.length := by unfold single; simp
      have hol : (reachL f (single f.1.length i) tl).length = f.1.length := reachL_len hsl _
      obtain ⟨ua, un, uc, rfl, hun, -⟩ := ho1.rd.shape
      rw [hol] at hun
      subst hun
      obtain ⟨bx, ofx, r2, hua, hx, x0, -⟩ := ho1.rd.bool_at (i := j) hj
      subst hua
      have HA := Lib.hid (show r2 = P (te, tl) by rw [← HAL.out]; exact leadsB_at hx.out)
      have hjI : (j : Int) < (f.1.length : Int) := by omega
      clear hx hol hsl ho1
      have b0 : w1.cell? ⟨wb.heap.size, 0, none⟩ = some (.int .i64 te) := oldc hb1 ltT (by simp [go_sem])
      have b1 : w1.cell? ⟨wb.heap.size, 1, none⟩ = some (.slice sao tl.length scap) := oldc hb1 ltT (by simp [go_sem])
      have s1 := hb1.size
      simp only [World.size_alloc] at s1
      have hbb1 : Below W0.heap.size W0 w1 := hbA.trans (hb1.mono hbA.size)
      have hG1 := Lib.hid (hGA.out.below hb1)
      have hR1 := Lib.hid (Rep.keep hR.out (fun b hb => hbb1.block b (HB.out b hb)))
      clear hb1 hGA
      cases r2
      · have HN := Lib.hid (hG1.out.skip fp)
        rw [← HS2.out, show (T.take k).filter P = (T.take (k + 1)).filter P by rw [HS1.out, List.filter_append, List.filter_cons_of_neg (by rw [← HA.out]; decide)]; simp] at HN
        clear hG1 HS1 HS2 HA HAL
        go_wp2
        go_roundw
        case rel => exact ⟨k + 1, by omega, by go_num, HN, hbb1⟩
        case measure => simp [intOf]; omega
      · have hfl : ((T.take k).filter P).length ≤ 1000 := by
          have h1 := List.length_filter_le P (T.take k)
          have h2 : (T.take k).length ≤ T.length := by rw [List.length_take]; omega
          omega
        have hrA := Lib.hid (show Rep.rep true (w1.alloc (.cells #[.int .i64 te, .slice sao tl.length scap] 68)) [.int .i64 te, .slice sao tl.length scap] ((te, tl) : Kin) fp from Rep.keep hR1.out (fun b hb => Below.heap_alloc _ _ _ (Rep.lt hR1.out b hb)))
        have hG2 := Lib.hid (hG1.out.alloc (.cells #[.int .i64 te, .slice sao tl.length scap] 68))
        have sW1 : W0.heap.size ≤ (w1.alloc (.cells #[.int .i64 te, .slice sao tl.length scap] 68)).heap.size := by simp; omega
        have hbbA : Below W0.heap.size W0 (w1.alloc (.cells #[.int .i64 te, .slice sao tl.length scap] 68)) := hbb1.alloc (by omega) _
        clear hG1
        go_wp2_with (at_builtin; refine wpList_push_subz rfl rfl slKin (by show (0 : Nat) < 2; omega) hG2.out rfl (ad := ⟨w1.heap.size, 0, none⟩) rfl (cs := [.int .i64 te, .slice sao tl.length scap]) (y := (te, tl)) ?k4 hrA.out HB.out (by unfold maxLen; omega) (by omega) sW1 ?_)
        case k4 =>
          intro j c hj
          match j, hj with
          | 0, hj => simp at hj; subst hj; simp [Addr.add, go_sem]
          | 1, hj => simp at hj; subst hj; simp [Addr.add, go_sem]
        rintro v2 w2 hG3 hb2
        have HN := Lib.hid hG3
        rw [← HS2.out, show (T.take k).filter P ++ [(te, tl)] = (T.take (k + 1)).filter P by rw [HS1.out, List.filter_append, List.filter_cons_of_pos HA.out.symm]; simp] at HN
        have hbb2 := hbbA.trans hb2
        clear hG3 hG2 HS1 HS2 HA HAL hb2
        go_wp2
        go_roundw
        case rel => exact ⟨k + 1, by omega, by go_num, HN, hbb2⟩
        case measure => simp [intOf]; omega
    · obtain rfl : k = T.length := by omega
      have nI : ¬ (T.length : Int) < (T.length : Int) := by omega
      have hG2 := hG.out
      rw [List.take_length, List.take_of_length_le (by rw [HLN.out]; exact Nat.le_refl _)] at hG2
      have HW := Lib.hid (GZ.ow hG2 HND.out (l0 := w.heap.size) s0 (fun b hb => by have := HIN.out b hb; omega))
      clear hG hG2
      go_wp2
      go_ret
      exact ⟨_, rfl, by rw [HF.out]; exact HW.out, hBb⟩
end Go.Proofs.YtcbhdmmohdnjbaaGreat
