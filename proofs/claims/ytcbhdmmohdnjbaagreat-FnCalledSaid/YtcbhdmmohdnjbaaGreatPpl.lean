/- Contract of impl.PeopleCalled. Written by ppl_gen.py. -/
import Derived.Test.YtcbhdmmohdnjbaaGreatTbtI
import Derived.Test.YtcbhdmmohdnjbaaGreatTCal
import Derived.Test.YtcbhdmmohdnjbaaGreatTrmC
import Derived.Test.YtcbhdmmohdnjbaaGreatTwb
namespace Go.Proofs.YtcbhdmmohdnjbaaGreat
set_option linter.unusedVariables false
set_option linter.unusedSimpArgs false
open Go.RowKit
set_option maxHeartbeats 100000000
def pplR (f : Fam) (L : List Kin) (a b : Nat) : Bool := L.any fun t => leadsB f t.2 a b
def pplX (f : Fam) (y : Trm) (a : Int) (x : ByteArray) (n : Int) : List Int := if (isTerm y && hasB f [a]) = true then rowTo (pplR f (calX y (sexP f a.toNat) n x)) a.toNat f.1.length else []
def calP (y : Trm) (x : ByteArray) (t : Kin) : Bool := (termOf y t).isSome && decide (tmText (termOf y t) = x)
theorem calX_eq {y : Trm} {ego n : Int} {x : ByteArray} (h : isTerm y = true) : calX y ego n x = (typesX ego n).filter (calP y x) := by
 unfold calX tblX tblL
 rw [if_pos h, List.filterMap_filterMap, ← List.filterMap_eq_filter]
 congr 1
 funext t
 have hg : Option.guard (calP y x) t = if calP y x t = true then some t else none := rfl
 rw [hg]
 unfold entAt calP
 cases e : termOf y t with
 | none => simp
 | some s =>
   by_cases h2 : s = x
   ·simp [calAt, tmText, h2]
   ·simp [calAt, tmText, h2]
theorem calX_len (y : Trm) (ego n : Int) (x : ByteArray) : (calX y ego n x).length ≤ 600 := by
 unfold calX
 exact Nat.le_trans (List.length_filterMap_le _ _) (tblX_len y ego n)
theorem pplX_len (f : Fam) (y : Trm) (a : Int) (x : ByteArray) (n : Int) (h : hasB f [a] = true → f.1.length ≤ 40) : (pplX f y a x n).length ≤ 40 := by
 unfold pplX
 split
 ·rename_i h2
  rw [Bool.and_eq_true] at h2
  exact Nat.le_trans (rowTo_len _ _ _) (h h2.2)
 ·simp
theorem hasB1 {f : Fam} {a : Int} (h : hasB f [a] = true) : famB f = true ∧ ∃ i : Nat, a = i ∧ i < f.1.length := by
 unfold hasB inB at h
 simp only [List.all_cons, List.all_nil, Bool.and_true, Bool.and_eq_true, decide_eq_true_eq] at h
 obtain ⟨hf, ha⟩ := h
 obtain ⟨i, hi⟩ := Int.eq_ofNat_of_zero_le ha.1
 exact ⟨hf, i, hi, by omega⟩
theorem pplX_40 (f : Fam) (y : Trm) (a : Int) (x : ByteArray) (n : Int) : (pplX f y a x n).length ≤ 40 := pplX_len f y a x n fun h => (famB_facts (hasB1 h).1).1
theorem pplX_no {f : Fam} {y : Trm} {a : Int} {x : ByteArray} {n : Int} (h : (isTerm y && hasB f [a]) = false) : pplX f y a x n = [] := if_neg (by rw [h]; decide)
set_option maxRecDepth 20000 in
theorem pplI_any {z z1 : Bool} {lo hi lo1 hi1 : Nat} (w : World) (v v2 y1 y2 : Value) (f : Fam) (y : Trm) (h : Rd z lo hi w [v, v2] f) (h' : Rd z1 lo1 hi1 w [y1, y2] y) (a : Int) (ba : I64 a) (xt : ByteArray) (n : Int) :
  Calls Tryz.prog 23 #[.agg #[v, v2], .agg #[y1, y2], .int .i64 a, .string xt, .int .i64 n] w (PostOw w (pplX f y a xt n)) := by
 obtain ⟨ao, an, cap, rfl, hn, -⟩ := h.fam.1.shape
 subst hn
 obtain ⟨bo, bn, dap, rfl, hn2, -⟩ := h.fam.2.shape
 subst hn2
 obtain ⟨rs, es⟩ := y
 obtain ⟨hy1, hy2⟩ := h'.two rfl
 dsimp only at hy1 hy2
 obtain ⟨ra, rn, rcap, rfl, -⟩ := hy1.shape
 obtain ⟨ea, en, ecap, rfl, -⟩ := hy2.shape
 have HH := Hd h
 have HY := Hd h'
 obtain ⟨r1, hlet_r1⟩ : ∃ r, r = hasB f [a] := ⟨_, rfl⟩
 have H1 := Hd hlet_r1
 clear hlet_r1
 obtain ⟨r2, hlet_r2⟩ : ∃ r, r = isTerm (rs, es) := ⟨_, rfl⟩
 have H2 := Hd hlet_r2
 clear hlet_r2
 obtain ⟨X, hX⟩ : ∃ X, X = pplX f (rs, es) a xt n := ⟨_, rfl⟩
 rw [← hX]
 have HX := Hd hX
 have HE := Hd (show (isTerm (rs, es) && hasB f [a]) = (r2 && r1) by rw [H1.out, H2.out])
 clear h h' hy1 hy2 hX
 go_enter Tryz.func23, Tryz.ntmps23
 go_wp2_with fail
 refine (has_b (z' := true) (lo' := w.heap.size + 1 + 1) (hi' := w.heap.size + 1 + 1 + 1) _ _ _ _ f (HH.out.below bwT) [a] (by have := Rd.lit1 ((w.alloc (.cells #[.slice ao f.1.length cap, .slice bo f.2.length dap] 37)).alloc (.cells #[.slice ra rn rcap, .slice ea en ecap] 42)) 3 a ba; simpa using this) r1 H1.out).mono ?_
 rintro e1 w1 ⟨rfl, hbw1⟩
 have hpw1 : Below w.heap.size w w1 := Below.after bwT hbw1 szT
 have sw1 := hpw1.size
 have hBw1 : Below w.heap.size w w1 := hpw1
 have l_f : w.heap.size < w1.heap.size := by have := hbw1.size; simp at this; omega
 have q_f0 : w1.cell? ⟨w.heap.size, 0, none⟩ = some (.slice ao f.1.length cap) := oldc hbw1 ltT sgT
 have q_f1 : w1.cell? ⟨w.heap.size, 1, none⟩ = some (.slice bo f.2.length dap) := oldc hbw1 ltT sgT
 have l_y : w.heap.size + 1 < w1.heap.size := by have := hbw1.size; simp at this; omega
 have q_y0 : w1.cell? ⟨w.heap.size + 1, 0, none⟩ = some (.slice ra rn rcap) := oldc hbw1 ltT sgT
 have q_y1 : w1.cell? ⟨w.heap.size + 1, 1, none⟩ = some (.slice ea en ecap) := oldc hbw1 ltT sgT
 clear hbw1 hpw1
 cases r1
 ·obtain rfl : X = [] := by rw [HX.out]; exact pplX_no (by rw [HE.out, Bool.and_false])
  clear HX HE HH HY H1 H2
  go_wp2
  go_ret
  exact ⟨_, rfl, Ow.nil _ _ _, hBw1⟩
 go_wp2_with fail
 refine (isTermI_b _ _ _ rs es (HY.out.below bwT) r2 H2.out).mono ?_
 rintro e2 w2 ⟨rfl, hbw2⟩
 have hpw2 : Below w1.heap.size w1 w2 := Below.after bwT hbw2 szT
 have sw2 := hpw2.size
 have hBw2 : Below w.heap.size w w2 := Below.trans hBw1 (Below.mono hpw2 hBw1.size)
 have q_f0 := oldc hpw2 l_f q_f0
 have q_f1 := oldc hpw2 l_f q_f1
 have q_y0 := oldc hpw2 l_y q_y0
 have q_y1 := oldc hpw2 l_y q_y1
 have l_f := ltL l_f sw2
 have l_y := ltL l_y sw2
 clear hbw2 hpw2
 cases r2
 ·obtain rfl : X = [] := by rw [HX.out]; exact pplX_no (by rw [HE.out, Bool.false_and])
  clear HX HE HH HY H1 H2
  go_wp2
  go_ret
  exact ⟨_, rfl, Ow.nil _ _ _, hBw2⟩
 obtain ⟨hf, i, rfl, hi⟩ := hasB1 H1.out.symm
 have h40 := (famB_facts hf).1
 have HFB := Hd hf
 have HRS := Hd (show allRules rs from (areRules_facts (isTerm_facts H2.out.symm).1).2.1)
 have HT2 := H2
 go_wp2_with fail
 refine (newWalker_any _ _ _ f (HH.out.below bwT) HFB.out).mono ?_
 rintro e3 w3 ⟨B, rfl, hW, hbw3⟩
 have hpw3 : Below w2.heap.size w2 w3 := Below.after bwT hbw3 szT
 have sw3 := hpw3.size
 have hBw3 : Below w.heap.size w w3 := Below.trans hBw2 (Below.mono hpw3 hBw2.size)
 have q_f0 := oldc hpw3 l_f q_f0
 have q_f1 := oldc hpw3 l_f q_f1
 have q_y0 := oldc hpw3 l_y q_y0
 have q_y1 := oldc hpw3 l_y q_y1
 have l_f := ltL l_f sw3
 have l_y := ltL l_y sw3
 clear hbw3 hpw3
 obtain ⟨PB, PO, nm, sx, fa, mo, bo', di, e1, hXP, -, x1, -, -, -, -, -, -, -, -, -, -, -, -, pbl, -⟩ := (HH.out.below hBw3).fam.1.per_at hi
 subst e1
 have hsx : sexP f i = sx := sexP_at hXP.out
 have hiI : (i : Int) < (f.1.length : Int) := by omega
 have HWK := Hd hW
 have HX2 := Hd (show X = rowTo (pplR f ((typesX sx n).filter (calP (rs, es) xt))) i f.1.length by
  rw [HX.out, pplX, if_pos (by rw [HE.out]; rfl), Int.toNat_natCast, hsx, calX_eq H2.out.symm])
 clear hXP hW HX HE H1 H2 hf hsx
 go_wp2_with fail
 refine (typesFromI_any _ sx n).mono ?_
 rintro e3 W0 ⟨ut, rfl, ho, hb3⟩
 have hp3 : Below w3.heap.size w3 W0 := Below.trans (show Below w3.heap.size w3 _ from bwT) (hb3.mono szT)
 have hB0 : Below w.heap.size w W0 := hBw3.trans (hp3.mono hBw3.size)
 have s0 := hB0.size
 obtain ⟨T, hT⟩ : ∃ T, T = typesX sx n := ⟨_, rfl⟩
 rw [← hT] at ho
 (try simp only [World.size_alloc, World.size_drew] at ho)
 obtain ⟨P, hP⟩ : ∃ P : Kin → Bool, P = calP (rs, es) xt := ⟨_, rfl⟩
 have HF := Hd (show X = rowTo (pplR f (T.filter P)) i f.1.length by rw [HX2.out, hT, hP])
 have HPE := Hd (show ∀ t, calP (rs, es) xt t = P t from fun t => by rw [hP])
 have HKS := Hd (show ∀ te tl, ((te, tl) : Kin) ∈ T → isKin (te, tl) = true ∧ ∀ s ∈ tl, 1 ≤ s.1 ∧ s.1 ≤ 8 from fun te tl hm => by rw [hT] at hm; exact ⟨(typesX_ok hm).1, (typesX_ks hm).2.2.2⟩)
 obtain ⟨tao, tn, tcap, rfl, htn, htc, htm, -⟩ := ho.rd.shape
 subst htn
 obtain ⟨FPS, hF1, hF2, hF3, hF4⟩ := ho.items
 have HI := Hd hF4
 have HND := Hd hF2
 have HIN := Hd hF3
 have HLN := Hd hF1
 have hTL : T.length ≤ 600 := by rw [hT]; exact typesX_len sx n
 have hrd := Hd ho.rd
 have HW0 := Hd (HWK.out.below hp3)
 have qa_y0 := oldc hp3 l_y q_y0
 have qa_y1 := oldc hp3 l_y q_y1
 have qa_f0 := oldc hp3 l_f q_f0
 have qa_f1 := oldc hp3 l_f q_f1
 have la_y : w.heap.size + 1 < W0.heap.size := ltL l_y hp3.size
 have sw2 : w.heap.size ≤ w3.heap.size := hBw3.size
 clear hT hP HX2 HWK hF1 hF2 hF3 hF4 ho q_f0 q_f1 l_f q_y0 q_y1 l_y x1 hb3 hp3
 go_wp2
 go_loopw [12, 14, 15, 16, 42] (fun s12 _ _ _ s42 wr => ∃ k : Nat, k ≤ T.length ∧ s42 = .int .i64 k ∧ Hid (GS W0.heap.size wr 68 s12 ((T.take k).filter P) (FPS.take k)) ∧ Below W0.heap.size W0 wr) (fun _ _ _ _ s42 _ => T.length - (intOf s42).toNat)
 case atStart => exact ⟨0, Nat.zero_le _, rfl, Hd (GS.start _ _ _), Below.refl _ _⟩
 case round =>
  obtain ⟨wb, hwb⟩ : ∃ wm : World, wm = wr := ⟨_, rfl⟩
  subst hwb
  obtain ⟨k, hi1, rfl, hG, hbb⟩ := hrel
  have sB := hbb.size
  have hBb : Below w.heap.size w wb := hB0.trans (hbb.mono s0)
  have q_y0 := oldc hbb la_y qa_y0
  have q_y1 := oldc hbb la_y qa_y1
  have q_f0 := oldc hbb omT qa_f0
  have q_f1 := oldc hbb omT qa_f1
  have l_y := ltL la_y sB
  have l_f : w.heap.size < wb.heap.size := by omega
  by_cases hli : k < T.length
  ·have hIi : (k : Int) < (T.length : Int) := by omega
   obtain ⟨tb, toff, t, tv, rfl, ht, c0, c1, -, -, -, -, tlt, -⟩ := hrd.out.kin_at hli
   obtain ⟨b, off, cs, fp, e, hf, hr, hcs⟩ := HI.out k t ht.out
   simp only [Option.some.injEq, Addr.mk.injEq, and_true] at e
   obtain ⟨rfl, rfl⟩ := e
   obtain ⟨v', rfl, hti, hr2⟩ := repKin_inv hr
   obtain ⟨te, tl⟩ := t
   obtain ⟨sao, sn, scap, rfl, hsn, -⟩ := (show Rd true 0 W0.heap.size W0 [v'] tl from ⟨fp, hr2, fun b hb => ⟨Nat.zero_le _, Rep.lt hr2 b hb⟩⟩).shape
   subst hsn
   have k0 : wb.cell? ⟨tb, toff + k * 2, none⟩ = some (.int .i64 te) := oldc hbb omT (by have := hcs 0 _ rfl; simpa [Rep.sz] using this)
   have k1 : wb.cell? ⟨tb, toff + k * 2 + 1, none⟩ = some (.slice sao tl.length scap) := oldc hbb omT (by have := hcs 1 _ rfl; simpa [Rep.sz, Nat.add_assoc] using this)
   have hrt := Hd (show Rd true 0 W0.heap.size W0 [.int .i64 te, .slice sao tl.length scap] ((te, tl) : Kin) from ⟨fp, hr, fun b hb => ⟨Nat.zero_le _, Rep.lt hr b hb⟩⟩)
   have hR := Hd hr
   have HS1 := Hd (take_snoc ht.out)
   have HS2 := Hd (take_snoc hf)
   have HB := Hd (show ∀ b ∈ fp, b < W0.heap.size from fun b hb => Rep.lt hr b hb)
   have HKT := Hd (HKS.out te tl (List.mem_of_getElem? ht.out)).1
   obtain ⟨q, hlet_q⟩ : ∃ r, r = tmText (termOf (rs, es) (te, tl)) := ⟨_, rfl⟩
   have HQ := Hd hlet_q
   clear hlet_q
   obtain ⟨r2, hlet_r2⟩ : ∃ r, r = (termOf (rs, es) (te, tl)).isSome := ⟨_, rfl⟩
   have HR2 := Hd hlet_r2
   clear hlet_r2
   obtain ⟨r3, hlet_r3⟩ : ∃ r, r = P (te, tl) := ⟨_, rfl⟩
   have HA := Hd hlet_r3
   clear hlet_r3
   have HAL := Hd (show r3 = (r2 && decide (q = xt)) by rw [HA.out, ← HPE.out, calP, HR2.out, HQ.out])
   have hbA : Below W0.heap.size W0 (wb.alloc (.cells #[.int .i64 te, .slice sao tl.length scap] 68)) := hbb.alloc sB _
   have hbw : Below w.heap.size w (wb.alloc (.cells #[.int .i64 te, .slice sao tl.length scap] 68)) := hBb.alloc omT _
   have hGA := Hd (hG.out.alloc (.cells #[.int .i64 te, .slice sao tl.length scap] 68))
   clear ht hf hr hcs hr2 hG c0 c1 hti
   go_wp2_with fail
   refine (termTI_q _ _ _ _ _ rs es (te, tl) (HY.out.below ?k1) (hrt.out.below ?k2) HRS.out HKT.out q HQ.out r2 HR2.out).mono ?_
   case k1 => exact hbw
   case k2 => exact hbA
   rintro e w1 ⟨rfl, hb1⟩
   have b0 : w1.cell? ⟨wb.heap.size, 0, none⟩ = some (.int .i64 te) := oldc hb1 ltT sgT
   have b1 : w1.cell? ⟨wb.heap.size, 1, none⟩ = some (.slice sao tl.length scap) := oldc hb1 ltT sgT
   have s1 := hb1.size
   simp only [World.size_alloc] at s1
   have hbb1 : Below W0.heap.size W0 w1 := hbA.trans (hb1.mono hbA.size)
   have hG1 := Hd (hGA.out.below hb1)
   have hR1 := Hd (Rep.keep hR.out (fun b hb => hbb1.block b (HB.out b hb)))
   clear hb1 hGA
   cases r2
   ·obtain rfl : r3 = false := HAL.out
    have HN := Hd (hG1.out.skip fp)
    rw [← HS2.out, show (T.take k).filter P = (T.take (k + 1)).filter P by rw [HS1.out, List.filter_append, List.filter_cons_of_neg (by rw [← HA.out]; decide)]; simp] at HN
    clear hG1 HS1 HS2 HA HAL
    go_wp2
    go_roundw
    case rel => exact ⟨k + 1, by omega, by go_num, HN, hbb1⟩
    case measure => simp [intOf]; omega
   by_cases hq : q = xt
   ·have hq1 : (q.toList == xt.toList) = true := by rw [text_eq]; exact decide_eq_true hq
    obtain rfl : r3 = true := by rw [HAL.out, decide_eq_true hq]; rfl
    have hfl : ((T.take k).filter P).length ≤ 1000 := by
     have h1 := List.length_filter_le P (T.take k)
     have h2 : (T.take k).length ≤ T.length := by rw [List.length_take]; omega
     omega
    have hrA := Hd (show Rep.rep true (w1.alloc (.cells #[.int .i64 te, .slice sao tl.length scap] 68)) [.int .i64 te, .slice sao tl.length scap] ((te, tl) : Kin) fp from Rep.keep hR1.out (fun b hb => Below.heap_alloc _ _ _ (Rep.lt hR1.out b hb)))
    have hG2 := Hd (hG1.out.alloc (.cells #[.int .i64 te, .slice sao tl.length scap] 68))
    have sW1 : W0.heap.size ≤ (w1.alloc (.cells #[.int .i64 te, .slice sao tl.length scap] 68)).heap.size := by simp; omega
    have hbbA : Below W0.heap.size W0 (w1.alloc (.cells #[.int .i64 te, .slice sao tl.length scap] 68)) := hbb1.alloc omT _
    clear hG1 hq
    go_wp2_with (at_builtin; refine wpList_push_sub rfl rfl slKin (by show (0 : Nat) < 2; omega) hG2.out rfl (ad := ⟨w1.heap.size, 0, none⟩) rfl (cs := [.int .i64 te, .slice sao tl.length scap]) (y := (te, tl)) ?k4 hrA.out HB.out mxT omT sW1 ?_)
    case k4 =>
     intro j c hj
     match j, hj with
     | 0, hj => simp at hj; subst hj; simp [Addr.add, go_sem]
     | 1, hj => simp at hj; subst hj; simp [Addr.add, go_sem]
    rintro v2 w2 hG3 hb2
    have HN := Hd hG3
    rw [← HS2.out, show (T.take k).filter P ++ [(te, tl)] = (T.take (k + 1)).filter P by rw [HS1.out, List.filter_append, List.filter_cons_of_pos HA.out.symm]; simp] at HN
    have hbb2 := hbbA.trans hb2
    clear hG3 hG2 HS1 HS2 HA HAL hb2
    go_wp2
    go_roundw
    case rel => exact ⟨k + 1, by omega, by go_num, HN, hbb2⟩
    case measure => simp [intOf]; omega
   ·have hq1 : (q.toList == xt.toList) = false := by rw [text_eq]; exact decide_eq_false hq
    obtain rfl : r3 = false := by rw [HAL.out, decide_eq_false hq]; rfl
    have HN := Hd (hG1.out.skip fp)
    rw [← HS2.out, show (T.take k).filter P = (T.take (k + 1)).filter P by rw [HS1.out, List.filter_append, List.filter_cons_of_neg (by rw [← HA.out]; decide)]; simp] at HN
    clear hG1 HS1 HS2 HA HAL hq
    go_wp2
    go_roundw
    case rel => exact ⟨k + 1, by omega, by go_num, HN, hbb1⟩
    case measure => simp [intOf]; omega
  ·obtain rfl : k = T.length := by omega
   have nI : ¬ (T.length : Int) < (T.length : Int) := by omega
   obtain ⟨L, hL⟩ : ∃ L, L = T.filter P := ⟨_, rfl⟩
   have hG2 := hG.out
   rw [List.take_length, List.take_of_length_le (by rw [HLN.out]; exact Nat.le_refl _), ← hL] at hG2
   have HLR := Hd (GS.ow hG2 HND.out (l0 := w.heap.size) s0 (fun b hb => by have := HIN.out b hb; omega)).rd
   have HFL := Hd (show X = rowTo (pplR f L) i f.1.length by rw [HF.out, hL])
   have HLK := Hd (show ∀ te tl, ((te, tl) : Kin) ∈ L → ∀ s ∈ tl, 1 ≤ s.1 ∧ s.1 ≤ 8 from fun te tl hm => (HKS.out te tl (List.mem_filter.1 (by rw [hL] at hm; exact hm)).1).2)
   have hLL : L.length ≤ 600 := by rw [hL]; exact Nat.le_trans (List.length_filter_le _ _) hTL
   obtain ⟨lao, ln, lcap, rfl, hln, -⟩ := HLR.out.shape
   subst hln
   obtain ⟨WL, hWL⟩ : ∃ W : World, W = wb := ⟨_, rfl⟩
   subst hWL
   have HWL := Hd (HW0.out.below hbb)
   have sL : w.heap.size ≤ WL.heap.size := by omega
   clear hG hG2 hL HF hrd HI HND HIN HLN HKS HPE hbb q_y0 q_y1 qa_y0 qa_y1 qa_f0 qa_f1
   go_wp2
   go_loopw [17, 18, 20, 66, 71] (fun s17 _ _ s66 _ wr => ∃ b : Nat, b ≤ f.1.length ∧ s66 = .int .i64 b ∧ Hid (GL (α := Int) true WL.heap.size WL.heap.size wr.heap.size wr 3 s17 (rowTo (pplR f L) i b)) ∧ Below WL.heap.size WL wr) (fun _ _ _ s66 _ _ => f.1.length - (intOf s66).toNat)
   case atStart => exact ⟨0, Nat.zero_le _, rfl, Hd (GL.start _ _ _ _ _ _), Below.refl _ _⟩
   case round =>
    obtain ⟨wo, hwo⟩ : ∃ wm : World, wm = wr := ⟨_, rfl⟩
    subst hwo
    obtain ⟨b, hb1, rfl, HG, hbo⟩ := hrel
    have so := hbo.size
    by_cases hbl : b < f.1.length
    ·have hbI : (b : Int) < (f.1.length : Int) := by omega
     have hb64 : I64 (b : Int) := by unfold I64; omega
     obtain ⟨R, hR⟩ : ∃ R, R = rowTo (pplR f L) i b := ⟨_, rfl⟩
     have HRL := Hd (show R.length ≤ b by rw [hR]; exact rowTo_len _ _ _)
     have HR := Hd hR
     rw [← hR] at HG
     obtain ⟨pa, pc, rfl, -, -⟩ := HG.out.len
     clear hR
     go_wp2
     go_loopw [17, 20, 71] (fun s17 _ s71 wr => ∃ j : Nat, j ≤ L.length ∧ s71 = .int .i64 j ∧ s17 = .slice pa R.length pc ∧ Hid ((L.take j).any (fun t => leadsB f t.2 i b) = false) ∧ Below wo.heap.size wo wr) (fun _ _ s71 _ => L.length - (intOf s71).toNat)
     case atStart => exact ⟨0, Nat.zero_le _, rfl, rfl, Hd spT, Below.refl _ _⟩
     case round =>
      obtain ⟨wi, hwi⟩ : ∃ wm : World, wm = wr := ⟨_, rfl⟩
      subst hwi
      obtain ⟨j, hj1, rfl, rfl, HN, hbi⟩ := hrel
      have si := hbi.size
      have hBi : Below WL.heap.size WL wi := hbo.trans (hbi.mono so)
      by_cases hjl : j < L.length
      ·have hjI : (j : Int) < (L.length : Int) := by omega
       obtain ⟨tb, toff, t, tv, rfl, ht, c0, c1, -, hct, hrt, -, -, tlt⟩ := HLR.out.kin_at hjl
       obtain ⟨te, tl⟩ := t
       obtain ⟨sao, sn, scap, rfl, -⟩ := hct.shape
       have k0 := oldc hBi tlt c0
       have k1 := oldc hBi tlt c1
       dsimp only at k0
       have HRT := Hd hrt
       have HKB := Hd (HLK.out te tl (List.mem_of_getElem? ht.out))
       obtain ⟨r, hlet_r⟩ : ∃ r, r = leadsB f tl i b := ⟨_, rfl⟩
       have HR3 := Hd hlet_r
       clear hlet_r
       have HTK := Hd (show (L.take (j + 1)).any (fun t => leadsB f t.2 i b) = r by
        rw [take_snoc ht.out, List.any_append, HN.out, HR3.out]; simp)
       have HMM := Hd (List.mem_of_getElem? ht.out)
       have hbA : Below WL.heap.size WL (wi.alloc (.cells #[.int .i64 te, .slice sao sn scap] 68)) := hBi.alloc omT _
       have hbOA : Below wo.heap.size wo (wi.alloc (.cells #[.int .i64 te, .slice sao sn scap] 68)) := hbi.alloc omT _
       clear ht hct hrt c0 c1
       go_wp2_with fail
       refine (leads_any _ B f (HWL.out.below ?k1) h40 te _ tl (HRT.out.below ?k2) HKB.out i b hi hbl r HR3.out).mono ?_
       case k1 => exact hbA
       case k2 => exact hbA
       rintro e w1 ⟨rfl, hb1⟩
       have s1 := hb1.size
       simp only [World.size_alloc] at s1
       have hbo1 : Below wo.heap.size wo w1 := hbOA.trans (hb1.mono hbOA.size)
       have so1 := hbo1.size
       clear hb1 hbOA
       cases r
       ·clear HR3 HMM HN
        go_wp2
        go_roundw
        case rel => exact ⟨j + 1, by omega, by go_num, rfl, HTK, hbo1⟩
        case measure => simp [intOf]; omega
       ·have HNX := Hd (show rowTo (pplR f L) i (b + 1) = R ++ [(b : Int)] by
         rw [HR.out]
         exact rowTo_in (show pplR f L i b = true from List.any_eq_true.2 ⟨_, HMM.out, HR3.out.symm⟩))
        have HG1 := Hd (HG.out.below hbo1).top
        clear HR3 HMM HN HTK HG HR
        go_wp2_with (at_builtin; refine wpList_push rfl rfl slInt (by show (0 : Nat) < 1; omega) (HG1.out.alloc _) rfl (ad := ⟨w1.heap.size, 0, none⟩) rfl (cs := [.int .i64 b]) (y := (b : Int)) (lx := w1.heap.size) (hx' := w1.heap.size) ?c1 (It.flat (z := true) (w0 := w1) (fp := []) ⟨rfl, hb64, rfl⟩) omT (.inl szT) (by have := HRL.out; unfold maxLen; omega) (by have := HRL.out; omega) ?c2 ?_)
        case c1 =>
         intro j c hj
         match j, hj with
         | 0, hj => simp at hj; subst hj; simp [Addr.add]
        case c2 => simp; omega
        intro v3 w3 hG3 _ hb3
        have HG3 := Hd (show GL (α := Int) true WL.heap.size WL.heap.size w3.heap.size w3 3 v3 (rowTo (pplR f L) i (b + 1)) by rw [HNX.out]; exact hG3)
        have hbo3 : Below WL.heap.size WL w3 := (hbo.trans (hbo1.mono so)).trans (Below.trans (show Below WL.heap.size w1 _ from bwT) hb3)
        clear hG3 hb3 HG1
        go_wp2
        go_roundw
        case rel => exact ⟨b + 1, by omega, by go_num, HG3, hbo3⟩
        case measure => simp [intOf]; omega
      ·obtain rfl : j = L.length := by omega
       have hjI : ¬ (L.length : Int) < (L.length : Int) := by omega
       have HNX := Hd (show GL (α := Int) true WL.heap.size WL.heap.size wi.heap.size wi 3 _ (rowTo (pplR f L) i (b + 1)) by
        rw [rowTo_out (show pplR f L i b = false by have h := HN.out; rw [List.take_length] at h; exact h), ← HR.out]
        exact (HG.out.below hbi).top)
       clear HG HN HR
       go_wp2
       go_roundw
       case rel => exact ⟨b + 1, by omega, by go_num, HNX, hBi⟩
       case measure => simp [intOf]; omega
    ·obtain rfl : b = f.1.length := by omega
     have hbI : ¬ (f.1.length : Int) < (f.1.length : Int) := by omega
     have HG2 := Hd (show GL (α := Int) true WL.heap.size WL.heap.size wo.heap.size wo 3 _ X by rw [HFL.out]; exact HG.out)
     obtain ⟨xa, xc, rfl, -, -⟩ := HG2.out.len
     have hBo : Below w.heap.size w wo := hBb.trans (hbo.mono sL)
     clear HG
     go_wp2
     go_ret
     exact ⟨_, rfl, (HG2.out.ow (l0 := w.heap.size) sL sL), hBo⟩
end Go.Proofs.YtcbhdmmohdnjbaaGreat
