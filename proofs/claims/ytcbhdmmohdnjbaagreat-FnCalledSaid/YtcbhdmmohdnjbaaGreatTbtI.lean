/- Contract of impl.TypesBetween. -/
import Derived.Test.YtcbhdmmohdnjbaaGreatWlk
import Derived.Test.YtcbhdmmohdnjbaaGreatShM
import Derived.Test.YtcbhdmmohdnjbaaGreatTrmC
import Derived.Test.YtcbhdmmohdnjbaaGreatFmiM
namespace Go.Proofs.YtcbhdmmohdnjbaaGreat
set_option linter.unusedVariables false
set_option linter.unusedSimpArgs false
open Go.RowKit
set_option maxHeartbeats 100000000
theorem Rd.litP (w : World) (E : TypeId) (p q : Int) (hp : I64 p) (hq : I64 q) : Rd true w.heap.size (w.heap.size + 1) (w.alloc (.cells #[.int .i64 p, .int .i64 q] E)) [.slice (some ⟨w.heap.size, 0, none⟩) 2 2] ([p, q] : List Int) := by
 refine ⟨[w.heap.size], ⟨_, rfl, some ⟨w.heap.size, 0, none⟩, 2, 2, rfl, rfl, Nat.le_refl _, by simp [maxLen], (fun h => by cases h), .inr ⟨w.heap.size, 0, [[.int .i64 p], [.int .i64 q]], [[], []], rfl, by simp, rfl, ⟨⟨rfl, hp, rfl⟩, ⟨rfl, hq, rfl⟩, trivial⟩, ?_, ?_⟩⟩, ?_⟩
 ·intro j c hj
  match j, hj with
  | 0, hj => simp at hj; subst hj; simp [go_sem]
  | 1, hj => simp at hj; subst hj; simp [go_sem]
 ·intro _ o; simp [go_sem]
 ·intro b hb; simp at hb; omega
def tbX (f : Fam) (a b n : Int) : List Kin := if hasB f [a, b] = true then typesB f a.toNat b.toNat n else []
theorem hasB2 {f : Fam} {a b : Int} (h : hasB f [a, b] = true) : famB f = true ∧ ∃ i j : Nat, a = i ∧ b = j ∧ i < f.1.length ∧ j < f.1.length := by
 unfold hasB inB at h
 simp only [List.all_cons, List.all_nil, Bool.and_true, Bool.and_eq_true, decide_eq_true_eq] at h
 obtain ⟨hf, ha, hb⟩ := h
 obtain ⟨i, hi⟩ := Int.eq_ofNat_of_zero_le ha.1
 obtain ⟨j, hj⟩ := Int.eq_ofNat_of_zero_le hb.1
 exact ⟨hf, i, j, hi, hj, by omega, by omega⟩
theorem sexP_at {f : Fam} {i : Nat} {nm : ByteArray} {sx fa mo bo di : Int} (h : f.1[i]? = some (nm, sx, fa, mo, bo, di)) : sexP f i = sx := by unfold sexP; rw [h]
theorem typesX_ks {ego n : Int} {te : Int} {tl : List Stp} (h : ((te, tl) : Kin) ∈ typesX ego n) : te = ego ∧ (∀ s ∈ tl, (1 ≤ s.1 ∧ s.1 ≤ 8) ∧ s.2 = 0) ∧ ¬ te = 0 ∧ (∀ s ∈ tl, 1 ≤ s.1 ∧ s.1 ≤ 8) := by
 obtain ⟨-, h1, h2, h3⟩ := typesX_ok h
 have h1 : te = ego := h1
 exact ⟨h1, h3, by omega, fun s hs => (h3 s hs).1⟩
set_option maxRecDepth 20000 in
theorem typesBtI_any {z : Bool} {lo hi : Nat} (w : World) (v v2 : Value) (f : Fam) (h : Rd z lo hi w [v, v2] f) (a b : Int) (ba : I64 a) (bb : I64 b) (n : Int) :
  Calls Tryz.prog 52 #[.agg #[v, v2], .int .i64 a, .int .i64 b, .int .i64 n] w (PostOw w (tbX f a b n)) := by
 obtain ⟨ao, an, cap, rfl, hn, -⟩ := h.fam.1.shape
 subst hn
 obtain ⟨bo, bn, dap, rfl, hn2, -⟩ := h.fam.2.shape
 subst hn2
 obtain ⟨r1, hlet_r1⟩ : ∃ r, r = hasB f [a, b] := ⟨_, rfl⟩
 have H1 := Hd hlet_r1
 clear hlet_r1
 obtain ⟨X, hX⟩ : ∃ X, X = tbX f a b n := ⟨_, rfl⟩
 rw [← hX]
 have HX := Hd (show X = if r1 = true then typesB f a.toNat b.toNat n else [] by rw [hX, H1.out]; rfl)
 have HH := Hd h
 clear hX h
 go_enter Tryz.func52, Tryz.ntmps52
 go_wp2_with fail
 refine (has_b (z' := true) (lo' := w.heap.size + 1) (hi' := w.heap.size + 1 + 1) _ _ _ _ f (HH.out.below bwT) [a, b] (by have := Rd.litP (w.alloc (.cells #[.slice ao f.1.length cap, .slice bo f.2.length dap] 37)) 3 a b ba bb; simpa using this) r1 H1.out).mono ?_
 rintro e1 w1 ⟨rfl, hbw1⟩
 have hpw1 : Below w.heap.size w w1 := Below.after bwT hbw1 szT
 have sw1 := hpw1.size
 have hBw1 : Below w.heap.size w w1 := hpw1
 have l_f : w.heap.size < w1.heap.size := by have := hbw1.size; simp at this; omega
 have q_f0 : w1.cell? ⟨w.heap.size, 0, none⟩ = some (.slice ao f.1.length cap) := oldc hbw1 ltT sgT
 have q_f1 : w1.cell? ⟨w.heap.size, 1, none⟩ = some (.slice bo f.2.length dap) := oldc hbw1 ltT sgT
 clear hbw1 hpw1
 cases r1
 ·obtain rfl : X = [] := by rw [HX.out]; rfl
  clear HH HX H1
  go_wp2
  go_ret
  exact ⟨_, rfl, Ow.nil _ _ _, hBw1⟩
 obtain ⟨hf, i, j, rfl, rfl, hi, hj⟩ := hasB2 H1.out.symm
 have h40 := (famB_facts hf).1
 have HX2 := Hd (show X = typesB f i j n by rw [HX.out]; simp)
 have HFB := Hd hf
 clear HX H1 hf
 go_wp2_with fail
 refine (newWalker_any _ _ _ f (HH.out.below bwT) HFB.out).mono ?_
 rintro e2 w2 ⟨B, rfl, hW, hbw2⟩
 have hpw2 : Below w1.heap.size w1 w2 := Below.after bwT hbw2 szT
 have sw2 := hpw2.size
 have hBw2 : Below w.heap.size w w2 := Below.trans hBw1 (Below.mono hpw2 hBw1.size)
 have q_f0 := oldc hpw2 l_f q_f0
 have q_f1 := oldc hpw2 l_f q_f1
 have l_f := ltL l_f sw2
 clear hbw2 hpw2
 obtain ⟨PB, PO, nm, sx, fa, mo, bo', di, e1, hXP, -, x1, -, -, -, -, -, -, -, -, -, -, -, -, pbl, -⟩ := (HH.out.below hBw2).fam.1.per_at hi
 subst e1
 have hsx : sexP f i = sx := sexP_at hXP.out
 have hiI : (i : Int) < (f.1.length : Int) := by omega
 have HWK := Hd hW
 clear hXP hW
 go_wp2_with fail
 refine (typesFromI_any _ sx n).mono ?_
 rintro e3 W0 ⟨ut, rfl, ho, hb3⟩
 have hp3 : Below w2.heap.size w2 W0 := Below.trans (show Below w2.heap.size w2 _ from bwT) (hb3.mono szT)
 have hB0 : Below w.heap.size w W0 := hBw2.trans (hp3.mono hBw2.size)
 have s0 := hB0.size
 obtain ⟨T, hT⟩ : ∃ T, T = typesX sx n := ⟨_, rfl⟩
 rw [← hT] at ho
 (try simp only [World.size_alloc, World.size_drew] at ho)
 obtain ⟨P, hP⟩ : ∃ P : Kin → Bool, P = fun t => leadsB f t.2 i j := ⟨_, rfl⟩
 have HF := Hd (show X = T.filter P by rw [HX2.out, hT, hP, typesB, hsx])
 have HPE := Hd (show ∀ te tl, leadsB f tl i j = P (te, tl) from fun te tl => by rw [hP])
 have HKS := Hd (show ∀ te tl, ((te, tl) : Kin) ∈ T → ∀ s ∈ tl, 1 ≤ s.1 ∧ s.1 ≤ 8 from fun te tl hm => by rw [hT] at hm; exact (typesX_ks hm).2.2.2)
 obtain ⟨tao, tn, tcap, rfl, htn, htc, htm, -⟩ := ho.rd.shape
 subst htn
 obtain ⟨FPS, hF1, hF2, hF3, hF4⟩ := ho.items
 have HI := Hd hF4
 have HND := Hd hF2
 have HIN := Hd hF3
 have HLN := Hd hF1
 have hTL : T.length ≤ 600 := by rw [hT]; exact typesX_len sx n
 have hrd := Hd ho.rd
 have HW0 := Hd (HWK.out.below hp3)
 have sw2 : w.heap.size ≤ w2.heap.size := hBw2.size
 clear hT hP hsx HX2 HWK hF1 hF2 hF3 hF4 ho q_f0 q_f1 l_f x1 hb3 hp3
 go_wp2
 go_loopw [10, 12, 30] (fun s10 _ s30 wr => ∃ k : Nat, k ≤ T.length ∧ s30 = .int .i64 k ∧ Hid (GS W0.heap.size wr 68 s10 ((T.take k).filter P) (FPS.take k)) ∧ Below W0.heap.size W0 wr) (fun _ _ s30 _ => T.length - (intOf s30).toNat)
 case atStart => exact ⟨0, Nat.zero_le _, rfl, Hd (GS.start _ _ _), Below.refl _ _⟩
 case round =>
  obtain ⟨wb, hwb⟩ : ∃ wm : World, wm = wr := ⟨_, rfl⟩
  subst hwb
  obtain ⟨k, hi1, rfl, hG, hbb⟩ := hrel
  have sB := hbb.size
  have hBb : Below w.heap.size w wb := hB0.trans (hbb.mono s0)
  by_cases hli : k < T.length
  ·have hIi : (k : Int) < (T.length : Int) := by omega
   obtain ⟨tb, toff, t, tv, rfl, ht, c0, c1, -, -, -, -, tlt, -⟩ := hrd.out.kin_at hli
   obtain ⟨b, off, cs, fp, e, hf, hr, hcs⟩ := HI.out k t ht.out
   simp only [Option.some.injEq, Addr.mk.injEq, and_true] at e
   obtain ⟨rfl, rfl⟩ := e
   obtain ⟨v', rfl, hti, hr2⟩ := repKin_inv hr
   obtain ⟨te, tl⟩ := t
   obtain ⟨sao, sn, scap, rfl, hsn, -⟩ := (show Rd true 0 W0.heap.size W0 [v'] tl from ⟨fp, hr2, fun b hb => ⟨Nat.zero_le _, Rep.lt hr2 b hb⟩⟩).shape
   subst hsn
   have k0 : wb.cell? ⟨tb, toff + k * 2, none⟩ = some (.int .i64 te) := oldc hbb omT (by have := hcs 0 _ rfl; simpa [Rep.sz] using this)
   have k1 : wb.cell? ⟨tb, toff + k * 2 + 1, none⟩ = some (.slice sao tl.length scap) := oldc hbb omT (by have := hcs 1 _ rfl; simpa [Rep.sz, Nat.add_assoc] using this)
   have hrt := Hd (show Rd true 0 W0.heap.size W0 [.int .i64 te, .slice sao tl.length scap] ((te, tl) : Kin) from ⟨fp, hr, fun b hb => ⟨Nat.zero_le _, Rep.lt hr b hb⟩⟩)
   have hR := Hd hr
   have HS1 := Hd (take_snoc ht.out)
   have HS2 := Hd (take_snoc hf)
   have HB := Hd (show ∀ b ∈ fp, b < W0.heap.size from fun b hb => Rep.lt hr b hb)
   have HKT := Hd (HKS.out te tl (List.mem_of_getElem? ht.out))
   obtain ⟨r2, hlet_r2⟩ : ∃ r, r = P (te, tl) := ⟨_, rfl⟩
   have HA := Hd hlet_r2
   clear hlet_r2
   have HAL := Hd (show r2 = leadsB f tl i j by rw [HA.out, HPE.out te tl])
   have hbA : Below W0.heap.size W0 (wb.alloc (.cells #[.int .i64 te, .slice sao tl.length scap] 68)) := hbb.alloc sB _
   have hGA := Hd (hG.out.alloc (.cells #[.int .i64 te, .slice sao tl.length scap] 68))
   clear ht hf hr hcs hr2 hG c0 c1 hti
   go_wp2_with fail
   refine (leads_any _ B f (HW0.out.below ?k1) h40 te _ tl (hrt.out.below ?k2) HKT.out i j hi hj r2 HAL.out).mono ?_
   case k1 => exact hbA
   case k2 => exact hbA
   rintro e w1 ⟨rfl, hb1⟩
   have b0 : w1.cell? ⟨wb.heap.size, 0, none⟩ = some (.int .i64 te) := oldc hb1 ltT sgT
   have b1 : w1.cell? ⟨wb.heap.size, 1, none⟩ = some (.slice sao tl.length scap) := oldc hb1 ltT sgT
   have s1 := hb1.size
   simp only [World.size_alloc] at s1
   have hbb1 : Below W0.heap.size W0 w1 := hbA.trans (hb1.mono hbA.size)
   have hG1 := Hd (hGA.out.below hb1)
   have hR1 := Hd (Rep.keep hR.out (fun b hb => hbb1.block b (HB.out b hb)))
   clear hb1 hGA
   cases r2
   ·have HN := Hd (hG1.out.skip fp)
    rw [← HS2.out, show (T.take k).filter P = (T.take (k + 1)).filter P by rw [HS1.out, List.filter_append, List.filter_cons_of_neg (by rw [← HA.out]; decide)]; simp] at HN
    clear hG1 HS1 HS2 HA HAL
    go_wp2
    go_roundw
    case rel => exact ⟨k + 1, by omega, by go_num, HN, hbb1⟩
    case measure => simp [intOf]; omega
   ·have hfl : ((T.take k).filter P).length ≤ 1000 := by
     have h1 := List.length_filter_le P (T.take k)
     have h2 : (T.take k).length ≤ T.length := by rw [List.length_take]; omega
     omega
    have hrA := Hd (show Rep.rep true (w1.alloc (.cells #[.int .i64 te, .slice sao tl.length scap] 68)) [.int .i64 te, .slice sao tl.length scap] ((te, tl) : Kin) fp from Rep.keep hR1.out (fun b hb => Below.heap_alloc _ _ _ (Rep.lt hR1.out b hb)))
    have hG2 := Hd (hG1.out.alloc (.cells #[.int .i64 te, .slice sao tl.length scap] 68))
    have sW1 : W0.heap.size ≤ (w1.alloc (.cells #[.int .i64 te, .slice sao tl.length scap] 68)).heap.size := by simp; omega
    have hbbA : Below W0.heap.size W0 (w1.alloc (.cells #[.int .i64 te, .slice sao tl.length scap] 68)) := hbb1.alloc omT _
    clear hG1
    go_wp2_with (at_builtin; refine wpList_push_sub rfl rfl slKin (by show (0 : Nat) < 2; omega) hG2.out rfl (ad := ⟨w1.heap.size, 0, none⟩) rfl (cs := [.int .i64 te, .slice sao tl.length scap]) (y := (te, tl)) ?k4 hrA.out HB.out mxT omT sW1 ?_)
    case k4 =>
     intro j c hj
     match j, hj with
     | 0, hj => simp at hj; subst hj; simp [Addr.add, go_sem]
     | 1, hj => simp at hj; subst hj; simp [Addr.add, go_sem]
    rintro v2 w2 hG3 hb2
    have HN := Hd hG3
    rw [← HS2.out, show (T.take k).filter P ++ [(te, tl)] = (T.take (k + 1)).filter P by rw [HS1.out, List.filter_append, List.filter_cons_of_pos HA.out.symm]; simp] at HN
    have hbb2 := hbbA.trans hb2
    clear hG3 hG2 HS1 HS2 HA HAL hb2
    go_wp2
    go_roundw
    case rel => exact ⟨k + 1, by omega, by go_num, HN, hbb2⟩
    case measure => simp [intOf]; omega
  ·obtain rfl : k = T.length := by omega
   have nI : ¬ (T.length : Int) < (T.length : Int) := by omega
   have hG2 := hG.out
   rw [List.take_length, List.take_of_length_le (by rw [HLN.out]; exact Nat.le_refl _)] at hG2
   have HW := Hd (GS.ow hG2 HND.out (l0 := w.heap.size) s0 (fun b hb => by have := HIN.out b hb; omega))
   clear hG hG2
   go_wp2
   go_ret
   exact ⟨_, rfl, by rw [HF.out]; exact HW.out, hBb⟩
end Go.Proofs.YtcbhdmmohdnjbaaGreat
