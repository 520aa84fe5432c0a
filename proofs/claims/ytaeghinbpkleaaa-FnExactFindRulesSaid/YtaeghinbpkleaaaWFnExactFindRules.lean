/- The walk of the law FnExactFindRules. -/
import Derived.Test.YtaeghinbpkleaaaFnrW
import Derived.Test.YtaeghinbpkleaaaDTypePair
import Derived.Test.YtaeghinbpkleaaaDRule
namespace Go.Proofs.Ytaeghinbpkleaaa
set_option linter.unusedVariables false
set_option linter.unusedSimpArgs false
open Go.RowKit

set_option maxRecDepth 20000 in
set_option maxHeartbeats 8000000 in
theorem walk_FnExactFindRules (w : World) (c0a : Value) (rs : List Rul) (h0 : Rd false 0 w.heap.size w [c0a] rs) (c1a : Value) (p : List TPr) (h1 : Rd false 0 w.heap.size w [c1a] p) (c2a : Value) (q : List TPr) (h2 : Rd false 0 w.heap.size w [c2a] q) :
    Calls Try.prog 3 #[c0a, c1a, c2a] w (PostB w true) := by
  obtain ⟨ao0, len0, cap0, hcs0, hln0, hcn0, hcm0, -⟩ := h0.shape
  subst hcs0
  subst hln0
  unfold maxLen at hcm0
  have hle0 : rs.length ≤ 9223372036854775807 := by omega
  clear hcm0 hcn0
  obtain ⟨ao1, len1, cap1, hcs1, hln1, hcn1, hcm1, -⟩ := h1.shape
  subst hcs1
  subst hln1
  unfold maxLen at hcm1
  have hle1 : p.length ≤ 9223372036854775807 := by omega
  clear hcm1 hcn1
  obtain ⟨ao2, len2, cap2, hcs2, hln2, hcn2, hcm2, -⟩ := h2.shape
  subst hcs2
  subst hln2
  unfold maxLen at hcm2
  have hle2 : q.length ≤ 9223372036854775807 := by omega
  clear hcm2 hcn2
  by_cases hg0 : (1048576 : Int) < sszRul rs
  · go_enter Try.func3, Try.ntmps3
    go_wp2_with fail
    refine (szRuleS_any _ _ rs (h0.below bwT) _ (by omega) (by omega)).mono ?_
    rw [if_pos (by omega)]
    rintro e w1 ⟨rfl, hbw1⟩
    have hpw1 : Below w.heap.size w w1 := Below.after bwT hbw1 szT
    have sw1 := hpw1.size
    have hBw1 : Below w.heap.size w w1 := hpw1
    clear hbw1 hpw1
    go_wp2
    go_ret
    exact ⟨rfl, hBw1⟩
  have hq0 : ¬ ((1048576 : Int) < sszRul rs) := hg0
  by_cases hg1 : (1048576 : Int) - sszRul rs < sszTPr p
  · go_enter Try.func3, Try.ntmps3
    go_wp2_with fail
    refine (szRuleS_any _ _ rs (h0.below bwT) _ (by omega) (by omega)).mono ?_
    rw [if_neg (by omega)]
    rintro e w2 ⟨rfl, hbw2⟩
    have hpw2 : Below w.heap.size w w2 := Below.after bwT hbw2 szT
    have sw2 := hpw2.size
    have hBw2 : Below w.heap.size w w2 := hpw2
    clear hbw2 hpw2
    go_wp2_with fail
    refine (szTypePairS_any _ _ p (h1.below bwT) _ (by omega) (by omega)).mono ?_
    rw [if_pos (by omega)]
    rintro e w3 ⟨rfl, hbw3⟩
    have hpw3 : Below w2.heap.size w2 w3 := Below.after bwT hbw3 szT
    have sw3 := hpw3.size
    have hBw3 : Below w.heap.size w w3 := Below.trans hBw2 (Below.mono hpw3 hBw2.size)
    clear hbw3 hpw3
    go_wp2
    go_ret
    exact ⟨rfl, hBw3⟩
  have hq1 : ¬ ((1048576 : Int) - sszRul rs < sszTPr p) := hg1
  by_cases hg2 : (1048576 : Int) - sszRul rs - sszTPr p < sszTPr q
  · go_enter Try.func3, Try.ntmps3
    go_wp2_with fail
    refine (szRuleS_any _ _ rs (h0.below bwT) _ (by omega) (by omega)).mono ?_
    rw [if_neg (by omega)]
    rintro e w4 ⟨rfl, hbw4⟩
    have hpw4 : Below w.heap.size w w4 := Below.after bwT hbw4 szT
    have sw4 := hpw4.size
    have hBw4 : Below w.heap.size w w4 := hpw4
    clear hbw4 hpw4
    go_wp2_with fail
    refine (szTypePairS_any _ _ p (h1.below bwT) _ (by omega) (by omega)).mono ?_
    rw [if_neg (by omega)]
    rintro e w5 ⟨rfl, hbw5⟩
    have hpw5 : Below w4.heap.size w4 w5 := Below.after bwT hbw5 szT
    have sw5 := hpw5.size
    have hBw5 : Below w.heap.size w w5 := Below.trans hBw4 (Below.mono hpw5 hBw4.size)
    clear hbw5 hpw5
    go_wp2_with fail
    refine (szTypePairS_any _ _ q (h2.below bwT) _ (by omega) (by omega)).mono ?_
    rw [if_pos (by omega)]
    rintro e w6 ⟨rfl, hbw6⟩
    have hpw6 : Below w5.heap.size w5 w6 := Below.after bwT hbw6 szT
    have sw6 := hpw6.size
    have hBw6 : Below w.heap.size w w6 := Below.trans hBw5 (Below.mono hpw6 hBw5.size)
    clear hbw6 hpw6
    go_wp2
    go_ret
    exact ⟨rfl, hBw6⟩
  have hq2 : ¬ ((1048576 : Int) - sszRul rs - sszTPr p < sszTPr q) := hg2
  have hcr := cntRul_le rs
  have hcp := cntTPr_le p
  have hcq := cntTPr_le q
  have hlp : p.length ≤ sszTPr p := Nat.le_add_right _ _
  have hlq : q.length ≤ sszTPr q := Nat.le_add_right _ _
  obtain ⟨V, hV⟩ : ∃ V, V = (findO rs p q).isSome := ⟨_, rfl⟩
  have HV := Lib.hid hV
  clear hV
  have hvv : (V != V) = false := by simp
  go_enter Try.func3, Try.ntmps3
  go_wp2_with fail
  refine (szRuleS_any _ _ rs (h0.below bwT) _ (by omega) (by omega)).mono ?_
  rw [if_neg (by omega)]
  rintro e w7 ⟨rfl, hbw7⟩
  have hpw7 : Below w.heap.size w w7 := Below.after bwT hbw7 szT
  have sw7 := hpw7.size
  have hBw7 : Below w.heap.size w w7 := hpw7
  clear hbw7 hpw7
  go_wp2_with fail
  refine (szTypePairS_any _ _ p (h1.below bwT) _ (by omega) (by omega)).mono ?_
  rw [if_neg (by omega)]
  rintro e w8 ⟨rfl, hbw8⟩
  have hpw8 : Below w7.heap.size w7 w8 := Below.after bwT hbw8 szT
  have sw8 := hpw8.size
  have hBw8 : Below w.heap.size w w8 := Below.trans hBw7 (Below.mono hpw8 hBw7.size)
  clear hbw8 hpw8
  go_wp2_with fail
  refine (szTypePairS_any _ _ q (h2.below bwT) _ (by omega) (by omega)).mono ?_
  rw [if_neg (by omega)]
  rintro e w9 ⟨rfl, hbw9⟩
  have hpw9 : Below w8.heap.size w8 w9 := Below.after bwT hbw9 szT
  have sw9 := hpw9.size
  have hBw9 : Below w.heap.size w w9 := Below.trans hBw8 (Below.mono hpw9 hBw8.size)
  clear hbw9 hpw9
  go_wp2_with fail
  refine (toRuleS_any _ _ rs (h0.below bwT) (by omega)).mono ?_
  rintro e w10 ⟨t0a, rfl, ho_t0, hbw10⟩
  have hpw10 : Below w9.heap.size w9 w10 := Below.after bwT hbw10 szT
  have sw10 := hpw10.size
  have hBw10 : Below w.heap.size w w10 := Below.trans hBw9 (Below.mono hpw10 hBw9.size)
  clear hbw10 hpw10
  go_wp2_with fail
  refine (toTypePairS_any _ _ p (h1.below bwT) (by omega)).mono ?_
  rintro e w11 ⟨t1a, rfl, ho_t1, hbw11⟩
  have hpw11 : Below w10.heap.size w10 w11 := Below.after bwT hbw11 szT
  have sw11 := hpw11.size
  have hBw11 : Below w.heap.size w w11 := Below.trans hBw10 (Below.mono hpw11 hBw10.size)
  have ho_t0 := Ow.below ho_t0 hpw11
  clear hbw11 hpw11
  go_wp2_with fail
  refine (toTypePairS_any _ _ q (h2.below bwT) (by omega)).mono ?_
  rintro e w12 ⟨t2a, rfl, ho_t2, hbw12⟩
  have hpw12 : Below w11.heap.size w11 w12 := Below.after bwT hbw12 szT
  have sw12 := hpw12.size
  have hBw12 : Below w.heap.size w w12 := Below.trans hBw11 (Below.mono hpw12 hBw11.size)
  have ho_t0 := Ow.below ho_t0 hpw12
  have ho_t1 := Ow.below ho_t1 hpw12
  clear hbw12 hpw12
  go_wp2_with fail
  refine (findS_any _ _  _  _ rs p q (ho_t0.rd.below bwT) (ho_t1.rd.below bwT) (ho_t2.rd.below bwT) (by omega) (by omega) V HV.out).mono ?_
  rintro e w13 ⟨ra, rfl, ho_r, hbw13⟩
  have hpw13 : Below w12.heap.size w12 w13 := Below.after bwT hbw13 szT
  have sw13 := hpw13.size
  have hBw13 : Below w.heap.size w w13 := Below.trans hBw12 (Below.mono hpw13 hBw12.size)
  have ho_t0 := Ow.below ho_t0 hpw13
  have ho_t1 := Ow.below ho_t1 hpw13
  have ho_t2 := Ow.below ho_t2 hpw13
  clear hbw13 hpw13
  clear ho_t0
  clear ho_t1
  clear ho_t2
  go_wp2_with fail
  refine (toRuleS_any _ _ rs (h0.below bwT) (by omega)).mono ?_
  rintro e w14 ⟨x0a, rfl, ho_x0, hbw14⟩
  have hpw14 : Below w13.heap.size w13 w14 := Below.after bwT hbw14 szT
  have sw14 := hpw14.size
  have hBw14 : Below w.heap.size w w14 := Below.trans hBw13 (Below.mono hpw14 hBw13.size)
  have ho_r := Ow.below ho_r hpw14
  clear hbw14 hpw14
  go_wp2_with fail
  refine (toTypePairS_any _ _ p (h1.below bwT) (by omega)).mono ?_
  rintro e w15 ⟨x1a, rfl, ho_x1, hbw15⟩
  have hpw15 : Below w14.heap.size w14 w15 := Below.after bwT hbw15 szT
  have sw15 := hpw15.size
  have hBw15 : Below w.heap.size w w15 := Below.trans hBw14 (Below.mono hpw15 hBw14.size)
  have ho_r := Ow.below ho_r hpw15
  have ho_x0 := Ow.below ho_x0 hpw15
  clear hbw15 hpw15
  go_wp2_with fail
  refine (toTypePairS_any _ _ q (h2.below bwT) (by omega)).mono ?_
  rintro e w16 ⟨x2a, rfl, ho_x2, hbw16⟩
  have hpw16 : Below w15.heap.size w15 w16 := Below.after bwT hbw16 szT
  have sw16 := hpw16.size
  have hBw16 : Below w.heap.size w w16 := Below.trans hBw15 (Below.mono hpw16 hBw15.size)
  have ho_r := Ow.below ho_r hpw16
  have ho_x0 := Ow.below ho_x0 hpw16
  have ho_x1 := Ow.below ho_x1 hpw16
  clear hbw16 hpw16
  go_wp2_with fail
  refine (findI_any _ _  _  _ rs p q (ho_x0.rd.below bwT) (ho_x1.rd.below bwT) (ho_x2.rd.below bwT) (by omega) (by omega) V HV.out).mono ?_
  rintro e w17 ⟨ga, rfl, ho_g, hbw17⟩
  have hpw17 : Below w16.heap.size w16 w17 := Below.after bwT hbw17 szT
  have sw17 := hpw17.size
  have hBw17 : Below w.heap.size w w17 := Below.trans hBw16 (Below.mono hpw17 hBw16.size)
  have ho_r := Ow.below ho_r hpw17
  have ho_x0 := Ow.below ho_x0 hpw17
  have ho_x1 := Ow.below ho_x1 hpw17
  have ho_x2 := Ow.below ho_x2 hpw17
  clear hbw17 hpw17
  go_wp2_with fail
  refine (eqIntS_b _ _ _ (findX rs p q) (findX rs p q) (ho_g.rd.below bwT) (ho_r.rd.below bwT) true (by simp)).mono ?_
  rintro e w18 ⟨rfl, hbw18⟩
  have hpw18 : Below w17.heap.size w17 w18 := Below.after bwT hbw18 szT
  have sw18 := hpw18.size
  have hBw18 : Below w.heap.size w w18 := Below.trans hBw17 (Below.mono hpw18 hBw17.size)
  have ho_r := Ow.below ho_r hpw18
  have ho_x0 := Ow.below ho_x0 hpw18
  have ho_x1 := Ow.below ho_x1 hpw18
  have ho_x2 := Ow.below ho_x2 hpw18
  have ho_g := Ow.below ho_g hpw18
  clear hbw18 hpw18
  go_wp2_with fail
  refine (toRuleS_any _ _ rs (h0.below bwT) (by omega)).mono ?_
  rintro e w19 ⟨y0a, rfl, ho_y0, hbw19⟩
  have hpw19 : Below w18.heap.size w18 w19 := Below.after bwT hbw19 szT
  have sw19 := hpw19.size
  have hBw19 : Below w.heap.size w w19 := Below.trans hBw18 (Below.mono hpw19 hBw18.size)
  have ho_r := Ow.below ho_r hpw19
  have ho_x0 := Ow.below ho_x0 hpw19
  have ho_x1 := Ow.below ho_x1 hpw19
  have ho_x2 := Ow.below ho_x2 hpw19
  have ho_g := Ow.below ho_g hpw19
  clear hbw19 hpw19
  go_wp2_with fail
  refine (eqRuleS_b _ _ _ rs rs (ho_x0.rd.below bwT) (ho_y0.rd.below bwT) true (by simp)).mono ?_
  rintro e w20 ⟨rfl, hbw20⟩
  have hpw20 : Below w19.heap.size w19 w20 := Below.after bwT hbw20 szT
  have sw20 := hpw20.size
  have hBw20 : Below w.heap.size w w20 := Below.trans hBw19 (Below.mono hpw20 hBw19.size)
  have ho_r := Ow.below ho_r hpw20
  have ho_x0 := Ow.below ho_x0 hpw20
  have ho_x1 := Ow.below ho_x1 hpw20
  have ho_x2 := Ow.below ho_x2 hpw20
  have ho_g := Ow.below ho_g hpw20
  have ho_y0 := Ow.below ho_y0 hpw20
  clear hbw20 hpw20
  clear ho_y0
  go_wp2_with fail
  refine (toTypePairS_any _ _ p (h1.below bwT) (by omega)).mono ?_
  rintro e w21 ⟨y1a, rfl, ho_y1, hbw21⟩
  have hpw21 : Below w20.heap.size w20 w21 := Below.after bwT hbw21 szT
  have sw21 := hpw21.size
  have hBw21 : Below w.heap.size w w21 := Below.trans hBw20 (Below.mono hpw21 hBw20.size)
  have ho_r := Ow.below ho_r hpw21
  have ho_x0 := Ow.below ho_x0 hpw21
  have ho_x1 := Ow.below ho_x1 hpw21
  have ho_x2 := Ow.below ho_x2 hpw21
  have ho_g := Ow.below ho_g hpw21
  clear hbw21 hpw21
  go_wp2_with fail
  refine (eqTypePairS_b _ _ _ p p (ho_x1.rd.below bwT) (ho_y1.rd.below bwT) true (by simp)).mono ?_
  rintro e w22 ⟨rfl, hbw22⟩
  have hpw22 : Below w21.heap.size w21 w22 := Below.after bwT hbw22 szT
  have sw22 := hpw22.size
  have hBw22 : Below w.heap.size w w22 := Below.trans hBw21 (Below.mono hpw22 hBw21.size)
  have ho_r := Ow.below ho_r hpw22
  have ho_x0 := Ow.below ho_x0 hpw22
  have ho_x1 := Ow.below ho_x1 hpw22
  have ho_x2 := Ow.below ho_x2 hpw22
  have ho_g := Ow.below ho_g hpw22
  have ho_y1 := Ow.below ho_y1 hpw22
  clear hbw22 hpw22
  clear ho_y1
  go_wp2_with fail
  refine (toTypePairS_any _ _ q (h2.below bwT) (by omega)).mono ?_
  rintro e w23 ⟨y2a, rfl, ho_y2, hbw23⟩
  have hpw23 : Below w22.heap.size w22 w23 := Below.after bwT hbw23 szT
  have sw23 := hpw23.size
  have hBw23 : Below w.heap.size w w23 := Below.trans hBw22 (Below.mono hpw23 hBw22.size)
  have ho_r := Ow.below ho_r hpw23
  have ho_x0 := Ow.below ho_x0 hpw23
  have ho_x1 := Ow.below ho_x1 hpw23
  have ho_x2 := Ow.below ho_x2 hpw23
  have ho_g := Ow.below ho_g hpw23
  clear hbw23 hpw23
  go_wp2_with fail
  refine (eqTypePairS_b _ _ _ q q (ho_x2.rd.below bwT) (ho_y2.rd.below bwT) true (by simp)).mono ?_
  rintro e w24 ⟨rfl, hbw24⟩
  have hpw24 : Below w23.heap.size w23 w24 := Below.after bwT hbw24 szT
  have sw24 := hpw24.size
  have hBw24 : Below w.heap.size w w24 := Below.trans hBw23 (Below.mono hpw24 hBw23.size)
  have ho_r := Ow.below ho_r hpw24
  have ho_x0 := Ow.below ho_x0 hpw24
  have ho_x1 := Ow.below ho_x1 hpw24
  have ho_x2 := Ow.below ho_x2 hpw24
  have ho_g := Ow.below ho_g hpw24
  have ho_y2 := Ow.below ho_y2 hpw24
  clear hbw24 hpw24
  clear ho_y2
  have hres : (findX rs p q).length ≤ 9 := findX_len rs p q
  obtain ⟨fp_x0, hr_x0, hz_x0, hn_x0⟩ := ho_x0
  go_wp2_with fail
  refine (markRuleS_any _ _ rs fp_x0 hr_x0 hn_x0 (1) (by omega) (by omega)).mono ?_
  rintro e w25 ⟨rfl, hr_x0, hoffw25⟩
  have sw25 := hoffw25.size
  have hBw25 : Below w.heap.size w w25 := Below.trans hBw24 (OffF.toBelow hoffw25 hBw24.size (fun b hb => Nat.le_trans (show w.heap.size ≤ w13.heap.size by omega) (hz_x0 b hb).1))
  have ho_r := Ow.keep ho_r (OffF.zone hoffw25 (by omega) hz_x0 (by omega))
  have ho_x1 := Ow.keep ho_x1 (OffF.zone hoffw25 (by omega) hz_x0 (by omega))
  have ho_x2 := Ow.keep ho_x2 (OffF.zone hoffw25 (by omega) hz_x0 (by omega))
  have ho_g := Ow.keep ho_g (OffF.zone hoffw25 (by omega) hz_x0 (by omega))
  have ho_x0 : Ow (w13.heap.size) (w14.heap.size) w25 [x0a] ((marksBy cntRul mkdRul 1 rs)) := ⟨fp_x0, hr_x0, hz_x0, hn_x0⟩
  clear hr_x0 hz_x0 hn_x0 hoffw25
  obtain ⟨fp_x1, hr_x1, hz_x1, hn_x1⟩ := ho_x1
  go_wp2_with fail
  refine (markTypePairS_any _ _ p fp_x1 hr_x1 hn_x1 ((1 + lenBy cntRul rs)) (by omega) (by omega)).mono ?_
  rintro e w26 ⟨rfl, hr_x1, hoffw26⟩
  have sw26 := hoffw26.size
  have hBw26 : Below w.heap.size w w26 := Below.trans hBw25 (OffF.toBelow hoffw26 hBw25.size (fun b hb => Nat.le_trans (show w.heap.size ≤ w14.heap.size by omega) (hz_x1 b hb).1))
  have ho_r := Ow.keep ho_r (OffF.zone hoffw26 (by omega) hz_x1 (by omega))
  have ho_x0 := Ow.keep ho_x0 (OffF.zone hoffw26 (by omega) hz_x1 (by omega))
  have ho_x2 := Ow.keep ho_x2 (OffF.zone hoffw26 (by omega) hz_x1 (by omega))
  have ho_g := Ow.keep ho_g (OffF.zone hoffw26 (by omega) hz_x1 (by omega))
  have ho_x1 : Ow (w14.heap.size) (w15.heap.size) w26 [x1a] ((marksBy cntTPr mkdTPr (1 + lenBy cntRul rs) p)) := ⟨fp_x1, hr_x1, hz_x1, hn_x1⟩
  clear hr_x1 hz_x1 hn_x1 hoffw26
  obtain ⟨fp_x2, hr_x2, hz_x2, hn_x2⟩ := ho_x2
  go_wp2_with fail
  refine (markTypePairS_any _ _ q fp_x2 hr_x2 hn_x2 (((1 + lenBy cntRul rs) + lenBy cntTPr p)) (by omega) (by omega)).mono ?_
  rintro e w27 ⟨rfl, hr_x2, hoffw27⟩
  have sw27 := hoffw27.size
  have hBw27 : Below w.heap.size w w27 := Below.trans hBw26 (OffF.toBelow hoffw27 hBw26.size (fun b hb => Nat.le_trans (show w.heap.size ≤ w15.heap.size by omega) (hz_x2 b hb).1))
  have ho_r := Ow.keep ho_r (OffF.zone hoffw27 (by omega) hz_x2 (by omega))
  have ho_x0 := Ow.keep ho_x0 (OffF.zone hoffw27 (by omega) hz_x2 (by omega))
  have ho_x1 := Ow.keep ho_x1 (OffF.zone hoffw27 (by omega) hz_x2 (by omega))
  have ho_g := Ow.keep ho_g (OffF.zone hoffw27 (by omega) hz_x2 (by omega))
  have ho_x2 : Ow (w15.heap.size) (w16.heap.size) w27 [x2a] ((marksBy cntTPr mkdTPr ((1 + lenBy cntRul rs) + lenBy cntTPr p) q)) := ⟨fp_x2, hr_x2, hz_x2, hn_x2⟩
  clear hr_x2 hz_x2 hn_x2 hoffw27
  go_wp2_with fail
  refine (eqIntS_b _ _ _ (findX rs p q) (findX rs p q) (ho_g.rd.below bwT) (ho_r.rd.below bwT) true (by simp)).mono ?_
  rintro e w28 ⟨rfl, hbw28⟩
  have hpw28 : Below w27.heap.size w27 w28 := Below.after bwT hbw28 szT
  have sw28 := hpw28.size
  have hBw28 : Below w.heap.size w w28 := Below.trans hBw27 (Below.mono hpw28 hBw27.size)
  have ho_r := Ow.below ho_r hpw28
  have ho_x0 := Ow.below ho_x0 hpw28
  have ho_x1 := Ow.below ho_x1 hpw28
  have ho_x2 := Ow.below ho_x2 hpw28
  have ho_g := Ow.below ho_g hpw28
  clear hbw28 hpw28
  clear ho_x0
  clear ho_x1
  clear ho_x2
  obtain ⟨fp_g, hr_g, hz_g, hn_g⟩ := ho_g
  go_wp2_with fail
  refine (markIntS_any _ _ (findX rs p q) fp_g hr_g (1) (by omega) (by omega)).mono ?_
  rintro e w29 ⟨rfl, hr_g, hoffw29⟩
  have sw29 := hoffw29.size
  have hBw29 : Below w.heap.size w w29 := Below.trans hBw28 (OffF.toBelow hoffw29 hBw28.size (fun b hb => Nat.le_trans (show w.heap.size ≤ w16.heap.size by omega) (hz_g b hb).1))
  have ho_r := Ow.keep ho_r (OffF.zone hoffw29 (by omega) hz_g (by omega))
  have ho_g : Ow (w16.heap.size) (w17.heap.size) w29 [ga] (marks 1 (findX rs p q).length) := ⟨fp_g, hr_g, hz_g, hn_g⟩
  clear hr_g hz_g hn_g hoffw29
  go_wp2_with fail
  refine (heldIntS_any _ _ (findX rs p q).length 1 ho_g.rd (by omega) (by omega)).mono ?_
  rintro e w30 ⟨rfl, hbw30⟩
  have hpw30 : Below w29.heap.size w29 w30 := Below.after bwT hbw30 szT
  have sw30 := hpw30.size
  have hBw30 : Below w.heap.size w w30 := Below.trans hBw29 (Below.mono hpw30 hBw29.size)
  have ho_r := Ow.below ho_r hpw30
  have ho_g := Ow.below ho_g hpw30
  clear hbw30 hpw30
  go_wp2_with fail
  refine (toRuleS_any _ _ rs (h0.below bwT) (by omega)).mono ?_
  rintro e w31 ⟨z0a, rfl, ho_z0, hbw31⟩
  have hpw31 : Below w30.heap.size w30 w31 := Below.after bwT hbw31 szT
  have sw31 := hpw31.size
  have hBw31 : Below w.heap.size w w31 := Below.trans hBw30 (Below.mono hpw31 hBw30.size)
  have ho_r := Ow.below ho_r hpw31
  have ho_g := Ow.below ho_g hpw31
  clear hbw31 hpw31
  go_wp2_with fail
  refine (toTypePairS_any _ _ p (h1.below bwT) (by omega)).mono ?_
  rintro e w32 ⟨z1a, rfl, ho_z1, hbw32⟩
  have hpw32 : Below w31.heap.size w31 w32 := Below.after bwT hbw32 szT
  have sw32 := hpw32.size
  have hBw32 : Below w.heap.size w w32 := Below.trans hBw31 (Below.mono hpw32 hBw31.size)
  have ho_r := Ow.below ho_r hpw32
  have ho_g := Ow.below ho_g hpw32
  have ho_z0 := Ow.below ho_z0 hpw32
  clear hbw32 hpw32
  go_wp2_with fail
  refine (toTypePairS_any _ _ q (h2.below bwT) (by omega)).mono ?_
  rintro e w33 ⟨z2a, rfl, ho_z2, hbw33⟩
  have hpw33 : Below w32.heap.size w32 w33 := Below.after bwT hbw33 szT
  have sw33 := hpw33.size
  have hBw33 : Below w.heap.size w w33 := Below.trans hBw32 (Below.mono hpw33 hBw32.size)
  have ho_r := Ow.below ho_r hpw33
  have ho_g := Ow.below ho_g hpw33
  have ho_z0 := Ow.below ho_z0 hpw33
  have ho_z1 := Ow.below ho_z1 hpw33
  clear hbw33 hpw33
  go_wp2_with fail
  refine (findI_any _ _  _  _ rs p q (ho_z0.rd.below bwT) (ho_z1.rd.below bwT) (ho_z2.rd.below bwT) (by omega) (by omega) V HV.out).mono ?_
  rintro e w34 ⟨ha, rfl, ho_h, hbw34⟩
  have hpw34 : Below w33.heap.size w33 w34 := Below.after bwT hbw34 szT
  have sw34 := hpw34.size
  have hBw34 : Below w.heap.size w w34 := Below.trans hBw33 (Below.mono hpw34 hBw33.size)
  have ho_r := Ow.below ho_r hpw34
  have ho_g := Ow.below ho_g hpw34
  have ho_z0 := Ow.below ho_z0 hpw34
  have ho_z1 := Ow.below ho_z1 hpw34
  have ho_z2 := Ow.below ho_z2 hpw34
  clear hbw34 hpw34
  clear ho_z0
  clear ho_z1
  clear ho_z2
  go_wp2_with fail
  refine (eqIntS_b _ _ _ (findX rs p q) (findX rs p q) (ho_h.rd.below bwT) (ho_r.rd.below bwT) true (by simp)).mono ?_
  rintro e w35 ⟨rfl, hbw35⟩
  have hpw35 : Below w34.heap.size w34 w35 := Below.after bwT hbw35 szT
  have sw35 := hpw35.size
  have hBw35 : Below w.heap.size w w35 := Below.trans hBw34 (Below.mono hpw35 hBw34.size)
  have ho_r := Ow.below ho_r hpw35
  have ho_g := Ow.below ho_g hpw35
  have ho_h := Ow.below ho_h hpw35
  clear hbw35 hpw35
  clear ho_h
  go_wp2_with fail
  refine (heldIntS_any _ _ (findX rs p q).length 1 ho_g.rd (by omega) (by omega)).mono ?_
  rintro e w36 ⟨rfl, hbw36⟩
  have hpw36 : Below w35.heap.size w35 w36 := Below.after bwT hbw36 szT
  have sw36 := hpw36.size
  have hBw36 : Below w.heap.size w w36 := Below.trans hBw35 (Below.mono hpw36 hBw35.size)
  have ho_r := Ow.below ho_r hpw36
  have ho_g := Ow.below ho_g hpw36
  clear hbw36 hpw36
  go_wp2
  go_ret
  exact ⟨rfl, hBw36⟩
end Go.Proofs.Ytaeghinbpkleaaa
