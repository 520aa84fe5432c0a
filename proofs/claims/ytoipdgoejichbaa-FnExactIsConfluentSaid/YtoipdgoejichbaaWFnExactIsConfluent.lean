/- The walk of the law FnExactIsConfluent. -/
import Derived.Test.YtoipdgoejichbaaCon
import Derived.Test.YtoipdgoejichbaaDRule
namespace Go.Proofs.Ytoipdgoejichbaa
set_option linter.unusedVariables false
set_option linter.unusedSimpArgs false
open Go.RowKit

set_option maxRecDepth 20000 in
set_option maxHeartbeats 8000000 in
theorem walk_FnExactIsConfluent (w : World) (c0a : Value) (rs : List Rul) (h0 : Rd false 0 w.heap.size w [c0a] rs) (n : Int) (b1 : I64 n) :
    Calls Try.prog 3 #[c0a, .int .i64 n] w (PostB w true) := by
  obtain ⟨ao0, len0, cap0, hcs0, hln0, hcn0, hcm0, -⟩ := h0.shape
  subst hcs0
  subst hln0
  unfold maxLen at hcm0
  have hle0 : rs.length ≤ 9223372036854775807 := by omega
  clear hcm0 hcn0
  by_cases hg0 : (1048576 : Int) < sszRul rs
  · go_enter Try.func3, Try.ntmps3
    go_wp2_with fail
    refine (szRuleS_any _ _ rs (h0.below bwT) _ (by omega) (by omega)).mono ?_
    rw [if_pos (by omega)]
    rintro e w1 ⟨rfl, hbw1⟩
    have hpw1 : Below w.heap.size w w1 := Below.after bwT hbw1 szT
    have sw1 := hpw1.size
    have hBw1 : Below w.heap.size w w1 := hpw1
    clear hbw1 hpw1
    go_wp2
    go_ret
    exact ⟨rfl, hBw1⟩
  have hq0 : ¬ ((1048576 : Int) < sszRul rs) := hg0
  have hcr := cntRul_le rs
  obtain ⟨r, hr⟩ : ∃ r, r = confX rs n := ⟨_, rfl⟩
  have HR := Lib.hid hr
  clear hr
  go_enter Try.func3, Try.ntmps3
  go_wp2_with fail
  refine (szRuleS_any _ _ rs (h0.below bwT) _ (by omega) (by omega)).mono ?_
  rw [if_neg (by omega)]
  rintro e w2 ⟨rfl, hbw2⟩
  have hpw2 : Below w.heap.size w w2 := Below.after bwT hbw2 szT
  have sw2 := hpw2.size
  have hBw2 : Below w.heap.size w w2 := hpw2
  clear hbw2 hpw2
  go_wp2_with fail
  refine (toRuleS_any _ _ rs (h0.below bwT) (by omega)).mono ?_
  rintro e w3 ⟨t0a, rfl, ho_t0, hbw3⟩
  have hpw3 : Below w2.heap.size w2 w3 := Below.after bwT hbw3 szT
  have sw3 := hpw3.size
  have hBw3 : Below w.heap.size w w3 := Below.trans hBw2 (Below.mono hpw3 hBw2.size)
  clear hbw3 hpw3
  go_wp2_with fail
  refine (confS_b _ _ rs n (ho_t0.rd.below bwT) r HR.out).mono ?_
  rintro e w4 ⟨rfl, hbw4⟩
  have hpw4 : Below w3.heap.size w3 w4 := Below.after bwT hbw4 szT
  have sw4 := hpw4.size
  have hBw4 : Below w.heap.size w w4 := Below.trans hBw3 (Below.mono hpw4 hBw3.size)
  have ho_t0 := Ow.below ho_t0 hpw4
  clear hbw4 hpw4
  clear ho_t0
  go_wp2_with fail
  refine (toRuleS_any _ _ rs (h0.below bwT) (by omega)).mono ?_
  rintro e w5 ⟨x0a, rfl, ho_x0, hbw5⟩
  have hpw5 : Below w4.heap.size w4 w5 := Below.after bwT hbw5 szT
  have sw5 := hpw5.size
  have hBw5 : Below w.heap.size w w5 := Below.trans hBw4 (Below.mono hpw5 hBw4.size)
  clear hbw5 hpw5
  go_wp2_with fail
  refine (confI_b _ _ rs n (ho_x0.rd.below bwT) r HR.out).mono ?_
  rintro e w6 ⟨rfl, hbw6⟩
  have hpw6 : Below w5.heap.size w5 w6 := Below.after bwT hbw6 szT
  have sw6 := hpw6.size
  have hBw6 : Below w.heap.size w w6 := Below.trans hBw5 (Below.mono hpw6 hBw5.size)
  have ho_x0 := Ow.below ho_x0 hpw6
  clear hbw6 hpw6
  go_wp2_with fail
  refine (toRuleS_any _ _ rs (h0.below bwT) (by omega)).mono ?_
  rintro e w7 ⟨y0a, rfl, ho_y0, hbw7⟩
  have hpw7 : Below w6.heap.size w6 w7 := Below.after bwT hbw7 szT
  have sw7 := hpw7.size
  have hBw7 : Below w.heap.size w w7 := Below.trans hBw6 (Below.mono hpw7 hBw6.size)
  have ho_x0 := Ow.below ho_x0 hpw7
  clear hbw7 hpw7
  go_wp2_with fail
  refine (eqRuleS_b _ _ _ rs rs (ho_x0.rd.below bwT) (ho_y0.rd.below bwT) true (by simp)).mono ?_
  rintro e w8 ⟨rfl, hbw8⟩
  have hpw8 : Below w7.heap.size w7 w8 := Below.after bwT hbw8 szT
  have sw8 := hpw8.size
  have hBw8 : Below w.heap.size w w8 := Below.trans hBw7 (Below.mono hpw8 hBw7.size)
  have ho_x0 := Ow.below ho_x0 hpw8
  have ho_y0 := Ow.below ho_y0 hpw8
  clear hbw8 hpw8
  clear ho_y0
  go_wp2
  go_ret
  exact ⟨rfl, hBw8⟩
end Go.Proofs.Ytoipdgoejichbaa
