/- The walk of the law FnExactAllRegular. -/
import Derived.Test.YtlnhhfebmeekhaaArgI
namespace Go.Proofs.Ytlnhhfebmeekhaa
set_option linter.unusedVariables false
set_option linter.unusedSimpArgs false
open Go.RowKit

set_option maxRecDepth 20000 in
set_option maxHeartbeats 8000000 in
theorem walk_FnExactAllRegular (w : World) (n : Int) (b0 : I64 n) :
    Calls Try.prog 3 #[.int .i64 n] w (PostB w true) := by
  obtain ⟨X, hX⟩ : ∃ X, X = if 1 ≤ n ∧ n ≤ 4 then sAll n.toNat else [] := ⟨_, rfl⟩
  have HX := Lib.hid hX
  clear hX
  go_enter Try.func3, Try.ntmps3
  go_wp2_with fail
  refine (aregS_any _ n X HX.out).mono ?_
  rintro e w1 ⟨ra, rfl, ho_r, hbw1⟩
  have hpw1 : Below w.heap.size w w1 := Below.after bwT hbw1 szT
  have sw1 := hpw1.size
  have hBw1 : Below w.heap.size w w1 := hpw1
  clear hbw1 hpw1
  go_wp2_with fail
  refine (aregI_any _ n X HX.out).mono ?_
  rintro e w2 ⟨ga, rfl, ho_g, hbw2⟩
  have hpw2 : Below w1.heap.size w1 w2 := Below.after bwT hbw2 szT
  have sw2 := hpw2.size
  have hBw2 : Below w.heap.size w w2 := Below.trans hBw1 (Below.mono hpw2 hBw1.size)
  have ho_r := Rd.below ho_r hpw2
  clear hbw2 hpw2
  go_wp2_with fail
  refine (eqClassesS_b _ _ _ X X (ho_g.rd.below bwT) (ho_r.below bwT) true (by simp)).mono ?_
  rintro e w3 ⟨rfl, hbw3⟩
  have hpw3 : Below w2.heap.size w2 w3 := Below.after bwT hbw3 szT
  have sw3 := hpw3.size
  have hBw3 : Below w.heap.size w w3 := Below.trans hBw2 (Below.mono hpw3 hBw2.size)
  have ho_r := Rd.below ho_r hpw3
  have ho_g := Ow.below ho_g hpw3
  clear hbw3 hpw3
  have hres : lenBy cntCls X ≤ 100 := by rw [HX.out]; exact areg_cnt n
  obtain ⟨fp_g, hr_g, hz_g, hn_g⟩ := ho_g
  go_wp2_with fail
  refine (markClassesS_any _ _ X fp_g hr_g hn_g (1) (by omega) (by omega)).mono ?_
  rintro e w4 ⟨rfl, hr_g, hoffw4⟩
  have sw4 := hoffw4.size
  have hBw4 : Below w.heap.size w w4 := Below.trans hBw3 (OffF.toBelow hoffw4 hBw3.size (fun b hb => Nat.le_trans (show w.heap.size ≤ w1.heap.size by omega) (hz_g b hb).1))
  have ho_r := Rd.keep ho_r (OffF.zone hoffw4 (by omega) hz_g (by omega))
  have ho_g : Ow (w1.heap.size) (w2.heap.size) w4 [ga] ((marksBy cntCls mkdCls 1 X)) := ⟨fp_g, hr_g, hz_g, hn_g⟩
  clear hr_g hz_g hn_g hoffw4
  go_wp2_with fail
  refine (heldClassesS_any _ _ X 1 ho_g.rd (by omega) (by omega)).mono ?_
  rintro e w5 ⟨rfl, hbw5⟩
  have hpw5 : Below w4.heap.size w4 w5 := Below.after bwT hbw5 szT
  have sw5 := hpw5.size
  have hBw5 : Below w.heap.size w w5 := Below.trans hBw4 (Below.mono hpw5 hBw4.size)
  have ho_r := Rd.below ho_r hpw5
  have ho_g := Ow.below ho_g hpw5
  clear hbw5 hpw5
  go_wp2_with fail
  refine (aregI_any _ n X HX.out).mono ?_
  rintro e w6 ⟨ha, rfl, ho_h, hbw6⟩
  have hpw6 : Below w5.heap.size w5 w6 := Below.after bwT hbw6 szT
  have sw6 := hpw6.size
  have hBw6 : Below w.heap.size w w6 := Below.trans hBw5 (Below.mono hpw6 hBw5.size)
  have ho_r := Rd.below ho_r hpw6
  have ho_g := Ow.below ho_g hpw6
  clear hbw6 hpw6
  go_wp2_with fail
  refine (eqClassesS_b _ _ _ X X (ho_h.rd.below bwT) (ho_r.below bwT) true (by simp)).mono ?_
  rintro e w7 ⟨rfl, hbw7⟩
  have hpw7 : Below w6.heap.size w6 w7 := Below.after bwT hbw7 szT
  have sw7 := hpw7.size
  have hBw7 : Below w.heap.size w w7 := Below.trans hBw6 (Below.mono hpw7 hBw6.size)
  have ho_r := Rd.below ho_r hpw7
  have ho_g := Ow.below ho_g hpw7
  have ho_h := Ow.below ho_h hpw7
  clear hbw7 hpw7
  clear ho_h
  go_wp2_with fail
  refine (heldClassesS_any _ _ X 1 ho_g.rd (by omega) (by omega)).mono ?_
  rintro e w8 ⟨rfl, hbw8⟩
  have hpw8 : Below w7.heap.size w7 w8 := Below.after bwT hbw8 szT
  have sw8 := hpw8.size
  have hBw8 : Below w.heap.size w w8 := Below.trans hBw7 (Below.mono hpw8 hBw7.size)
  have ho_r := Rd.below ho_r hpw8
  have ho_g := Ow.below ho_g hpw8
  clear hbw8 hpw8
  go_wp2
  go_ret
  exact ⟨rfl, hBw8⟩
end Go.Proofs.Ytlnhhfebmeekhaa
