/- The walk of the law FnExactComposePermutations. -/
import Derived.Test.YtjpdfofhnnifpaaPerm3
namespace Go.Proofs.Ytjpdfofhnnifpaa
open Go.RowKit

set_option maxHeartbeats 8000000 in
theorem walk_FnExactComposePermutations (w : World) (c0a : Value) (p : List Int) (h0 : Rd false 0 w.heap.size w [c0a] p) (c1a : Value) (q : List Int) (h1 : Rd false 0 w.heap.size w [c1a] q) :
    Calls Try.prog 4 #[c0a, c1a] w (PostB w true) := by
  obtain ⟨ao0, len0, cap0, hcs0, hln0, hcn0, hcm0, -⟩ := h0.shape
  subst hcs0
  subst hln0
  unfold maxLen at hcm0
  have hle0 : p.length ≤ 9223372036854775807 := by omega
  clear hcm0 hcn0
  obtain ⟨ao1, len1, cap1, hcs1, hln1, hcn1, hcm1, -⟩ := h1.shape
  subst hcs1
  subst hln1
  unfold maxLen at hcm1
  have hle1 : q.length ≤ 9223372036854775807 := by omega
  clear hcm1 hcn1
  by_cases hg0 : 1048576 < p.length
  · go_enter Try.func4, Try.ntmps4
    go_wp2
    go_ret
    exact ⟨rfl, (by repeat' (first | (with_reducible exact Below.refl _ _) | (with_reducible assumption) | (with_reducible refine Below.alloc ?_ (by first | omega | (simp; omega) | simp) _) | (with_reducible refine Below.setCell ?_ (by first | omega | (simp; omega) | simp) _) | (with_reducible refine Below.drew ?_) | (with_reducible refine below_drewN ?_ _)))⟩
  have hq0 : ¬ (1048576 < p.length) := hg0
  by_cases hg1 : 1048576 < q.length
  · go_enter Try.func4, Try.ntmps4
    go_wp2
    go_ret
    exact ⟨rfl, (by repeat' (first | (with_reducible exact Below.refl _ _) | (with_reducible assumption) | (with_reducible refine Below.alloc ?_ (by first | omega | (simp; omega) | simp) _) | (with_reducible refine Below.setCell ?_ (by first | omega | (simp; omega) | simp) _) | (with_reducible refine Below.drew ?_) | (with_reducible refine below_drewN ?_ _)))⟩
  have hq1 : ¬ (1048576 < q.length) := hg1
  go_enter Try.func4, Try.ntmps4
  go_wp2_with fail
  refine (toIntS_any _ _ p (h0.below (by repeat' (first | (with_reducible exact Below.refl _ _) | (with_reducible assumption) | (with_reducible refine Below.alloc ?_ (by first | omega | (simp; omega) | simp) _) | (with_reducible refine Below.setCell ?_ (by first | omega | (simp; omega) | simp) _) | (with_reducible refine Below.drew ?_) | (with_reducible refine below_drewN ?_ _)))) (by omega)).mono ?_
  rintro e w1 ⟨t0a, rfl, ho_t0, hbw1⟩
  have hpw1 : Below w.heap.size w w1 := Below.after (by repeat' (first | (with_reducible exact Below.refl _ _) | (with_reducible assumption) | (with_reducible refine Below.alloc ?_ (by first | omega | (simp; omega) | simp) _) | (with_reducible refine Below.setCell ?_ (by first | omega | (simp; omega) | simp) _) | (with_reducible refine Below.drew ?_) | (with_reducible refine below_drewN ?_ _))) hbw1 (by first | omega | (simp only [World.size_alloc, World.size_setCell, World.size_drew] at *; omega) | (simp; omega) | simp)
  have sw1 := hpw1.size
  have hBw1 : Below w.heap.size w w1 := hpw1
  clear hbw1 hpw1
  go_wp2_with fail
  refine (toIntS_any _ _ q (h1.below (by repeat' (first | (with_reducible exact Below.refl _ _) | (with_reducible assumption) | (with_reducible refine Below.alloc ?_ (by first | omega | (simp; omega) | simp) _) | (with_reducible refine Below.setCell ?_ (by first | omega | (simp; omega) | simp) _) | (with_reducible refine Below.drew ?_) | (with_reducible refine below_drewN ?_ _)))) (by omega)).mono ?_
  rintro e w2 ⟨t1a, rfl, ho_t1, hbw2⟩
  have hpw2 : Below w1.heap.size w1 w2 := Below.after (by repeat' (first | (with_reducible exact Below.refl _ _) | (with_reducible assumption) | (with_reducible refine Below.alloc ?_ (by first | omega | (simp; omega) | simp) _) | (with_reducible refine Below.setCell ?_ (by first | omega | (simp; omega) | simp) _) | (with_reducible refine Below.drew ?_) | (with_reducible refine below_drewN ?_ _))) hbw2 (by first | omega | (simp only [World.size_alloc, World.size_setCell, World.size_drew] at *; omega) | (simp; omega) | simp)
  have sw2 := hpw2.size
  have hBw2 : Below w.heap.size w w2 := Below.trans hBw1 (Below.mono hpw2 hBw1.size)
  have ho_t0 := Ow.below ho_t0 hpw2
  clear hbw2 hpw2
  go_wp2_with fail
  refine (composeS_any _ _  _ p q (ho_t0.rd.below (by repeat' (first | (with_reducible exact Below.refl _ _) | (with_reducible assumption) | (with_reducible refine Below.alloc ?_ (by first | omega | (simp; omega) | simp) _) | (with_reducible refine Below.setCell ?_ (by first | omega | (simp; omega) | simp) _) | (with_reducible refine Below.drew ?_) | (with_reducible refine below_drewN ?_ _)))) (ho_t1.rd.below (by repeat' (first | (with_reducible exact Below.refl _ _) | (with_reducible assumption) | (with_reducible refine Below.alloc ?_ (by first | omega | (simp; omega) | simp) _) | (with_reducible refine Below.setCell ?_ (by first | omega | (simp; omega) | simp) _) | (with_reducible refine Below.drew ?_) | (with_reducible refine below_drewN ?_ _)))) (by omega) (by omega)).mono ?_
  rintro e w3 ⟨ra, rfl, ho_r, hbw3⟩
  have hpw3 : Below w2.heap.size w2 w3 := Below.after (by repeat' (first | (with_reducible exact Below.refl _ _) | (with_reducible assumption) | (with_reducible refine Below.alloc ?_ (by first | omega | (simp; omega) | simp) _) | (with_reducible refine Below.setCell ?_ (by first | omega | (simp; omega) | simp) _) | (with_reducible refine Below.drew ?_) | (with_reducible refine below_drewN ?_ _))) hbw3 (by first | omega | (simp only [World.size_alloc, World.size_setCell, World.size_drew] at *; omega) | (simp; omega) | simp)
  have sw3 := hpw3.size
  have hBw3 : Below w.heap.size w w3 := Below.trans hBw2 (Below.mono hpw3 hBw2.size)
  have ho_t0 := Ow.below ho_t0 hpw3
  have ho_t1 := Ow.below ho_t1 hpw3
  clear hbw3 hpw3
  clear ho_t0
  clear ho_t1
  go_wp2_with fail
  refine (toIntS_any _ _ p (h0.below (by repeat' (first | (with_reducible exact Below.refl _ _) | (with_reducible assumption) | (with_reducible refine Below.alloc ?_ (by first | omega | (simp; omega) | simp) _) | (with_reducible refine Below.setCell ?_ (by first | omega | (simp; omega) | simp) _) | (with_reducible refine Below.drew ?_) | (with_reducible refine below_drewN ?_ _)))) (by omega)).mono ?_
  rintro e w4 ⟨x0a, rfl, ho_x0, hbw4⟩
  have hpw4 : Below w3.heap.size w3 w4 := Below.after (by repeat' (first | (with_reducible exact Below.refl _ _) | (with_reducible assumption) | (with_reducible refine Below.alloc ?_ (by first | omega | (simp; omega) | simp) _) | (with_reducible refine Below.setCell ?_ (by first | omega | (simp; omega) | simp) _) | (with_reducible refine Below.drew ?_) | (with_reducible refine below_drewN ?_ _))) hbw4 (by first | omega | (simp only [World.size_alloc, World.size_setCell, World.size_drew] at *; omega) | (simp; omega) | simp)
  have sw4 := hpw4.size
  have hBw4 : Below w.heap.size w w4 := Below.trans hBw3 (Below.mono hpw4 hBw3.size)
  have ho_r := Ow.below ho_r hpw4
  clear hbw4 hpw4
  go_wp2_with fail
  refine (toIntS_any _ _ q (h1.below (by repeat' (first | (with_reducible exact Below.refl _ _) | (with_reducible assumption) | (with_reducible refine Below.alloc ?_ (by first | omega | (simp; omega) | simp) _) | (with_reducible refine Below.setCell ?_ (by first | omega | (simp; omega) | simp) _) | (with_reducible refine Below.drew ?_) | (with_reducible refine below_drewN ?_ _)))) (by omega)).mono ?_
  rintro e w5 ⟨x1a, rfl, ho_x1, hbw5⟩
  have hpw5 : Below w4.heap.size w4 w5 := Below.after (by repeat' (first | (with_reducible exact Below.refl _ _) | (with_reducible assumption) | (with_reducible refine Below.alloc ?_ (by first | omega | (simp; omega) | simp) _) | (with_reducible refine Below.setCell ?_ (by first | omega | (simp; omega) | simp) _) | (with_reducible refine Below.drew ?_) | (with_reducible refine below_drewN ?_ _))) hbw5 (by first | omega | (simp only [World.size_alloc, World.size_setCell, World.size_drew] at *; omega) | (simp; omega) | simp)
  have sw5 := hpw5.size
  have hBw5 : Below w.heap.size w w5 := Below.trans hBw4 (Below.mono hpw5 hBw4.size)
  have ho_r := Ow.below ho_r hpw5
  have ho_x0 := Ow.below ho_x0 hpw5
  clear hbw5 hpw5
  go_wp2_with fail
  refine (composeI_any _ _  _ p q (ho_x0.rd.below (by repeat' (first | (with_reducible exact Below.refl _ _) | (with_reducible assumption) | (with_reducible refine Below.alloc ?_ (by first | omega | (simp; omega) | simp) _) | (with_reducible refine Below.setCell ?_ (by first | omega | (simp; omega) | simp) _) | (with_reducible refine Below.drew ?_) | (with_reducible refine below_drewN ?_ _)))) (ho_x1.rd.below (by repeat' (first | (with_reducible exact Below.refl _ _) | (with_reducible assumption) | (with_reducible refine Below.alloc ?_ (by first | omega | (simp; omega) | simp) _) | (with_reducible refine Below.setCell ?_ (by first | omega | (simp; omega) | simp) _) | (with_reducible refine Below.drew ?_) | (with_reducible refine below_drewN ?_ _)))) (by omega) (by omega)).mono ?_
  rintro e w6 ⟨ga, rfl, ho_g, hbw6⟩
  have hpw6 : Below w5.heap.size w5 w6 := Below.after (by repeat' (first | (with_reducible exact Below.refl _ _) | (with_reducible assumption) | (with_reducible refine Below.alloc ?_ (by first | omega | (simp; omega) | simp) _) | (with_reducible refine Below.setCell ?_ (by first | omega | (simp; omega) | simp) _) | (with_reducible refine Below.drew ?_) | (with_reducible refine below_drewN ?_ _))) hbw6 (by first | omega | (simp only [World.size_alloc, World.size_setCell, World.size_drew] at *; omega) | (simp; omega) | simp)
  have sw6 := hpw6.size
  have hBw6 : Below w.heap.size w w6 := Below.trans hBw5 (Below.mono hpw6 hBw5.size)
  have ho_r := Ow.below ho_r hpw6
  have ho_x0 := Ow.below ho_x0 hpw6
  have ho_x1 := Ow.below ho_x1 hpw6
  clear hbw6 hpw6
  go_wp2_with fail
  refine (eqIntS_b _ _ _ (compP p q) (compP p q) (ho_g.rd.below (by repeat' (first | (with_reducible exact Below.refl _ _) | (with_reducible assumption) | (with_reducible refine Below.alloc ?_ (by first | omega | (simp; omega) | simp) _) | (with_reducible refine Below.setCell ?_ (by first | omega | (simp; omega) | simp) _) | (with_reducible refine Below.drew ?_) | (with_reducible refine below_drewN ?_ _)))) (ho_r.rd.below (by repeat' (first | (with_reducible exact Below.refl _ _) | (with_reducible assumption) | (with_reducible refine Below.alloc ?_ (by first | omega | (simp; omega) | simp) _) | (with_reducible refine Below.setCell ?_ (by first | omega | (simp; omega) | simp) _) | (with_reducible refine Below.drew ?_) | (with_reducible refine below_drewN ?_ _)))) true (by simp)).mono ?_
  rintro e w7 ⟨rfl, hbw7⟩
  have hpw7 : Below w6.heap.size w6 w7 := Below.after (by repeat' (first | (with_reducible exact Below.refl _ _) | (with_reducible assumption) | (with_reducible refine Below.alloc ?_ (by first | omega | (simp; omega) | simp) _) | (with_reducible refine Below.setCell ?_ (by first | omega | (simp; omega) | simp) _) | (with_reducible refine Below.drew ?_) | (with_reducible refine below_drewN ?_ _))) hbw7 (by first | omega | (simp only [World.size_alloc, World.size_setCell, World.size_drew] at *; omega) | (simp; omega) | simp)
  have sw7 := hpw7.size
  have hBw7 : Below w.heap.size w w7 := Below.trans hBw6 (Below.mono hpw7 hBw6.size)
  have ho_r := Ow.below ho_r hpw7
  have ho_x0 := Ow.below ho_x0 hpw7
  have ho_x1 := Ow.below ho_x1 hpw7
  have ho_g := Ow.below ho_g hpw7
  clear hbw7 hpw7
  go_wp2_with fail
  refine (toIntS_any _ _ p (h0.below (by repeat' (first | (with_reducible exact Below.refl _ _) | (with_reducible assumption) | (with_reducible refine Below.alloc ?_ (by first | omega | (simp; omega) | simp) _) | (with_reducible refine Below.setCell ?_ (by first | omega | (simp; omega) | simp) _) | (with_reducible refine Below.drew ?_) | (with_reducible refine below_drewN ?_ _)))) (by omega)).mono ?_
  rintro e w8 ⟨y0a, rfl, ho_y0, hbw8⟩
  have hpw8 : Below w7.heap.size w7 w8 := Below.after (by repeat' (first | (with_reducible exact Below.refl _ _) | (with_reducible assumption) | (with_reducible refine Below.alloc ?_ (by first | omega | (simp; omega) | simp) _) | (with_reducible refine Below.setCell ?_ (by first | omega | (simp; omega) | simp) _) | (with_reducible refine Below.drew ?_) | (with_reducible refine below_drewN ?_ _))) hbw8 (by first | omega | (simp only [World.size_alloc, World.size_setCell, World.size_drew] at *; omega) | (simp; omega) | simp)
  have sw8 := hpw8.size
  have hBw8 : Below w.heap.size w w8 := Below.trans hBw7 (Below.mono hpw8 hBw7.size)
  have ho_r := Ow.below ho_r hpw8
  have ho_x0 := Ow.below ho_x0 hpw8
  have ho_x1 := Ow.below ho_x1 hpw8
  have ho_g := Ow.below ho_g hpw8
  clear hbw8 hpw8
  go_wp2_with fail
  refine (eqIntS_b _ _ _ p p (ho_x0.rd.below (by repeat' (first | (with_reducible exact Below.refl _ _) | (with_reducible assumption) | (with_reducible refine Below.alloc ?_ (by first | omega | (simp; omega) | simp) _) | (with_reducible refine Below.setCell ?_ (by first | omega | (simp; omega) | simp) _) | (with_reducible refine Below.drew ?_) | (with_reducible refine below_drewN ?_ _)))) (ho_y0.rd.below (by repeat' (first | (with_reducible exact Below.refl _ _) | (with_reducible assumption) | (with_reducible refine Below.alloc ?_ (by first | omega | (simp; omega) | simp) _) | (with_reducible refine Below.setCell ?_ (by first | omega | (simp; omega) | simp) _) | (with_reducible refine Below.drew ?_) | (with_reducible refine below_drewN ?_ _)))) true (by simp)).mono ?_
  rintro e w9 ⟨rfl, hbw9⟩
  have hpw9 : Below w8.heap.size w8 w9 := Below.after (by repeat' (first | (with_reducible exact Below.refl _ _) | (with_reducible assumption) | (with_reducible refine Below.alloc ?_ (by first | omega | (simp; omega) | simp) _) | (with_reducible refine Below.setCell ?_ (by first | omega | (simp; omega) | simp) _) | (with_reducible refine Below.drew ?_) | (with_reducible refine below_drewN ?_ _))) hbw9 (by first | omega | (simp only [World.size_alloc, World.size_setCell, World.size_drew] at *; omega) | (simp; omega) | simp)
  have sw9 := hpw9.size
  have hBw9 : Below w.heap.size w w9 := Below.trans hBw8 (Below.mono hpw9 hBw8.size)
  have ho_r := Ow.below ho_r hpw9
  have ho_x0 := Ow.below ho_x0 hpw9
  have ho_x1 := Ow.below ho_x1 hpw9
  have ho_g := Ow.below ho_g hpw9
  have ho_y0 := Ow.below ho_y0 hpw9
  clear hbw9 hpw9
  clear ho_y0
  go_wp2_with fail
  refine (toIntS_any _ _ q (h1.below (by repeat' (first | (with_reducible exact Below.refl _ _) | (with_reducible assumption) | (with_reducible refine Below.alloc ?_ (by first | omega | (simp; omega) | simp) _) | (with_reducible refine Below.setCell ?_ (by first | omega | (simp; omega) | simp) _) | (with_reducible refine Below.drew ?_) | (with_reducible refine below_drewN ?_ _)))) (by omega)).mono ?_
  rintro e w10 ⟨y1a, rfl, ho_y1, hbw10⟩
  have hpw10 : Below w9.heap.size w9 w10 := Below.after (by repeat' (first | (with_reducible exact Below.refl _ _) | (with_reducible assumption) | (with_reducible refine Below.alloc ?_ (by first | omega | (simp; omega) | simp) _) | (with_reducible refine Below.setCell ?_ (by first | omega | (simp; omega) | simp) _) | (with_reducible refine Below.drew ?_) | (with_reducible refine below_drewN ?_ _))) hbw10 (by first | omega | (simp only [World.size_alloc, World.size_setCell, World.size_drew] at *; omega) | (simp; omega) | simp)
  have sw10 := hpw10.size
  have hBw10 : Below w.heap.size w w10 := Below.trans hBw9 (Below.mono hpw10 hBw9.size)
  have ho_r := Ow.below ho_r hpw10
  have ho_x0 := Ow.below ho_x0 hpw10
  have ho_x1 := Ow.below ho_x1 hpw10
  have ho_g := Ow.below ho_g hpw10
  clear hbw10 hpw10
  go_wp2_with fail
  refine (eqIntS_b _ _ _ q q (ho_x1.rd.below (by repeat' (first | (with_reducible exact Below.refl _ _) | (with_reducible assumption) | (with_reducible refine Below.alloc ?_ (by first | omega | (simp; omega) | simp) _) | (with_reducible refine Below.setCell ?_ (by first | omega | (simp; omega) | simp) _) | (with_reducible refine Below.drew ?_) | (with_reducible refine below_drewN ?_ _)))) (ho_y1.rd.below (by repeat' (first | (with_reducible exact Below.refl _ _) | (with_reducible assumption) | (with_reducible refine Below.alloc ?_ (by first | omega | (simp; omega) | simp) _) | (with_reducible refine Below.setCell ?_ (by first | omega | (simp; omega) | simp) _) | (with_reducible refine Below.drew ?_) | (with_reducible refine below_drewN ?_ _)))) true (by simp)).mono ?_
  rintro e w11 ⟨rfl, hbw11⟩
  have hpw11 : Below w10.heap.size w10 w11 := Below.after (by repeat' (first | (with_reducible exact Below.refl _ _) | (with_reducible assumption) | (with_reducible refine Below.alloc ?_ (by first | omega | (simp; omega) | simp) _) | (with_reducible refine Below.setCell ?_ (by first | omega | (simp; omega) | simp) _) | (with_reducible refine Below.drew ?_) | (with_reducible refine below_drewN ?_ _))) hbw11 (by first | omega | (simp only [World.size_alloc, World.size_setCell, World.size_drew] at *; omega) | (simp; omega) | simp)
  have sw11 := hpw11.size
  have hBw11 : Below w.heap.size w w11 := Below.trans hBw10 (Below.mono hpw11 hBw10.size)
  have ho_r := Ow.below ho_r hpw11
  have ho_x0 := Ow.below ho_x0 hpw11
  have ho_x1 := Ow.below ho_x1 hpw11
  have ho_g := Ow.below ho_g hpw11
  have ho_y1 := Ow.below ho_y1 hpw11
  clear hbw11 hpw11
  clear ho_y1
  have hres : (compP p q).length ≤ 1048576 := compP_len p q (by omega)
  obtain ⟨fp_x0, hr_x0, hz_x0, hn_x0⟩ := ho_x0
  go_wp2_with fail
  refine (markIntS_any _ _ p fp_x0 hr_x0 (1) (by omega) (by omega)).mono ?_
  rintro e w12 ⟨rfl, hr_x0, hoffw12⟩
  have sw12 := hoffw12.size
  have hBw12 : Below w.heap.size w w12 := Below.trans hBw11 (OffF.toBelow hoffw12 hBw11.size (fun b hb => Nat.le_trans (show w.heap.size ≤ w3.heap.size by omega) (hz_x0 b hb).1))
  have ho_r := Ow.keep ho_r (OffF.zone hoffw12 (by omega) hz_x0 (by omega))
  have ho_x1 := Ow.keep ho_x1 (OffF.zone hoffw12 (by omega) hz_x0 (by omega))
  have ho_g := Ow.keep ho_g (OffF.zone hoffw12 (by omega) hz_x0 (by omega))
  have ho_x0 : Ow (w3.heap.size) (w4.heap.size) w12 [x0a] (marks 1 p.length) := ⟨fp_x0, hr_x0, hz_x0, hn_x0⟩
  clear hr_x0 hz_x0 hn_x0 hoffw12
  obtain ⟨fp_x1, hr_x1, hz_x1, hn_x1⟩ := ho_x1
  go_wp2_with fail
  refine (markIntS_any _ _ q fp_x1 hr_x1 ((1 + p.length)) (by omega) (by omega)).mono ?_
  rintro e w13 ⟨rfl, hr_x1, hoffw13⟩
  have sw13 := hoffw13.size
  have hBw13 : Below w.heap.size w w13 := Below.trans hBw12 (OffF.toBelow hoffw13 hBw12.size (fun b hb => Nat.le_trans (show w.heap.size ≤ w4.heap.size by omega) (hz_x1 b hb).1))
  have ho_r := Ow.keep ho_r (OffF.zone hoffw13 (by omega) hz_x1 (by omega))
  have ho_x0 := Ow.keep ho_x0 (OffF.zone hoffw13 (by omega) hz_x1 (by omega))
  have ho_g := Ow.keep ho_g (OffF.zone hoffw13 (by omega) hz_x1 (by omega))
  have ho_x1 : Ow (w4.heap.size) (w5.heap.size) w13 [x1a] (marks (1 + p.length) q.length) := ⟨fp_x1, hr_x1, hz_x1, hn_x1⟩
  clear hr_x1 hz_x1 hn_x1 hoffw13
  go_wp2_with fail
  refine (eqIntS_b _ _ _ (compP p q) (compP p q) (ho_g.rd.below (by repeat' (first | (with_reducible exact Below.refl _ _) | (with_reducible assumption) | (with_reducible refine Below.alloc ?_ (by first | omega | (simp; omega) | simp) _) | (with_reducible refine Below.setCell ?_ (by first | omega | (simp; omega) | simp) _) | (with_reducible refine Below.drew ?_) | (with_reducible refine below_drewN ?_ _)))) (ho_r.rd.below (by repeat' (first | (with_reducible exact Below.refl _ _) | (with_reducible assumption) | (with_reducible refine Below.alloc ?_ (by first | omega | (simp; omega) | simp) _) | (with_reducible refine Below.setCell ?_ (by first | omega | (simp; omega) | simp) _) | (with_reducible refine Below.drew ?_) | (with_reducible refine below_drewN ?_ _)))) true (by simp)).mono ?_
  rintro e w14 ⟨rfl, hbw14⟩
  have hpw14 : Below w13.heap.size w13 w14 := Below.after (by repeat' (first | (with_reducible exact Below.refl _ _) | (with_reducible assumption) | (with_reducible refine Below.alloc ?_ (by first | omega | (simp; omega) | simp) _) | (with_reducible refine Below.setCell ?_ (by first | omega | (simp; omega) | simp) _) | (with_reducible refine Below.drew ?_) | (with_reducible refine below_drewN ?_ _))) hbw14 (by first | omega | (simp only [World.size_alloc, World.size_setCell, World.size_drew] at *; omega) | (simp; omega) | simp)
  have sw14 := hpw14.size
  have hBw14 : Below w.heap.size w w14 := Below.trans hBw13 (Below.mono hpw14 hBw13.size)
  have ho_r := Ow.below ho_r hpw14
  have ho_x0 := Ow.below ho_x0 hpw14
  have ho_x1 := Ow.below ho_x1 hpw14
  have ho_g := Ow.below ho_g hpw14
  clear hbw14 hpw14
  clear ho_x0
  clear ho_x1
  obtain ⟨fp_g, hr_g, hz_g, hn_g⟩ := ho_g
  go_wp2_with fail
  refine (markIntS_any _ _ (compP p q) fp_g hr_g (1) (by omega) (by omega)).mono ?_
  rintro e w15 ⟨rfl, hr_g, hoffw15⟩
  have sw15 := hoffw15.size
  have hBw15 : Below w.heap.size w w15 := Below.trans hBw14 (OffF.toBelow hoffw15 hBw14.size (fun b hb => Nat.le_trans (show w.heap.size ≤ w5.heap.size by omega) (hz_g b hb).1))
  have ho_r := Ow.keep ho_r (OffF.zone hoffw15 (by omega) hz_g (by omega))
  have ho_g : Ow (w5.heap.size) (w6.heap.size) w15 [ga] (marks 1 (compP p q).length) := ⟨fp_g, hr_g, hz_g, hn_g⟩
  clear hr_g hz_g hn_g hoffw15
  go_wp2_with fail
  refine (heldIntS_any _ _ (compP p q).length 1 ho_g.rd (by omega) (by omega)).mono ?_
  rintro e w16 ⟨rfl, hbw16⟩
  have hpw16 : Below w15.heap.size w15 w16 := Below.after (by repeat' (first | (with_reducible exact Below.refl _ _) | (with_reducible assumption) | (with_reducible refine Below.alloc ?_ (by first | omega | (simp; omega) | simp) _) | (with_reducible refine Below.setCell ?_ (by first | omega | (simp; omega) | simp) _) | (with_reducible refine Below.drew ?_) | (with_reducible refine below_drewN ?_ _))) hbw16 (by first | omega | (simp only [World.size_alloc, World.size_setCell, World.size_drew] at *; omega) | (simp; omega) | simp)
  have sw16 := hpw16.size
  have hBw16 : Below w.heap.size w w16 := Below.trans hBw15 (Below.mono hpw16 hBw15.size)
  have ho_r := Ow.below ho_r hpw16
  have ho_g := Ow.below ho_g hpw16
  clear hbw16 hpw16
  go_wp2_with fail
  refine (toIntS_any _ _ p (h0.below (by repeat' (first | (with_reducible exact Below.refl _ _) | (with_reducible assumption) | (with_reducible refine Below.alloc ?_ (by first | omega | (simp; omega) | simp) _) | (with_reducible refine Below.setCell ?_ (by first | omega | (simp; omega) | simp) _) | (with_reducible refine Below.drew ?_) | (with_reducible refine below_drewN ?_ _)))) (by omega)).mono ?_
  rintro e w17 ⟨z0a, rfl, ho_z0, hbw17⟩
  have hpw17 : Below w16.heap.size w16 w17 := Below.after (by repeat' (first | (with_reducible exact Below.refl _ _) | (with_reducible assumption) | (with_reducible refine Below.alloc ?_ (by first | omega | (simp; omega) | simp) _) | (with_reducible refine Below.setCell ?_ (by first | omega | (simp; omega) | simp) _) | (with_reducible refine Below.drew ?_) | (with_reducible refine below_drewN ?_ _))) hbw17 (by first | omega | (simp only [World.size_alloc, World.size_setCell, World.size_drew] at *; omega) | (simp; omega) | simp)
  have sw17 := hpw17.size
  have hBw17 : Below w.heap.size w w17 := Below.trans hBw16 (Below.mono hpw17 hBw16.size)
  have ho_r := Ow.below ho_r hpw17
  have ho_g := Ow.below ho_g hpw17
  clear hbw17 hpw17
  go_wp2_with fail
  refine (toIntS_any _ _ q (h1.below (by repeat' (first | (with_reducible exact Below.refl _ _) | (with_reducible assumption) | (with_reducible refine Below.alloc ?_ (by first | omega | (simp; omega) | simp) _) | (with_reducible refine Below.setCell ?_ (by first | omega | (simp; omega) | simp) _) | (with_reducible refine Below.drew ?_) | (with_reducible refine below_drewN ?_ _)))) (by omega)).mono ?_
  rintro e w18 ⟨z1a, rfl, ho_z1, hbw18⟩
  have hpw18 : Below w17.heap.size w17 w18 := Below.after (by repeat' (first | (with_reducible exact Below.refl _ _) | (with_reducible assumption) | (with_reducible refine Below.alloc ?_ (by first | omega | (simp; omega) | simp) _) | (with_reducible refine Below.setCell ?_ (by first | omega | (simp; omega) | simp) _) | (with_reducible refine Below.drew ?_) | (with_reducible refine below_drewN ?_ _))) hbw18 (by first | omega | (simp only [World.size_alloc, World.size_setCell, World.size_drew] at *; omega) | (simp; omega) | simp)
  have sw18 := hpw18.size
  have hBw18 : Below w.heap.size w w18 := Below.trans hBw17 (Below.mono hpw18 hBw17.size)
  have ho_r := Ow.below ho_r hpw18
  have ho_g := Ow.below ho_g hpw18
  have ho_z0 := Ow.below ho_z0 hpw18
  clear hbw18 hpw18
  go_wp2_with fail
  refine (composeI_any _ _  _ p q (ho_z0.rd.below (by repeat' (first | (with_reducible exact Below.refl _ _) | (with_reducible assumption) | (with_reducible refine Below.alloc ?_ (by first | omega | (simp; omega) | simp) _) | (with_reducible refine Below.setCell ?_ (by first | omega | (simp; omega) | simp) _) | (with_reducible refine Below.drew ?_) | (with_reducible refine below_drewN ?_ _)))) (ho_z1.rd.below (by repeat' (first | (with_reducible exact Below.refl _ _) | (with_reducible assumption) | (with_reducible refine Below.alloc ?_ (by first | omega | (simp; omega) | simp) _) | (with_reducible refine Below.setCell ?_ (by first | omega | (simp; omega) | simp) _) | (with_reducible refine Below.drew ?_) | (with_reducible refine below_drewN ?_ _)))) (by omega) (by omega)).mono ?_
  rintro e w19 ⟨ha, rfl, ho_h, hbw19⟩
  have hpw19 : Below w18.heap.size w18 w19 := Below.after (by repeat' (first | (with_reducible exact Below.refl _ _) | (with_reducible assumption) | (with_reducible refine Below.alloc ?_ (by first | omega | (simp; omega) | simp) _) | (with_reducible refine Below.setCell ?_ (by first | omega | (simp; omega) | simp) _) | (with_reducible refine Below.drew ?_) | (with_reducible refine below_drewN ?_ _))) hbw19 (by first | omega | (simp only [World.size_alloc, World.size_setCell, World.size_drew] at *; omega) | (simp; omega) | simp)
  have sw19 := hpw19.size
  have hBw19 : Below w.heap.size w w19 := Below.trans hBw18 (Below.mono hpw19 hBw18.size)
  have ho_r := Ow.below ho_r hpw19
  have ho_g := Ow.below ho_g hpw19
  have ho_z0 := Ow.below ho_z0 hpw19
  have ho_z1 := Ow.below ho_z1 hpw19
  clear hbw19 hpw19
  clear ho_z0
  clear ho_z1
  go_wp2_with fail
  refine (eqIntS_b _ _ _ (compP p q) (compP p q) (ho_h.rd.below (by repeat' (first | (with_reducible exact Below.refl _ _) | (with_reducible assumption) | (with_reducible refine Below.alloc ?_ (by first | omega | (simp; omega) | simp) _) | (with_reducible refine Below.setCell ?_ (by first | omega | (simp; omega) | simp) _) | (with_reducible refine Below.drew ?_) | (with_reducible refine below_drewN ?_ _)))) (ho_r.rd.below (by repeat' (first | (with_reducible exact Below.refl _ _) | (with_reducible assumption) | (with_reducible refine Below.alloc ?_ (by first | omega | (simp; omega) | simp) _) | (with_reducible refine Below.setCell ?_ (by first | omega | (simp; omega) | simp) _) | (with_reducible refine Below.drew ?_) | (with_reducible refine below_drewN ?_ _)))) true (by simp)).mono ?_
  rintro e w20 ⟨rfl, hbw20⟩
  have hpw20 : Below w19.heap.size w19 w20 := Below.after (by repeat' (first | (with_reducible exact Below.refl _ _) | (with_reducible assumption) | (with_reducible refine Below.alloc ?_ (by first | omega | (simp; omega) | simp) _) | (with_reducible refine Below.setCell ?_ (by first | omega | (simp; omega) | simp) _) | (with_reducible refine Below.drew ?_) | (with_reducible refine below_drewN ?_ _))) hbw20 (by first | omega | (simp only [World.size_alloc, World.size_setCell, World.size_drew] at *; omega) | (simp; omega) | simp)
  have sw20 := hpw20.size
  have hBw20 : Below w.heap.size w w20 := Below.trans hBw19 (Below.mono hpw20 hBw19.size)
  have ho_r := Ow.below ho_r hpw20
  have ho_g := Ow.below ho_g hpw20
  have ho_h := Ow.below ho_h hpw20
  clear hbw20 hpw20
  clear ho_h
  go_wp2_with fail
  refine (heldIntS_any _ _ (compP p q).length 1 ho_g.rd (by omega) (by omega)).mono ?_
  rintro e w21 ⟨rfl, hbw21⟩
  have hpw21 : Below w20.heap.size w20 w21 := Below.after (by repeat' (first | (with_reducible exact Below.refl _ _) | (with_reducible assumption) | (with_reducible refine Below.alloc ?_ (by first | omega | (simp; omega) | simp) _) | (with_reducible refine Below.setCell ?_ (by first | omega | (simp; omega) | simp) _) | (with_reducible refine Below.drew ?_) | (with_reducible refine below_drewN ?_ _))) hbw21 (by first | omega | (simp only [World.size_alloc, World.size_setCell, World.size_drew] at *; omega) | (simp; omega) | simp)
  have sw21 := hpw21.size
  have hBw21 : Below w.heap.size w w21 := Below.trans hBw20 (Below.mono hpw21 hBw20.size)
  have ho_r := Ow.below ho_r hpw21
  have ho_g := Ow.below ho_g hpw21
  clear hbw21 hpw21
  go_wp2
  go_ret
  exact ⟨rfl, hBw21⟩
end Go.Proofs.Ytjpdfofhnnifpaa
