/- The walk of the law FnExactInversePermutation. -/
import Derived.Test.YtmbnhjohmodflaaPerm2
namespace Go.Proofs.Ytmbnhjohmodflaa
open Go.RowKit

set_option maxHeartbeats 8000000 in
theorem walk_FnExactInversePermutation (w : World) (c0a : Value) (p : List Int) (h0 : Rd false 0 w.heap.size w [c0a] p) :
    Calls Try.prog 8 #[c0a] w (PostB w true) := by
  obtain ⟨ao0, len0, cap0, hcs0, hln0, hcn0, hcm0, -⟩ := h0.shape
  subst hcs0
  subst hln0
  unfold maxLen at hcm0
  have hle0 : p.length ≤ 9223372036854775807 := by omega
  clear hcm0 hcn0
  by_cases hg0 : 1048576 < p.length
  · go_enter Try.func8, Try.ntmps8
    go_wp2
    go_ret
    exact ⟨rfl, (by repeat' (first | (with_reducible exact Below.refl _ _) | (with_reducible assumption) | (with_reducible refine Below.alloc ?_ (by first | omega | (simp; omega) | simp) _) | (with_reducible refine Below.setCell ?_ (by first | omega | (simp; omega) | simp) _) | (with_reducible refine Below.drew ?_) | (with_reducible refine below_drewN ?_ _)))⟩
  have hq0 : ¬ (1048576 < p.length) := hg0
  go_enter Try.func8, Try.ntmps8
  go_wp2_with fail
  refine (toIntS_any _ _ p (h0.below (by repeat' (first | (with_reducible exact Below.refl _ _) | (with_reducible assumption) | (with_reducible refine Below.alloc ?_ (by first | omega | (simp; omega) | simp) _) | (with_reducible refine Below.setCell ?_ (by first | omega | (simp; omega) | simp) _) | (with_reducible refine Below.drew ?_) | (with_reducible refine below_drewN ?_ _)))) (by omega)).mono ?_
  rintro e w1 ⟨t0a, rfl, ho_t0, hbw1⟩
  have hpw1 : Below w.heap.size w w1 := Below.after (by repeat' (first | (with_reducible exact Below.refl _ _) | (with_reducible assumption) | (with_reducible refine Below.alloc ?_ (by first | omega | (simp; omega) | simp) _) | (with_reducible refine Below.setCell ?_ (by first | omega | (simp; omega) | simp) _) | (with_reducible refine Below.drew ?_) | (with_reducible refine below_drewN ?_ _))) hbw1 (by first | omega | (simp only [World.size_alloc, World.size_setCell, World.size_drew] at *; omega) | (simp; omega) | simp)
  have sw1 := hpw1.size
  have hBw1 : Below w.heap.size w w1 := hpw1
  clear hbw1 hpw1
  go_wp2_with fail
  refine (inversePermS_any _ _ p (ho_t0.rd.below (by repeat' (first | (with_reducible exact Below.refl _ _) | (with_reducible assumption) | (with_reducible refine Below.alloc ?_ (by first | omega | (simp; omega) | simp) _) | (with_reducible refine Below.setCell ?_ (by first | omega | (simp; omega) | simp) _) | (with_reducible refine Below.drew ?_) | (with_reducible refine below_drewN ?_ _)))) (by omega)).mono ?_
  rintro e w2 ⟨ra, rfl, ho_r, hbw2⟩
  have hpw2 : Below w1.heap.size w1 w2 := Below.after (by repeat' (first | (with_reducible exact Below.refl _ _) | (with_reducible assumption) | (with_reducible refine Below.alloc ?_ (by first | omega | (simp; omega) | simp) _) | (with_reducible refine Below.setCell ?_ (by first | omega | (simp; omega) | simp) _) | (with_reducible refine Below.drew ?_) | (with_reducible refine below_drewN ?_ _))) hbw2 (by first | omega | (simp only [World.size_alloc, World.size_setCell, World.size_drew] at *; omega) | (simp; omega) | simp)
  have sw2 := hpw2.size
  have hBw2 : Below w.heap.size w w2 := Below.trans hBw1 (Below.mono hpw2 hBw1.size)
  have ho_t0 := Ow.below ho_t0 hpw2
  clear hbw2 hpw2
  clear ho_t0
  go_wp2_with fail
  refine (toIntS_any _ _ p (h0.below (by repeat' (first | (with_reducible exact Below.refl _ _) | (with_reducible assumption) | (with_reducible refine Below.alloc ?_ (by first | omega | (simp; omega) | simp) _) | (with_reducible refine Below.setCell ?_ (by first | omega | (simp; omega) | simp) _) | (with_reducible refine Below.drew ?_) | (with_reducible refine below_drewN ?_ _)))) (by omega)).mono ?_
  rintro e w3 ⟨x0a, rfl, ho_x0, hbw3⟩
  have hpw3 : Below w2.heap.size w2 w3 := Below.after (by repeat' (first | (with_reducible exact Below.refl _ _) | (with_reducible assumption) | (with_reducible refine Below.alloc ?_ (by first | omega | (simp; omega) | simp) _) | (with_reducible refine Below.setCell ?_ (by first | omega | (simp; omega) | simp) _) | (with_reducible refine Below.drew ?_) | (with_reducible refine below_drewN ?_ _))) hbw3 (by first | omega | (simp only [World.size_alloc, World.size_setCell, World.size_drew] at *; omega) | (simp; omega) | simp)
  have sw3 := hpw3.size
  have hBw3 : Below w.heap.size w w3 := Below.trans hBw2 (Below.mono hpw3 hBw2.size)
  have ho_r := Ow.below ho_r hpw3
  clear hbw3 hpw3
  go_wp2_with fail
  refine (inversePermI_any _ _ p (ho_x0.rd.below (by repeat' (first | (with_reducible exact Below.refl _ _) | (with_reducible assumption) | (with_reducible refine Below.alloc ?_ (by first | omega | (simp; omega) | simp) _) | (with_reducible refine Below.setCell ?_ (by first | omega | (simp; omega) | simp) _) | (with_reducible refine Below.drew ?_) | (with_reducible refine below_drewN ?_ _)))) (by omega)).mono ?_
  rintro e w4 ⟨ga, rfl, ho_g, hbw4⟩
  have hpw4 : Below w3.heap.size w3 w4 := Below.after (by repeat' (first | (with_reducible exact Below.refl _ _) | (with_reducible assumption) | (with_reducible refine Below.alloc ?_ (by first | omega | (simp; omega) | simp) _) | (with_reducible refine Below.setCell ?_ (by first | omega | (simp; omega) | simp) _) | (with_reducible refine Below.drew ?_) | (with_reducible refine below_drewN ?_ _))) hbw4 (by first | omega | (simp only [World.size_alloc, World.size_setCell, World.size_drew] at *; omega) | (simp; omega) | simp)
  have sw4 := hpw4.size
  have hBw4 : Below w.heap.size w w4 := Below.trans hBw3 (Below.mono hpw4 hBw3.size)
  have ho_r := Ow.below ho_r hpw4
  have ho_x0 := Ow.below ho_x0 hpw4
  clear hbw4 hpw4
  go_wp2_with fail
  refine (eqIntS_b _ _ _ (invP p) (invP p) (ho_g.rd.below (by repeat' (first | (with_reducible exact Below.refl _ _) | (with_reducible assumption) | (with_reducible refine Below.alloc ?_ (by first | omega | (simp; omega) | simp) _) | (with_reducible refine Below.setCell ?_ (by first | omega | (simp; omega) | simp) _) | (with_reducible refine Below.drew ?_) | (with_reducible refine below_drewN ?_ _)))) (ho_r.rd.below (by repeat' (first | (with_reducible exact Below.refl _ _) | (with_reducible assumption) | (with_reducible refine Below.alloc ?_ (by first | omega | (simp; omega) | simp) _) | (with_reducible refine Below.setCell ?_ (by first | omega | (simp; omega) | simp) _) | (with_reducible refine Below.drew ?_) | (with_reducible refine below_drewN ?_ _)))) true (by simp)).mono ?_
  rintro e w5 ⟨rfl, hbw5⟩
  have hpw5 : Below w4.heap.size w4 w5 := Below.after (by repeat' (first | (with_reducible exact Below.refl _ _) | (with_reducible assumption) | (with_reducible refine Below.alloc ?_ (by first | omega | (simp; omega) | simp) _) | (with_reducible refine Below.setCell ?_ (by first | omega | (simp; omega) | simp) _) | (with_reducible refine Below.drew ?_) | (with_reducible refine below_drewN ?_ _))) hbw5 (by first | omega | (simp only [World.size_alloc, World.size_setCell, World.size_drew] at *; omega) | (simp; omega) | simp)
  have sw5 := hpw5.size
  have hBw5 : Below w.heap.size w w5 := Below.trans hBw4 (Below.mono hpw5 hBw4.size)
  have ho_r := Ow.below ho_r hpw5
  have ho_x0 := Ow.below ho_x0 hpw5
  have ho_g := Ow.below ho_g hpw5
  clear hbw5 hpw5
  go_wp2_with fail
  refine (toIntS_any _ _ p (h0.below (by repeat' (first | (with_reducible exact Below.refl _ _) | (with_reducible assumption) | (with_reducible refine Below.alloc ?_ (by first | omega | (simp; omega) | simp) _) | (with_reducible refine Below.setCell ?_ (by first | omega | (simp; omega) | simp) _) | (with_reducible refine Below.drew ?_) | (with_reducible refine below_drewN ?_ _)))) (by omega)).mono ?_
  rintro e w6 ⟨y0a, rfl, ho_y0, hbw6⟩
  have hpw6 : Below w5.heap.size w5 w6 := Below.after (by repeat' (first | (with_reducible exact Below.refl _ _) | (with_reducible assumption) | (with_reducible refine Below.alloc ?_ (by first | omega | (simp; omega) | simp) _) | (with_reducible refine Below.setCell ?_ (by first | omega | (simp; omega) | simp) _) | (with_reducible refine Below.drew ?_) | (with_reducible refine below_drewN ?_ _))) hbw6 (by first | omega | (simp only [World.size_alloc, World.size_setCell, World.size_drew] at *; omega) | (simp; omega) | simp)
  have sw6 := hpw6.size
  have hBw6 : Below w.heap.size w w6 := Below.trans hBw5 (Below.mono hpw6 hBw5.size)
  have ho_r := Ow.below ho_r hpw6
  have ho_x0 := Ow.below ho_x0 hpw6
  have ho_g := Ow.below ho_g hpw6
  clear hbw6 hpw6
  go_wp2_with fail
  refine (eqIntS_b _ _ _ p p (ho_x0.rd.below (by repeat' (first | (with_reducible exact Below.refl _ _) | (with_reducible assumption) | (with_reducible refine Below.alloc ?_ (by first | omega | (simp; omega) | simp) _) | (with_reducible refine Below.setCell ?_ (by first | omega | (simp; omega) | simp) _) | (with_reducible refine Below.drew ?_) | (with_reducible refine below_drewN ?_ _)))) (ho_y0.rd.below (by repeat' (first | (with_reducible exact Below.refl _ _) | (with_reducible assumption) | (with_reducible refine Below.alloc ?_ (by first | omega | (simp; omega) | simp) _) | (with_reducible refine Below.setCell ?_ (by first | omega | (simp; omega) | simp) _) | (with_reducible refine Below.drew ?_) | (with_reducible refine below_drewN ?_ _)))) true (by simp)).mono ?_
  rintro e w7 ⟨rfl, hbw7⟩
  have hpw7 : Below w6.heap.size w6 w7 := Below.after (by repeat' (first | (with_reducible exact Below.refl _ _) | (with_reducible assumption) | (with_reducible refine Below.alloc ?_ (by first | omega | (simp; omega) | simp) _) | (with_reducible refine Below.setCell ?_ (by first | omega | (simp; omega) | simp) _) | (with_reducible refine Below.drew ?_) | (with_reducible refine below_drewN ?_ _))) hbw7 (by first | omega | (simp only [World.size_alloc, World.size_setCell, World.size_drew] at *; omega) | (simp; omega) | simp)
  have sw7 := hpw7.size
  have hBw7 : Below w.heap.size w w7 := Below.trans hBw6 (Below.mono hpw7 hBw6.size)
  have ho_r := Ow.below ho_r hpw7
  have ho_x0 := Ow.below ho_x0 hpw7
  have ho_g := Ow.below ho_g hpw7
  have ho_y0 := Ow.below ho_y0 hpw7
  clear hbw7 hpw7
  clear ho_y0
  have hres : (invP p).length ≤ 1048576 := invP_len p (by omega)
  obtain ⟨fp_x0, hr_x0, hz_x0, hn_x0⟩ := ho_x0
  go_wp2_with fail
  refine (markIntS_any _ _ p fp_x0 hr_x0 (1) (by omega) (by omega)).mono ?_
  rintro e w8 ⟨rfl, hr_x0, hoffw8⟩
  have sw8 := hoffw8.size
  have hBw8 : Below w.heap.size w w8 := Below.trans hBw7 (OffF.toBelow hoffw8 hBw7.size (fun b hb => Nat.le_trans (show w.heap.size ≤ w2.heap.size by omega) (hz_x0 b hb).1))
  have ho_r := Ow.keep ho_r (OffF.zone hoffw8 (by omega) hz_x0 (by omega))
  have ho_g := Ow.keep ho_g (OffF.zone hoffw8 (by omega) hz_x0 (by omega))
  have ho_x0 : Ow (w2.heap.size) (w3.heap.size) w8 [x0a] (marks 1 p.length) := ⟨fp_x0, hr_x0, hz_x0, hn_x0⟩
  clear hr_x0 hz_x0 hn_x0 hoffw8
  go_wp2_with fail
  refine (eqIntS_b _ _ _ (invP p) (invP p) (ho_g.rd.below (by repeat' (first | (with_reducible exact Below.refl _ _) | (with_reducible assumption) | (with_reducible refine Below.alloc ?_ (by first | omega | (simp; omega) | simp) _) | (with_reducible refine Below.setCell ?_ (by first | omega | (simp; omega) | simp) _) | (with_reducible refine Below.drew ?_) | (with_reducible refine below_drewN ?_ _)))) (ho_r.rd.below (by repeat' (first | (with_reducible exact Below.refl _ _) | (with_reducible assumption) | (with_reducible refine Below.alloc ?_ (by first | omega | (simp; omega) | simp) _) | (with_reducible refine Below.setCell ?_ (by first | omega | (simp; omega) | simp) _) | (with_reducible refine Below.drew ?_) | (with_reducible refine below_drewN ?_ _)))) true (by simp)).mono ?_
  rintro e w9 ⟨rfl, hbw9⟩
  have hpw9 : Below w8.heap.size w8 w9 := Below.after (by repeat' (first | (with_reducible exact Below.refl _ _) | (with_reducible assumption) | (with_reducible refine Below.alloc ?_ (by first | omega | (simp; omega) | simp) _) | (with_reducible refine Below.setCell ?_ (by first | omega | (simp; omega) | simp) _) | (with_reducible refine Below.drew ?_) | (with_reducible refine below_drewN ?_ _))) hbw9 (by first | omega | (simp only [World.size_alloc, World.size_setCell, World.size_drew] at *; omega) | (simp; omega) | simp)
  have sw9 := hpw9.size
  have hBw9 : Below w.heap.size w w9 := Below.trans hBw8 (Below.mono hpw9 hBw8.size)
  have ho_r := Ow.below ho_r hpw9
  have ho_x0 := Ow.below ho_x0 hpw9
  have ho_g := Ow.below ho_g hpw9
  clear hbw9 hpw9
  clear ho_x0
  obtain ⟨fp_g, hr_g, hz_g, hn_g⟩ := ho_g
  go_wp2_with fail
  refine (markIntS_any _ _ (invP p) fp_g hr_g (1) (by omega) (by omega)).mono ?_
  rintro e w10 ⟨rfl, hr_g, hoffw10⟩
  have sw10 := hoffw10.size
  have hBw10 : Below w.heap.size w w10 := Below.trans hBw9 (OffF.toBelow hoffw10 hBw9.size (fun b hb => Nat.le_trans (show w.heap.size ≤ w3.heap.size by omega) (hz_g b hb).1))
  have ho_r := Ow.keep ho_r (OffF.zone hoffw10 (by omega) hz_g (by omega))
  have ho_g : Ow (w3.heap.size) (w4.heap.size) w10 [ga] (marks 1 (invP p).length) := ⟨fp_g, hr_g, hz_g, hn_g⟩
  clear hr_g hz_g hn_g hoffw10
  go_wp2_with fail
  refine (heldIntS_any _ _ (invP p).length 1 ho_g.rd (by omega) (by omega)).mono ?_
  rintro e w11 ⟨rfl, hbw11⟩
  have hpw11 : Below w10.heap.size w10 w11 := Below.after (by repeat' (first | (with_reducible exact Below.refl _ _) | (with_reducible assumption) | (with_reducible refine Below.alloc ?_ (by first | omega | (simp; omega) | simp) _) | (with_reducible refine Below.setCell ?_ (by first | omega | (simp; omega) | simp) _) | (with_reducible refine Below.drew ?_) | (with_reducible refine below_drewN ?_ _))) hbw11 (by first | omega | (simp only [World.size_alloc, World.size_setCell, World.size_drew] at *; omega) | (simp; omega) | simp)
  have sw11 := hpw11.size
  have hBw11 : Below w.heap.size w w11 := Below.trans hBw10 (Below.mono hpw11 hBw10.size)
  have ho_r := Ow.below ho_r hpw11
  have ho_g := Ow.below ho_g hpw11
  clear hbw11 hpw11
  go_wp2_with fail
  refine (toIntS_any _ _ p (h0.below (by repeat' (first | (with_reducible exact Below.refl _ _) | (with_reducible assumption) | (with_reducible refine Below.alloc ?_ (by first | omega | (simp; omega) | simp) _) | (with_reducible refine Below.setCell ?_ (by first | omega | (simp; omega) | simp) _) | (with_reducible refine Below.drew ?_) | (with_reducible refine below_drewN ?_ _)))) (by omega)).mono ?_
  rintro e w12 ⟨z0a, rfl, ho_z0, hbw12⟩
  have hpw12 : Below w11.heap.size w11 w12 := Below.after (by repeat' (first | (with_reducible exact Below.refl _ _) | (with_reducible assumption) | (with_reducible refine Below.alloc ?_ (by first | omega | (simp; omega) | simp) _) | (with_reducible refine Below.setCell ?_ (by first | omega | (simp; omega) | simp) _) | (with_reducible refine Below.drew ?_) | (with_reducible refine below_drewN ?_ _))) hbw12 (by first | omega | (simp only [World.size_alloc, World.size_setCell, World.size_drew] at *; omega) | (simp; omega) | simp)
  have sw12 := hpw12.size
  have hBw12 : Below w.heap.size w w12 := Below.trans hBw11 (Below.mono hpw12 hBw11.size)
  have ho_r := Ow.below ho_r hpw12
  have ho_g := Ow.below ho_g hpw12
  clear hbw12 hpw12
  go_wp2_with fail
  refine (inversePermI_any _ _ p (ho_z0.rd.below (by repeat' (first | (with_reducible exact Below.refl _ _) | (with_reducible assumption) | (with_reducible refine Below.alloc ?_ (by first | omega | (simp; omega) | simp) _) | (with_reducible refine Below.setCell ?_ (by first | omega | (simp; omega) | simp) _) | (with_reducible refine Below.drew ?_) | (with_reducible refine below_drewN ?_ _)))) (by omega)).mono ?_
  rintro e w13 ⟨ha, rfl, ho_h, hbw13⟩
  have hpw13 : Below w12.heap.size w12 w13 := Below.after (by repeat' (first | (with_reducible exact Below.refl _ _) | (with_reducible assumption) | (with_reducible refine Below.alloc ?_ (by first | omega | (simp; omega) | simp) _) | (with_reducible refine Below.setCell ?_ (by first | omega | (simp; omega) | simp) _) | (with_reducible refine Below.drew ?_) | (with_reducible refine below_drewN ?_ _))) hbw13 (by first | omega | (simp only [World.size_alloc, World.size_setCell, World.size_drew] at *; omega) | (simp; omega) | simp)
  have sw13 := hpw13.size
  have hBw13 : Below w.heap.size w w13 := Below.trans hBw12 (Below.mono hpw13 hBw12.size)
  have ho_r := Ow.below ho_r hpw13
  have ho_g := Ow.below ho_g hpw13
  have ho_z0 := Ow.below ho_z0 hpw13
  clear hbw13 hpw13
  clear ho_z0
  go_wp2_with fail
  refine (eqIntS_b _ _ _ (invP p) (invP p) (ho_h.rd.below (by repeat' (first | (with_reducible exact Below.refl _ _) | (with_reducible assumption) | (with_reducible refine Below.alloc ?_ (by first | omega | (simp; omega) | simp) _) | (with_reducible refine Below.setCell ?_ (by first | omega | (simp; omega) | simp) _) | (with_reducible refine Below.drew ?_) | (with_reducible refine below_drewN ?_ _)))) (ho_r.rd.below (by repeat' (first | (with_reducible exact Below.refl _ _) | (with_reducible assumption) | (with_reducible refine Below.alloc ?_ (by first | omega | (simp; omega) | simp) _) | (with_reducible refine Below.setCell ?_ (by first | omega | (simp; omega) | simp) _) | (with_reducible refine Below.drew ?_) | (with_reducible refine below_drewN ?_ _)))) true (by simp)).mono ?_
  rintro e w14 ⟨rfl, hbw14⟩
  have hpw14 : Below w13.heap.size w13 w14 := Below.after (by repeat' (first | (with_reducible exact Below.refl _ _) | (with_reducible assumption) | (with_reducible refine Below.alloc ?_ (by first | omega | (simp; omega) | simp) _) | (with_reducible refine Below.setCell ?_ (by first | omega | (simp; omega) | simp) _) | (with_reducible refine Below.drew ?_) | (with_reducible refine below_drewN ?_ _))) hbw14 (by first | omega | (simp only [World.size_alloc, World.size_setCell, World.size_drew] at *; omega) | (simp; omega) | simp)
  have sw14 := hpw14.size
  have hBw14 : Below w.heap.size w w14 := Below.trans hBw13 (Below.mono hpw14 hBw13.size)
  have ho_r := Ow.below ho_r hpw14
  have ho_g := Ow.below ho_g hpw14
  have ho_h := Ow.below ho_h hpw14
  clear hbw14 hpw14
  clear ho_h
  go_wp2_with fail
  refine (heldIntS_any _ _ (invP p).length 1 ho_g.rd (by omega) (by omega)).mono ?_
  rintro e w15 ⟨rfl, hbw15⟩
  have hpw15 : Below w14.heap.size w14 w15 := Below.after (by repeat' (first | (with_reducible exact Below.refl _ _) | (with_reducible assumption) | (with_reducible refine Below.alloc ?_ (by first | omega | (simp; omega) | simp) _) | (with_reducible refine Below.setCell ?_ (by first | omega | (simp; omega) | simp) _) | (with_reducible refine Below.drew ?_) | (with_reducible refine below_drewN ?_ _))) hbw15 (by first | omega | (simp only [World.size_alloc, World.size_setCell, World.size_drew] at *; omega) | (simp; omega) | simp)
  have sw15 := hpw15.size
  have hBw15 : Below w.heap.size w w15 := Below.trans hBw14 (Below.mono hpw15 hBw14.size)
  have ho_r := Ow.below ho_r hpw15
  have ho_g := Ow.below ho_g hpw15
  clear hbw15 hpw15
  go_wp2
  go_ret
  exact ⟨rfl, hBw15⟩
end Go.Proofs.Ytmbnhjohmodflaa
