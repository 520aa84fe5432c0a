/- The walk of the law FnExactPermutePeople. -/
import Derived.Test.YtomigopkejlmcaaPrm2
import Derived.Test.YtomigopkejlmcaaPrmS
import Derived.Test.YtomigopkejlmcaaMkFam
namespace Go.Proofs.Ytomigopkejlmcaa
set_option linter.unusedVariables false
set_option linter.unusedSimpArgs false
open Go.RowKit

set_option maxRecDepth 20000 in
set_option maxHeartbeats 8000000 in
theorem walk_FnExactPermutePeople (w : World) (c0a c0b : Value) (f : Fam) (h0 : Rd false 0 w.heap.size w [c0a, c0b] f) (c1a : Value) (g : List Int) (h1 : Rd false 0 w.heap.size w [c1a] g) :
    Calls Try.prog 11 #[.agg #[c0a, c0b], c1a] w (PostB w true) := by
  obtain ⟨ao1, len1, cap1, hcs1, hln1, hcn1, hcm1, -⟩ := h1.shape
  subst hcs1
  subst hln1
  unfold maxLen at hcm1
  have hle1 : g.length ≤ 9223372036854775807 := by omega
  clear hcm1 hcn1
  by_cases hg0 : 1048576 < g.length
  · go_enter Try.func11, Try.ntmps11
    go_wp2
    go_ret
    exact ⟨rfl, (by repeat' (first | (with_reducible exact Below.refl _ _) | (with_reducible assumption) | (with_reducible refine Below.alloc ?_ (by first | omega | (simp; omega) | simp) _) | (with_reducible refine Below.setCell ?_ (by first | omega | (simp; omega) | simp) _) | (with_reducible refine Below.drew ?_) | (with_reducible refine below_drewN ?_ _)))⟩
  have hq0 : ¬ (1048576 < g.length) := hg0
  by_cases hg1 : (1048576 : Int) < famSz f
  · go_enter Try.func11, Try.ntmps11
    go_wp2_with fail
    refine (szFamily_any _ _ _ f (h0.below (by repeat' (first | (with_reducible exact Below.refl _ _) | (with_reducible assumption) | (with_reducible refine Below.alloc ?_ (by first | omega | (simp; omega) | simp) _) | (with_reducible refine Below.setCell ?_ (by first | omega | (simp; omega) | simp) _) | (with_reducible refine Below.drew ?_) | (with_reducible refine below_drewN ?_ _)))) _ (by omega) (by omega)).mono ?_
    rw [if_pos (by omega)]
    rintro e w1 ⟨rfl, hbw1⟩
    have hpw1 : Below w.heap.size w w1 := Below.after (by repeat' (first | (with_reducible exact Below.refl _ _) | (with_reducible assumption) | (with_reducible refine Below.alloc ?_ (by first | omega | (simp; omega) | simp) _) | (with_reducible refine Below.setCell ?_ (by first | omega | (simp; omega) | simp) _) | (with_reducible refine Below.drew ?_) | (with_reducible refine below_drewN ?_ _))) hbw1 (by first | omega | (simp only [World.size_alloc, World.size_setCell, World.size_drew] at *; omega) | (simp; omega) | simp)
    have sw1 := hpw1.size
    have hBw1 : Below w.heap.size w w1 := hpw1
    have l_a0 : w.heap.size < w1.heap.size := by have := hbw1.size; simp at this; omega
    have q_a00 : w1.cell? ⟨w.heap.size, 0, none⟩ = some (c0a) := oldc hbw1 (by first | omega | (simp; omega) | (simp; done)) (by simp [go_sem])
    have q_a01 : w1.cell? ⟨w.heap.size, 1, none⟩ = some (c0b) := oldc hbw1 (by first | omega | (simp; omega) | (simp; done)) (by simp [go_sem])
    clear hbw1 hpw1
    go_wp2
    go_ret
    exact ⟨rfl, hBw1⟩
  have hq1 : ¬ ((1048576 : Int) < famSz f) := hg1
  obtain ⟨V, hV⟩ : ∃ V, V = permV f g := ⟨_, rfl⟩
  have HV := Lib.hid hV
  clear hV
  have hvv : (V != V) = false := by simp
  have hfl := famSz_le f
  go_enter Try.func11, Try.ntmps11
  go_wp2_with fail
  refine (szFamily_any _ _ _ f (h0.below (by repeat' (first | (with_reducible exact Below.refl _ _) | (with_reducible assumption) | (with_reducible refine Below.alloc ?_ (by first | omega | (simp; omega) | simp) _) | (with_reducible refine Below.setCell ?_ (by first | omega | (simp; omega) | simp) _) | (with_reducible refine Below.drew ?_) | (with_reducible refine below_drewN ?_ _)))) _ (by omega) (by omega)).mono ?_
  rw [if_neg (by omega)]
  rintro e w2 ⟨rfl, hbw2⟩
  have hpw2 : Below w.heap.size w w2 := Below.after (by repeat' (first | (with_reducible exact Below.refl _ _) | (with_reducible assumption) | (with_reducible refine Below.alloc ?_ (by first | omega | (simp; omega) | simp) _) | (with_reducible refine Below.setCell ?_ (by first | omega | (simp; omega) | simp) _) | (with_reducible refine Below.drew ?_) | (with_reducible refine below_drewN ?_ _))) hbw2 (by first | omega | (simp only [World.size_alloc, World.size_setCell, World.size_drew] at *; omega) | (simp; omega) | simp)
  have sw2 := hpw2.size
  have hBw2 : Below w.heap.size w w2 := hpw2
  have l_a0 : w.heap.size < w2.heap.size := by have := hbw2.size; simp at this; omega
  have q_a00 : w2.cell? ⟨w.heap.size, 0, none⟩ = some (c0a) := oldc hbw2 (by first | omega | (simp; omega) | (simp; done)) (by simp [go_sem])
  have q_a01 : w2.cell? ⟨w.heap.size, 1, none⟩ = some (c0b) := oldc hbw2 (by first | omega | (simp; omega) | (simp; done)) (by simp [go_sem])
  clear hbw2 hpw2
  go_wp2_with fail
  refine (toFamily_any _ _ _ f (h0.below (by repeat' (first | (with_reducible exact Below.refl _ _) | (with_reducible assumption) | (with_reducible refine Below.alloc ?_ (by first | omega | (simp; omega) | simp) _) | (with_reducible refine Below.setCell ?_ (by first | omega | (simp; omega) | simp) _) | (with_reducible refine Below.drew ?_) | (with_reducible refine below_drewN ?_ _)))) (by omega) (by omega)).mono ?_
  rintro e w3 ⟨t0a, t0b, rfl, ho_t0, hbw3⟩
  have hpw3 : Below w2.heap.size w2 w3 := Below.after (by repeat' (first | (with_reducible exact Below.refl _ _) | (with_reducible assumption) | (with_reducible refine Below.alloc ?_ (by first | omega | (simp; omega) | simp) _) | (with_reducible refine Below.setCell ?_ (by first | omega | (simp; omega) | simp) _) | (with_reducible refine Below.drew ?_) | (with_reducible refine below_drewN ?_ _))) hbw3 (by first | omega | (simp only [World.size_alloc, World.size_setCell, World.size_drew] at *; omega) | (simp; omega) | simp)
  have sw3 := hpw3.size
  have hBw3 : Below w.heap.size w w3 := Below.trans hBw2 (Below.mono hpw3 hBw2.size)
  have q_a00 := oldc hpw3 l_a0 q_a00
  have q_a01 := oldc hpw3 l_a0 q_a01
  have l_a0 := Nat.lt_of_lt_of_le l_a0 sw3
  clear hbw3 hpw3
  go_wp2_with fail
  refine (toIntS_any _ _ g (h1.below (by repeat' (first | (with_reducible exact Below.refl _ _) | (with_reducible assumption) | (with_reducible refine Below.alloc ?_ (by first | omega | (simp; omega) | simp) _) | (with_reducible refine Below.setCell ?_ (by first | omega | (simp; omega) | simp) _) | (with_reducible refine Below.drew ?_) | (with_reducible refine below_drewN ?_ _)))) (by omega)).mono ?_
  rintro e w4 ⟨t1a, rfl, ho_t1, hbw4⟩
  have hpw4 : Below w3.heap.size w3 w4 := Below.after (by repeat' (first | (with_reducible exact Below.refl _ _) | (with_reducible assumption) | (with_reducible refine Below.alloc ?_ (by first | omega | (simp; omega) | simp) _) | (with_reducible refine Below.setCell ?_ (by first | omega | (simp; omega) | simp) _) | (with_reducible refine Below.drew ?_) | (with_reducible refine below_drewN ?_ _))) hbw4 (by first | omega | (simp only [World.size_alloc, World.size_setCell, World.size_drew] at *; omega) | (simp; omega) | simp)
  have sw4 := hpw4.size
  have hBw4 : Below w.heap.size w w4 := Below.trans hBw3 (Below.mono hpw4 hBw3.size)
  have q_a00 := oldc hpw4 l_a0 q_a00
  have q_a01 := oldc hpw4 l_a0 q_a01
  have l_a0 := Nat.lt_of_lt_of_le l_a0 sw4
  have ho_t0 := Ow.below ho_t0 hpw4
  clear hbw4 hpw4
  go_wp2_with fail
  refine (permuteS_any _ _ _  _ f g (ho_t0.rd.below (by repeat' (first | (with_reducible exact Below.refl _ _) | (with_reducible assumption) | (with_reducible refine Below.alloc ?_ (by first | omega | (simp; omega) | simp) _) | (with_reducible refine Below.setCell ?_ (by first | omega | (simp; omega) | simp) _) | (with_reducible refine Below.drew ?_) | (with_reducible refine below_drewN ?_ _)))) (ho_t1.rd.below (by repeat' (first | (with_reducible exact Below.refl _ _) | (with_reducible assumption) | (with_reducible refine Below.alloc ?_ (by first | omega | (simp; omega) | simp) _) | (with_reducible refine Below.setCell ?_ (by first | omega | (simp; omega) | simp) _) | (with_reducible refine Below.drew ?_) | (with_reducible refine below_drewN ?_ _)))) (by omega) (by omega) V HV.out).mono ?_
  rintro e w5 ⟨ra, rb, rfl, ho_r, hbw5⟩
  have hpw5 : Below w4.heap.size w4 w5 := Below.after (by repeat' (first | (with_reducible exact Below.refl _ _) | (with_reducible assumption) | (with_reducible refine Below.alloc ?_ (by first | omega | (simp; omega) | simp) _) | (with_reducible refine Below.setCell ?_ (by first | omega | (simp; omega) | simp) _) | (with_reducible refine Below.drew ?_) | (with_reducible refine below_drewN ?_ _))) hbw5 (by first | omega | (simp only [World.size_alloc, World.size_setCell, World.size_drew] at *; omega) | (simp; omega) | simp)
  have sw5 := hpw5.size
  have hBw5 : Below w.heap.size w w5 := Below.trans hBw4 (Below.mono hpw5 hBw4.size)
  have q_a00 := oldc hpw5 l_a0 q_a00
  have q_a01 := oldc hpw5 l_a0 q_a01
  have l_a0 := Nat.lt_of_lt_of_le l_a0 sw5
  have ho_t0 := Ow.below ho_t0 hpw5
  have ho_t1 := Ow.below ho_t1 hpw5
  clear hbw5 hpw5
  obtain ⟨aor, nr, cpr, bor, mr, dpr, rfl, rfl⟩ := shapeFam ho_r.rd
  clear ho_t0
  clear ho_t1
  go_wp2_with fail
  refine (toFamily_any _ _ _ f (h0.below (by repeat' (first | (with_reducible exact Below.refl _ _) | (with_reducible assumption) | (with_reducible refine Below.alloc ?_ (by first | omega | (simp; omega) | simp) _) | (with_reducible refine Below.setCell ?_ (by first | omega | (simp; omega) | simp) _) | (with_reducible refine Below.drew ?_) | (with_reducible refine below_drewN ?_ _)))) (by omega) (by omega)).mono ?_
  rintro e w6 ⟨x0a, x0b, rfl, ho_x0, hbw6⟩
  simp only [World.size_alloc] at ho_x0
  have hpw6 : Below w5.heap.size w5 w6 := Below.after (by repeat' (first | (with_reducible exact Below.refl _ _) | (with_reducible assumption) | (with_reducible refine Below.alloc ?_ (by first | omega | (simp; omega) | simp) _) | (with_reducible refine Below.setCell ?_ (by first | omega | (simp; omega) | simp) _) | (with_reducible refine Below.drew ?_) | (with_reducible refine below_drewN ?_ _))) hbw6 (by first | omega | (simp only [World.size_alloc, World.size_setCell, World.size_drew] at *; omega) | (simp; omega) | simp)
  have sw6 := hpw6.size
  have hBw6 : Below w.heap.size w w6 := Below.trans hBw5 (Below.mono hpw6 hBw5.size)
  have q_a00 := oldc hpw6 l_a0 q_a00
  have q_a01 := oldc hpw6 l_a0 q_a01
  have l_a0 := Nat.lt_of_lt_of_le l_a0 sw6
  have l_r : w5.heap.size < w6.heap.size := by have := hbw6.size; simp at this; omega
  have q_r0 : w6.cell? ⟨w5.heap.size, 0, none⟩ = some (.slice aor nr cpr) := oldc hbw6 (by first | omega | (simp; omega) | (simp; done)) (by simp [go_sem])
  have q_r1 : w6.cell? ⟨w5.heap.size, 1, none⟩ = some (.slice bor mr dpr) := oldc hbw6 (by first | omega | (simp; omega) | (simp; done)) (by simp [go_sem])
  have ho_r := Ow.below ho_r hpw6
  clear hbw6 hpw6
  obtain ⟨aox0, nx0, cpx0, box0, mx0, dpx0, rfl, rfl⟩ := shapeFam ho_x0.rd
  go_wp2_with fail
  refine (toIntS_any _ _ g (h1.below (by repeat' (first | (with_reducible exact Below.refl _ _) | (with_reducible assumption) | (with_reducible refine Below.alloc ?_ (by first | omega | (simp; omega) | simp) _) | (with_reducible refine Below.setCell ?_ (by first | omega | (simp; omega) | simp) _) | (with_reducible refine Below.drew ?_) | (with_reducible refine below_drewN ?_ _)))) (by omega)).mono ?_
  rintro e w7 ⟨x1a, rfl, ho_x1, hbw7⟩
  simp only [World.size_alloc] at ho_x1
  have hpw7 : Below w6.heap.size w6 w7 := Below.after (by repeat' (first | (with_reducible exact Below.refl _ _) | (with_reducible assumption) | (with_reducible refine Below.alloc ?_ (by first | omega | (simp; omega) | simp) _) | (with_reducible refine Below.setCell ?_ (by first | omega | (simp; omega) | simp) _) | (with_reducible refine Below.drew ?_) | (with_reducible refine below_drewN ?_ _))) hbw7 (by first | omega | (simp only [World.size_alloc, World.size_setCell, World.size_drew] at *; omega) | (simp; omega) | simp)
  have sw7 := hpw7.size
  have hBw7 : Below w.heap.size w w7 := Below.trans hBw6 (Below.mono hpw7 hBw6.size)
  have q_a00 := oldc hpw7 l_a0 q_a00
  have q_a01 := oldc hpw7 l_a0 q_a01
  have q_r0 := oldc hpw7 l_r q_r0
  have q_r1 := oldc hpw7 l_r q_r1
  have l_a0 := Nat.lt_of_lt_of_le l_a0 sw7
  have l_r := Nat.lt_of_lt_of_le l_r sw7
  have l_x0 : w6.heap.size < w7.heap.size := by have := hbw7.size; simp at this; omega
  have q_x00 : w7.cell? ⟨w6.heap.size, 0, none⟩ = some (.slice aox0 nx0 cpx0) := oldc hbw7 (by first | omega | (simp; omega) | (simp; done)) (by simp [go_sem])
  have q_x01 : w7.cell? ⟨w6.heap.size, 1, none⟩ = some (.slice box0 mx0 dpx0) := oldc hbw7 (by first | omega | (simp; omega) | (simp; done)) (by simp [go_sem])
  have ho_r := Ow.below ho_r hpw7
  have ho_x0 := Ow.below ho_x0 hpw7
  clear hbw7 hpw7
  go_wp2_with fail
  refine (permuteI_any _ _ _  _ f g (ho_x0.rd.below (by repeat' (first | (with_reducible exact Below.refl _ _) | (with_reducible assumption) | (with_reducible refine Below.alloc ?_ (by first | omega | (simp; omega) | simp) _) | (with_reducible refine Below.setCell ?_ (by first | omega | (simp; omega) | simp) _) | (with_reducible refine Below.drew ?_) | (with_reducible refine below_drewN ?_ _)))) (ho_x1.rd.below (by repeat' (first | (with_reducible exact Below.refl _ _) | (with_reducible assumption) | (with_reducible refine Below.alloc ?_ (by first | omega | (simp; omega) | simp) _) | (with_reducible refine Below.setCell ?_ (by first | omega | (simp; omega) | simp) _) | (with_reducible refine Below.drew ?_) | (with_reducible refine below_drewN ?_ _)))) (by omega) V HV.out).mono ?_
  rintro e w8 ⟨ga, gb, rfl, ho_g, hbw8⟩
  have hpw8 : Below w7.heap.size w7 w8 := Below.after (by repeat' (first | (with_reducible exact Below.refl _ _) | (with_reducible assumption) | (with_reducible refine Below.alloc ?_ (by first | omega | (simp; omega) | simp) _) | (with_reducible refine Below.setCell ?_ (by first | omega | (simp; omega) | simp) _) | (with_reducible refine Below.drew ?_) | (with_reducible refine below_drewN ?_ _))) hbw8 (by first | omega | (simp only [World.size_alloc, World.size_setCell, World.size_drew] at *; omega) | (simp; omega) | simp)
  have sw8 := hpw8.size
  have hBw8 : Below w.heap.size w w8 := Below.trans hBw7 (Below.mono hpw8 hBw7.size)
  have q_a00 := oldc hpw8 l_a0 q_a00
  have q_a01 := oldc hpw8 l_a0 q_a01
  have q_r0 := oldc hpw8 l_r q_r0
  have q_r1 := oldc hpw8 l_r q_r1
  have q_x00 := oldc hpw8 l_x0 q_x00
  have q_x01 := oldc hpw8 l_x0 q_x01
  have l_a0 := Nat.lt_of_lt_of_le l_a0 sw8
  have l_r := Nat.lt_of_lt_of_le l_r sw8
  have l_x0 := Nat.lt_of_lt_of_le l_x0 sw8
  have ho_r := Ow.below ho_r hpw8
  have ho_x0 := Ow.below ho_x0 hpw8
  have ho_x1 := Ow.below ho_x1 hpw8
  clear hbw8 hpw8
  obtain ⟨aog, ng, cpg, bog, mg, dpg, rfl, rfl⟩ := shapeFam ho_g.rd
  go_wp2_with fail
  refine (eqFamily_b _ _ _ _ _ (permX f g) (permX f g) (ho_g.rd.below (by repeat' (first | (with_reducible exact Below.refl _ _) | (with_reducible assumption) | (with_reducible refine Below.alloc ?_ (by first | omega | (simp; omega) | simp) _) | (with_reducible refine Below.setCell ?_ (by first | omega | (simp; omega) | simp) _) | (with_reducible refine Below.drew ?_) | (with_reducible refine below_drewN ?_ _)))) (ho_r.rd.below (by repeat' (first | (with_reducible exact Below.refl _ _) | (with_reducible assumption) | (with_reducible refine Below.alloc ?_ (by first | omega | (simp; omega) | simp) _) | (with_reducible refine Below.setCell ?_ (by first | omega | (simp; omega) | simp) _) | (with_reducible refine Below.drew ?_) | (with_reducible refine below_drewN ?_ _)))) true (by simp)).mono ?_
  rintro e w9 ⟨rfl, hbw9⟩
  have hpw9 : Below w8.heap.size w8 w9 := Below.after (by repeat' (first | (with_reducible exact Below.refl _ _) | (with_reducible assumption) | (with_reducible refine Below.alloc ?_ (by first | omega | (simp; omega) | simp) _) | (with_reducible refine Below.setCell ?_ (by first | omega | (simp; omega) | simp) _) | (with_reducible refine Below.drew ?_) | (with_reducible refine below_drewN ?_ _))) hbw9 (by first | omega | (simp only [World.size_alloc, World.size_setCell, World.size_drew] at *; omega) | (simp; omega) | simp)
  have sw9 := hpw9.size
  have hBw9 : Below w.heap.size w w9 := Below.trans hBw8 (Below.mono hpw9 hBw8.size)
  have q_a00 := oldc hpw9 l_a0 q_a00
  have q_a01 := oldc hpw9 l_a0 q_a01
  have q_r0 := oldc hpw9 l_r q_r0
  have q_r1 := oldc hpw9 l_r q_r1
  have q_x00 := oldc hpw9 l_x0 q_x00
  have q_x01 := oldc hpw9 l_x0 q_x01
  have l_a0 := Nat.lt_of_lt_of_le l_a0 sw9
  have l_r := Nat.lt_of_lt_of_le l_r sw9
  have l_x0 := Nat.lt_of_lt_of_le l_x0 sw9
  have l_g : w8.heap.size < w9.heap.size := by have := hbw9.size; simp at this; omega
  have q_g0 : w9.cell? ⟨w8.heap.size, 0, none⟩ = some (.slice aog ng cpg) := oldc hbw9 (by first | omega | (simp; omega) | (simp; done)) (by simp [go_sem])
  have q_g1 : w9.cell? ⟨w8.heap.size, 1, none⟩ = some (.slice bog mg dpg) := oldc hbw9 (by first | omega | (simp; omega) | (simp; done)) (by simp [go_sem])
  have ho_r := Ow.below ho_r hpw9
  have ho_x0 := Ow.below ho_x0 hpw9
  have ho_x1 := Ow.below ho_x1 hpw9
  have ho_g := Ow.below ho_g hpw9
  clear hbw9 hpw9
  go_wp2_with fail
  go_region_held3 (fun w' => w'.cell? ⟨w.heap.size, 0, none⟩ = some (c0a) ∧ w'.cell? ⟨w.heap.size, 1, none⟩ = some (c0b) ∧ w'.cell? ⟨w6.heap.size, 0, none⟩ = some (.slice aox0 nx0 cpx0) ∧ w'.cell? ⟨w6.heap.size, 1, none⟩ = some (.slice box0 mx0 dpx0)) (go_keep) (first | (go_at_call 16; refine (toFamily_any _ _ _ f (h0.below (Below.drew hBw9)) (by omega) (by omega)).mono ?_; rintro e w10 ⟨y0a, y0b, rfl, ho_y0, hbw10⟩; have hpw10 : Below w9.heap.size w9 w10 := Below.trans (Below.drew (Below.refl _ _)) hbw10; have sw10 := hpw10.size; have hBw10 : Below w.heap.size w w10 := Below.trans hBw9 (Below.mono hpw10 hBw9.size); have q_a00 := oldc hpw10 l_a0 q_a00; have q_a01 := oldc hpw10 l_a0 q_a01; have q_r0 := oldc hpw10 l_r q_r0; have q_r1 := oldc hpw10 l_r q_r1; have q_x00 := oldc hpw10 l_x0 q_x00; have q_x01 := oldc hpw10 l_x0 q_x01; have q_g0 := oldc hpw10 l_g q_g0; have q_g1 := oldc hpw10 l_g q_g1; have l_a0 := Nat.lt_of_lt_of_le l_a0 sw10; have l_g := Nat.lt_of_lt_of_le l_g sw10; have l_r := Nat.lt_of_lt_of_le l_r sw10; have l_x0 := Nat.lt_of_lt_of_le l_x0 sw10; have ho_r := Ow.below ho_r hpw10; have ho_x0 := Ow.below ho_x0 hpw10; have ho_x1 := Ow.below ho_x1 hpw10; have ho_g := Ow.below ho_g hpw10; clear hbw10 hpw10) | (go_at_call 19; refine (eqFamily_b _ _ _ _ _ f f ho_x0.rd ho_y0.rd true (by simp)).mono ?_; rintro e w11 ⟨rfl, hbw11⟩; have sw11 := hbw11.size; have hBw11 : Below w.heap.size w w11 := Below.trans hBw10 (Below.mono hbw11 hBw10.size); have q_a00 := oldc hbw11 l_a0 q_a00; have q_a01 := oldc hbw11 l_a0 q_a01; have q_r0 := oldc hbw11 l_r q_r0; have q_r1 := oldc hbw11 l_r q_r1; have q_x00 := oldc hbw11 l_x0 q_x00; have q_x01 := oldc hbw11 l_x0 q_x01; have q_g0 := oldc hbw11 l_g q_g0; have q_g1 := oldc hbw11 l_g q_g1; have l_a0 := Nat.lt_of_lt_of_le l_a0 sw11; have l_g := Nat.lt_of_lt_of_le l_g sw11; have l_r := Nat.lt_of_lt_of_le l_r sw11; have l_x0 := Nat.lt_of_lt_of_le l_x0 sw11; have ho_r := Ow.below ho_r hbw11; have ho_x0 := Ow.below ho_x0 hbw11; have ho_x1 := Ow.below ho_x1 hbw11; have ho_g := Ow.below ho_g hbw11; clear hbw11 ho_y0))
  go_wp2_with fail
  refine (toIntS_any _ _ g (h1.below (by repeat' (first | (with_reducible exact Below.refl _ _) | (with_reducible assumption) | (with_reducible refine Below.alloc ?_ (by first | omega | (simp; omega) | simp) _) | (with_reducible refine Below.setCell ?_ (by first | omega | (simp; omega) | simp) _) | (with_reducible refine Below.drew ?_) | (with_reducible refine below_drewN ?_ _)))) (by omega)).mono ?_
  rintro e w12 ⟨y1a, rfl, ho_y1, hbw12⟩
  have hpw12 : Below w11.heap.size w11 w12 := Below.after (by repeat' (first | (with_reducible exact Below.refl _ _) | (with_reducible assumption) | (with_reducible refine Below.alloc ?_ (by first | omega | (simp; omega) | simp) _) | (with_reducible refine Below.setCell ?_ (by first | omega | (simp; omega) | simp) _) | (with_reducible refine Below.drew ?_) | (with_reducible refine below_drewN ?_ _))) hbw12 (by first | omega | (simp only [World.size_alloc, World.size_setCell, World.size_drew] at *; omega) | (simp; omega) | simp)
  have sw12 := hpw12.size
  have hBw12 : Below w.heap.size w w12 := Below.trans hBw11 (Below.mono hpw12 hBw11.size)
  have q_a00 := oldc hpw12 l_a0 q_a00
  have q_a01 := oldc hpw12 l_a0 q_a01
  have q_r0 := oldc hpw12 l_r q_r0
  have q_r1 := oldc hpw12 l_r q_r1
  have q_x00 := oldc hpw12 l_x0 q_x00
  have q_x01 := oldc hpw12 l_x0 q_x01
  have q_g0 := oldc hpw12 l_g q_g0
  have q_g1 := oldc hpw12 l_g q_g1
  have l_a0 := Nat.lt_of_lt_of_le l_a0 sw12
  have l_g := Nat.lt_of_lt_of_le l_g sw12
  have l_r := Nat.lt_of_lt_of_le l_r sw12
  have l_x0 := Nat.lt_of_lt_of_le l_x0 sw12
  have ho_r := Ow.below ho_r hpw12
  have ho_x0 := Ow.below ho_x0 hpw12
  have ho_x1 := Ow.below ho_x1 hpw12
  have ho_g := Ow.below ho_g hpw12
  clear hbw12 hpw12
  go_wp2_with fail
  refine (eqIntS_b _ _ _ g g (ho_x1.rd.below (by repeat' (first | (with_reducible exact Below.refl _ _) | (with_reducible assumption) | (with_reducible refine Below.alloc ?_ (by first | omega | (simp; omega) | simp) _) | (with_reducible refine Below.setCell ?_ (by first | omega | (simp; omega) | simp) _) | (with_reducible refine Below.drew ?_) | (with_reducible refine below_drewN ?_ _)))) (ho_y1.rd.below (by repeat' (first | (with_reducible exact Below.refl _ _) | (with_reducible assumption) | (with_reducible refine Below.alloc ?_ (by first | omega | (simp; omega) | simp) _) | (with_reducible refine Below.setCell ?_ (by first | omega | (simp; omega) | simp) _) | (with_reducible refine Below.drew ?_) | (with_reducible refine below_drewN ?_ _)))) true (by simp)).mono ?_
  rintro e w13 ⟨rfl, hbw13⟩
  have hpw13 : Below w12.heap.size w12 w13 := Below.after (by repeat' (first | (with_reducible exact Below.refl _ _) | (with_reducible assumption) | (with_reducible refine Below.alloc ?_ (by first | omega | (simp; omega) | simp) _) | (with_reducible refine Below.setCell ?_ (by first | omega | (simp; omega) | simp) _) | (with_reducible refine Below.drew ?_) | (with_reducible refine below_drewN ?_ _))) hbw13 (by first | omega | (simp only [World.size_alloc, World.size_setCell, World.size_drew] at *; omega) | (simp; omega) | simp)
  have sw13 := hpw13.size
  have hBw13 : Below w.heap.size w w13 := Below.trans hBw12 (Below.mono hpw13 hBw12.size)
  have q_a00 := oldc hpw13 l_a0 q_a00
  have q_a01 := oldc hpw13 l_a0 q_a01
  have q_r0 := oldc hpw13 l_r q_r0
  have q_r1 := oldc hpw13 l_r q_r1
  have q_x00 := oldc hpw13 l_x0 q_x00
  have q_x01 := oldc hpw13 l_x0 q_x01
  have q_g0 := oldc hpw13 l_g q_g0
  have q_g1 := oldc hpw13 l_g q_g1
  have l_a0 := Nat.lt_of_lt_of_le l_a0 sw13
  have l_g := Nat.lt_of_lt_of_le l_g sw13
  have l_r := Nat.lt_of_lt_of_le l_r sw13
  have l_x0 := Nat.lt_of_lt_of_le l_x0 sw13
  have ho_r := Ow.below ho_r hpw13
  have ho_x0 := Ow.below ho_x0 hpw13
  have ho_x1 := Ow.below ho_x1 hpw13
  have ho_g := Ow.below ho_g hpw13
  have ho_y1 := Ow.below ho_y1 hpw13
  clear hbw13 hpw13
  clear ho_y1
  obtain ⟨hres1, hres2⟩ := permX_len f g
  obtain ⟨fp_x0, hr_x0, hz_x0, hn_x0⟩ := ho_x0
  go_wp2_with fail
  refine (markFamily_any _ _ _ f fp_x0 hr_x0 hn_x0 (1) (by omega) (by omega)).mono ?_
  rintro e w14 ⟨rfl, hr_x0, hoffw14⟩
  have sw14 := hoffw14.size
  have hBw14 : Below w.heap.size w w14 := Below.trans hBw13 (OffF.toBelow hoffw14 hBw13.size (fun b hb => Nat.le_trans (show w.heap.size ≤ w5.heap.size + 1 by omega) (hz_x0 b hb).1))
  have q_a00 := offc hoffw14 hz_x0 (show w.heap.size < w5.heap.size + 1 ∨ w6.heap.size ≤ w.heap.size by omega) l_a0 q_a00
  have q_a01 := offc hoffw14 hz_x0 (show w.heap.size < w5.heap.size + 1 ∨ w6.heap.size ≤ w.heap.size by omega) l_a0 q_a01
  have q_r0 := offc hoffw14 hz_x0 (show w5.heap.size < w5.heap.size + 1 ∨ w6.heap.size ≤ w5.heap.size by omega) l_r q_r0
  have q_r1 := offc hoffw14 hz_x0 (show w5.heap.size < w5.heap.size + 1 ∨ w6.heap.size ≤ w5.heap.size by omega) l_r q_r1
  have q_x00 := offc hoffw14 hz_x0 (show w6.heap.size < w5.heap.size + 1 ∨ w6.heap.size ≤ w6.heap.size by omega) l_x0 q_x00
  have q_x01 := offc hoffw14 hz_x0 (show w6.heap.size < w5.heap.size + 1 ∨ w6.heap.size ≤ w6.heap.size by omega) l_x0 q_x01
  have q_g0 := offc hoffw14 hz_x0 (show w8.heap.size < w5.heap.size + 1 ∨ w6.heap.size ≤ w8.heap.size by omega) l_g q_g0
  have q_g1 := offc hoffw14 hz_x0 (show w8.heap.size < w5.heap.size + 1 ∨ w6.heap.size ≤ w8.heap.size by omega) l_g q_g1
  have l_a0 := Nat.lt_of_lt_of_le l_a0 sw14
  have l_g := Nat.lt_of_lt_of_le l_g sw14
  have l_r := Nat.lt_of_lt_of_le l_r sw14
  have l_x0 := Nat.lt_of_lt_of_le l_x0 sw14
  have ho_r := Ow.keep ho_r (OffF.zone hoffw14 (by omega) hz_x0 (by omega))
  have ho_x1 := Ow.keep ho_x1 (OffF.zone hoffw14 (by omega) hz_x0 (by omega))
  have ho_g := Ow.keep ho_g (OffF.zone hoffw14 (by omega) hz_x0 (by omega))
  have ho_x0 : Ow (w5.heap.size + 1) (w6.heap.size) w14 [.slice aox0 nx0 cpx0, .slice box0 mx0 dpx0] (((marksPer 1 f.1.length, marksUni (1 + 6 * f.1.length) f.2.length) : Fam)) := ⟨fp_x0, hr_x0, hz_x0, hn_x0⟩
  clear hr_x0 hz_x0 hn_x0 hoffw14
  obtain ⟨fp_x1, hr_x1, hz_x1, hn_x1⟩ := ho_x1
  go_wp2_with fail
  refine (markIntS_any _ _ g fp_x1 hr_x1 ((1 + 6 * f.1.length + 4 * f.2.length)) (by omega) (by omega)).mono ?_
  rintro e w15 ⟨rfl, hr_x1, hoffw15⟩
  have sw15 := hoffw15.size
  have hBw15 : Below w.heap.size w w15 := Below.trans hBw14 (OffF.toBelow hoffw15 hBw14.size (fun b hb => Nat.le_trans (show w.heap.size ≤ w6.heap.size + 1 by omega) (hz_x1 b hb).1))
  have q_a00 := offc hoffw15 hz_x1 (show w.heap.size < w6.heap.size + 1 ∨ w7.heap.size ≤ w.heap.size by omega) l_a0 q_a00
  have q_a01 := offc hoffw15 hz_x1 (show w.heap.size < w6.heap.size + 1 ∨ w7.heap.size ≤ w.heap.size by omega) l_a0 q_a01
  have q_r0 := offc hoffw15 hz_x1 (show w5.heap.size < w6.heap.size + 1 ∨ w7.heap.size ≤ w5.heap.size by omega) l_r q_r0
  have q_r1 := offc hoffw15 hz_x1 (show w5.heap.size < w6.heap.size + 1 ∨ w7.heap.size ≤ w5.heap.size by omega) l_r q_r1
  have q_x00 := offc hoffw15 hz_x1 (show w6.heap.size < w6.heap.size + 1 ∨ w7.heap.size ≤ w6.heap.size by omega) l_x0 q_x00
  have q_x01 := offc hoffw15 hz_x1 (show w6.heap.size < w6.heap.size + 1 ∨ w7.heap.size ≤ w6.heap.size by omega) l_x0 q_x01
  have q_g0 := offc hoffw15 hz_x1 (show w8.heap.size < w6.heap.size + 1 ∨ w7.heap.size ≤ w8.heap.size by omega) l_g q_g0
  have q_g1 := offc hoffw15 hz_x1 (show w8.heap.size < w6.heap.size + 1 ∨ w7.heap.size ≤ w8.heap.size by omega) l_g q_g1
  have l_a0 := Nat.lt_of_lt_of_le l_a0 sw15
  have l_g := Nat.lt_of_lt_of_le l_g sw15
  have l_r := Nat.lt_of_lt_of_le l_r sw15
  have l_x0 := Nat.lt_of_lt_of_le l_x0 sw15
  have ho_r := Ow.keep ho_r (OffF.zone hoffw15 (by omega) hz_x1 (by omega))
  have ho_x0 := Ow.keep ho_x0 (OffF.zone hoffw15 (by omega) hz_x1 (by omega))
  have ho_g := Ow.keep ho_g (OffF.zone hoffw15 (by omega) hz_x1 (by omega))
  have ho_x1 : Ow (w6.heap.size + 1) (w7.heap.size) w15 [x1a] (marks (1 + 6 * f.1.length + 4 * f.2.length) g.length) := ⟨fp_x1, hr_x1, hz_x1, hn_x1⟩
  clear hr_x1 hz_x1 hn_x1 hoffw15
  go_wp2_with fail
  refine (eqFamily_b _ _ _ _ _ (permX f g) (permX f g) (ho_g.rd.below (by repeat' (first | (with_reducible exact Below.refl _ _) | (with_reducible assumption) | (with_reducible refine Below.alloc ?_ (by first | omega | (simp; omega) | simp) _) | (with_reducible refine Below.setCell ?_ (by first | omega | (simp; omega) | simp) _) | (with_reducible refine Below.drew ?_) | (with_reducible refine below_drewN ?_ _)))) (ho_r.rd.below (by repeat' (first | (with_reducible exact Below.refl _ _) | (with_reducible assumption) | (with_reducible refine Below.alloc ?_ (by first | omega | (simp; omega) | simp) _) | (with_reducible refine Below.setCell ?_ (by first | omega | (simp; omega) | simp) _) | (with_reducible refine Below.drew ?_) | (with_reducible refine below_drewN ?_ _)))) true (by simp)).mono ?_
  rintro e w16 ⟨rfl, hbw16⟩
  have hpw16 : Below w15.heap.size w15 w16 := Below.after (by repeat' (first | (with_reducible exact Below.refl _ _) | (with_reducible assumption) | (with_reducible refine Below.alloc ?_ (by first | omega | (simp; omega) | simp) _) | (with_reducible refine Below.setCell ?_ (by first | omega | (simp; omega) | simp) _) | (with_reducible refine Below.drew ?_) | (with_reducible refine below_drewN ?_ _))) hbw16 (by first | omega | (simp only [World.size_alloc, World.size_setCell, World.size_drew] at *; omega) | (simp; omega) | simp)
  have sw16 := hpw16.size
  have hBw16 : Below w.heap.size w w16 := Below.trans hBw15 (Below.mono hpw16 hBw15.size)
  have q_a00 := oldc hpw16 l_a0 q_a00
  have q_a01 := oldc hpw16 l_a0 q_a01
  have q_r0 := oldc hpw16 l_r q_r0
  have q_r1 := oldc hpw16 l_r q_r1
  have q_x00 := oldc hpw16 l_x0 q_x00
  have q_x01 := oldc hpw16 l_x0 q_x01
  have q_g0 := oldc hpw16 l_g q_g0
  have q_g1 := oldc hpw16 l_g q_g1
  have l_a0 := Nat.lt_of_lt_of_le l_a0 sw16
  have l_g := Nat.lt_of_lt_of_le l_g sw16
  have l_r := Nat.lt_of_lt_of_le l_r sw16
  have l_x0 := Nat.lt_of_lt_of_le l_x0 sw16
  have ho_r := Ow.below ho_r hpw16
  have ho_x0 := Ow.below ho_x0 hpw16
  have ho_x1 := Ow.below ho_x1 hpw16
  have ho_g := Ow.below ho_g hpw16
  clear hbw16 hpw16
  clear ho_x0
  clear ho_x1
  obtain ⟨fp_g, hr_g, hz_g, hn_g⟩ := ho_g
  go_wp2_with fail
  refine (markFamily_any _ _ _ (permX f g) fp_g hr_g hn_g (1) (by omega) (by omega)).mono ?_
  rintro e w17 ⟨rfl, hr_g, hoffw17⟩
  have sw17 := hoffw17.size
  have hBw17 : Below w.heap.size w w17 := Below.trans hBw16 (OffF.toBelow hoffw17 hBw16.size (fun b hb => Nat.le_trans (show w.heap.size ≤ w7.heap.size by omega) (hz_g b hb).1))
  have q_a00 := offc hoffw17 hz_g (show w.heap.size < w7.heap.size ∨ w8.heap.size ≤ w.heap.size by omega) l_a0 q_a00
  have q_a01 := offc hoffw17 hz_g (show w.heap.size < w7.heap.size ∨ w8.heap.size ≤ w.heap.size by omega) l_a0 q_a01
  have q_r0 := offc hoffw17 hz_g (show w5.heap.size < w7.heap.size ∨ w8.heap.size ≤ w5.heap.size by omega) l_r q_r0
  have q_r1 := offc hoffw17 hz_g (show w5.heap.size < w7.heap.size ∨ w8.heap.size ≤ w5.heap.size by omega) l_r q_r1
  have q_x00 := offc hoffw17 hz_g (show w6.heap.size < w7.heap.size ∨ w8.heap.size ≤ w6.heap.size by omega) l_x0 q_x00
  have q_x01 := offc hoffw17 hz_g (show w6.heap.size < w7.heap.size ∨ w8.heap.size ≤ w6.heap.size by omega) l_x0 q_x01
  have q_g0 := offc hoffw17 hz_g (show w8.heap.size < w7.heap.size ∨ w8.heap.size ≤ w8.heap.size by omega) l_g q_g0
  have q_g1 := offc hoffw17 hz_g (show w8.heap.size < w7.heap.size ∨ w8.heap.size ≤ w8.heap.size by omega) l_g q_g1
  have l_a0 := Nat.lt_of_lt_of_le l_a0 sw17
  have l_g := Nat.lt_of_lt_of_le l_g sw17
  have l_r := Nat.lt_of_lt_of_le l_r sw17
  have l_x0 := Nat.lt_of_lt_of_le l_x0 sw17
  have ho_r := Ow.keep ho_r (OffF.zone hoffw17 (by omega) hz_g (by omega))
  have ho_g : Ow (w7.heap.size) (w8.heap.size) w17 [.slice aog ng cpg, .slice bog mg dpg] (((marksPer 1 (permX f g).1.length, marksUni (1 + 6 * (permX f g).1.length) (permX f g).2.length) : Fam)) := ⟨fp_g, hr_g, hz_g, hn_g⟩
  clear hr_g hz_g hn_g hoffw17
  go_wp2_with fail
  refine (heldFamily_any _ _ _ (permX f g).1.length (permX f g).2.length 1 ho_g.rd (by omega) (by omega)).mono ?_
  rintro e w18 ⟨rfl, hbw18⟩
  have hpw18 : Below w17.heap.size w17 w18 := Below.after (by repeat' (first | (with_reducible exact Below.refl _ _) | (with_reducible assumption) | (with_reducible refine Below.alloc ?_ (by first | omega | (simp; omega) | simp) _) | (with_reducible refine Below.setCell ?_ (by first | omega | (simp; omega) | simp) _) | (with_reducible refine Below.drew ?_) | (with_reducible refine below_drewN ?_ _))) hbw18 (by first | omega | (simp only [World.size_alloc, World.size_setCell, World.size_drew] at *; omega) | (simp; omega) | simp)
  have sw18 := hpw18.size
  have hBw18 : Below w.heap.size w w18 := Below.trans hBw17 (Below.mono hpw18 hBw17.size)
  have q_a00 := oldc hpw18 l_a0 q_a00
  have q_a01 := oldc hpw18 l_a0 q_a01
  have q_r0 := oldc hpw18 l_r q_r0
  have q_r1 := oldc hpw18 l_r q_r1
  have q_x00 := oldc hpw18 l_x0 q_x00
  have q_x01 := oldc hpw18 l_x0 q_x01
  have q_g0 := oldc hpw18 l_g q_g0
  have q_g1 := oldc hpw18 l_g q_g1
  have l_a0 := Nat.lt_of_lt_of_le l_a0 sw18
  have l_g := Nat.lt_of_lt_of_le l_g sw18
  have l_r := Nat.lt_of_lt_of_le l_r sw18
  have l_x0 := Nat.lt_of_lt_of_le l_x0 sw18
  have ho_r := Ow.below ho_r hpw18
  have ho_g := Ow.below ho_g hpw18
  clear hbw18 hpw18
  go_wp2_with fail
  refine (toFamily_any _ _ _ f (h0.below (by repeat' (first | (with_reducible exact Below.refl _ _) | (with_reducible assumption) | (with_reducible refine Below.alloc ?_ (by first | omega | (simp; omega) | simp) _) | (with_reducible refine Below.setCell ?_ (by first | omega | (simp; omega) | simp) _) | (with_reducible refine Below.drew ?_) | (with_reducible refine below_drewN ?_ _)))) (by omega) (by omega)).mono ?_
  rintro e w19 ⟨z0a, z0b, rfl, ho_z0, hbw19⟩
  have hpw19 : Below w18.heap.size w18 w19 := Below.after (by repeat' (first | (with_reducible exact Below.refl _ _) | (with_reducible assumption) | (with_reducible refine Below.alloc ?_ (by first | omega | (simp; omega) | simp) _) | (with_reducible refine Below.setCell ?_ (by first | omega | (simp; omega) | simp) _) | (with_reducible refine Below.drew ?_) | (with_reducible refine below_drewN ?_ _))) hbw19 (by first | omega | (simp only [World.size_alloc, World.size_setCell, World.size_drew] at *; omega) | (simp; omega) | simp)
  have sw19 := hpw19.size
  have hBw19 : Below w.heap.size w w19 := Below.trans hBw18 (Below.mono hpw19 hBw18.size)
  have q_a00 := oldc hpw19 l_a0 q_a00
  have q_a01 := oldc hpw19 l_a0 q_a01
  have q_r0 := oldc hpw19 l_r q_r0
  have q_r1 := oldc hpw19 l_r q_r1
  have q_x00 := oldc hpw19 l_x0 q_x00
  have q_x01 := oldc hpw19 l_x0 q_x01
  have q_g0 := oldc hpw19 l_g q_g0
  have q_g1 := oldc hpw19 l_g q_g1
  have l_a0 := Nat.lt_of_lt_of_le l_a0 sw19
  have l_g := Nat.lt_of_lt_of_le l_g sw19
  have l_r := Nat.lt_of_lt_of_le l_r sw19
  have l_x0 := Nat.lt_of_lt_of_le l_x0 sw19
  have ho_r := Ow.below ho_r hpw19
  have ho_g := Ow.below ho_g hpw19
  clear hbw19 hpw19
  go_wp2_with fail
  refine (toIntS_any _ _ g (h1.below (by repeat' (first | (with_reducible exact Below.refl _ _) | (with_reducible assumption) | (with_reducible refine Below.alloc ?_ (by first | omega | (simp; omega) | simp) _) | (with_reducible refine Below.setCell ?_ (by first | omega | (simp; omega) | simp) _) | (with_reducible refine Below.drew ?_) | (with_reducible refine below_drewN ?_ _)))) (by omega)).mono ?_
  rintro e w20 ⟨z1a, rfl, ho_z1, hbw20⟩
  have hpw20 : Below w19.heap.size w19 w20 := Below.after (by repeat' (first | (with_reducible exact Below.refl _ _) | (with_reducible assumption) | (with_reducible refine Below.alloc ?_ (by first | omega | (simp; omega) | simp) _) | (with_reducible refine Below.setCell ?_ (by first | omega | (simp; omega) | simp) _) | (with_reducible refine Below.drew ?_) | (with_reducible refine below_drewN ?_ _))) hbw20 (by first | omega | (simp only [World.size_alloc, World.size_setCell, World.size_drew] at *; omega) | (simp; omega) | simp)
  have sw20 := hpw20.size
  have hBw20 : Below w.heap.size w w20 := Below.trans hBw19 (Below.mono hpw20 hBw19.size)
  have q_a00 := oldc hpw20 l_a0 q_a00
  have q_a01 := oldc hpw20 l_a0 q_a01
  have q_r0 := oldc hpw20 l_r q_r0
  have q_r1 := oldc hpw20 l_r q_r1
  have q_x00 := oldc hpw20 l_x0 q_x00
  have q_x01 := oldc hpw20 l_x0 q_x01
  have q_g0 := oldc hpw20 l_g q_g0
  have q_g1 := oldc hpw20 l_g q_g1
  have l_a0 := Nat.lt_of_lt_of_le l_a0 sw20
  have l_g := Nat.lt_of_lt_of_le l_g sw20
  have l_r := Nat.lt_of_lt_of_le l_r sw20
  have l_x0 := Nat.lt_of_lt_of_le l_x0 sw20
  have ho_r := Ow.below ho_r hpw20
  have ho_g := Ow.below ho_g hpw20
  have ho_z0 := Ow.below ho_z0 hpw20
  clear hbw20 hpw20
  go_wp2_with fail
  refine (permuteI_any _ _ _  _ f g (ho_z0.rd.below (by repeat' (first | (with_reducible exact Below.refl _ _) | (with_reducible assumption) | (with_reducible refine Below.alloc ?_ (by first | omega | (simp; omega) | simp) _) | (with_reducible refine Below.setCell ?_ (by first | omega | (simp; omega) | simp) _) | (with_reducible refine Below.drew ?_) | (with_reducible refine below_drewN ?_ _)))) (ho_z1.rd.below (by repeat' (first | (with_reducible exact Below.refl _ _) | (with_reducible assumption) | (with_reducible refine Below.alloc ?_ (by first | omega | (simp; omega) | simp) _) | (with_reducible refine Below.setCell ?_ (by first | omega | (simp; omega) | simp) _) | (with_reducible refine Below.drew ?_) | (with_reducible refine below_drewN ?_ _)))) (by omega) V HV.out).mono ?_
  rintro e w21 ⟨ha, hb, rfl, ho_h, hbw21⟩
  have hpw21 : Below w20.heap.size w20 w21 := Below.after (by repeat' (first | (with_reducible exact Below.refl _ _) | (with_reducible assumption) | (with_reducible refine Below.alloc ?_ (by first | omega | (simp; omega) | simp) _) | (with_reducible refine Below.setCell ?_ (by first | omega | (simp; omega) | simp) _) | (with_reducible refine Below.drew ?_) | (with_reducible refine below_drewN ?_ _))) hbw21 (by first | omega | (simp only [World.size_alloc, World.size_setCell, World.size_drew] at *; omega) | (simp; omega) | simp)
  have sw21 := hpw21.size
  have hBw21 : Below w.heap.size w w21 := Below.trans hBw20 (Below.mono hpw21 hBw20.size)
  have q_a00 := oldc hpw21 l_a0 q_a00
  have q_a01 := oldc hpw21 l_a0 q_a01
  have q_r0 := oldc hpw21 l_r q_r0
  have q_r1 := oldc hpw21 l_r q_r1
  have q_x00 := oldc hpw21 l_x0 q_x00
  have q_x01 := oldc hpw21 l_x0 q_x01
  have q_g0 := oldc hpw21 l_g q_g0
  have q_g1 := oldc hpw21 l_g q_g1
  have l_a0 := Nat.lt_of_lt_of_le l_a0 sw21
  have l_g := Nat.lt_of_lt_of_le l_g sw21
  have l_r := Nat.lt_of_lt_of_le l_r sw21
  have l_x0 := Nat.lt_of_lt_of_le l_x0 sw21
  have ho_r := Ow.below ho_r hpw21
  have ho_g := Ow.below ho_g hpw21
  have ho_z0 := Ow.below ho_z0 hpw21
  have ho_z1 := Ow.below ho_z1 hpw21
  clear hbw21 hpw21
  obtain ⟨aoh, nh, cph, boh, mh, dph, rfl, rfl⟩ := shapeFam ho_h.rd
  clear ho_z0
  clear ho_z1
  go_wp2_with fail
  refine (eqFamily_b _ _ _ _ _ (permX f g) (permX f g) (ho_h.rd.below (by repeat' (first | (with_reducible exact Below.refl _ _) | (with_reducible assumption) | (with_reducible refine Below.alloc ?_ (by first | omega | (simp; omega) | simp) _) | (with_reducible refine Below.setCell ?_ (by first | omega | (simp; omega) | simp) _) | (with_reducible refine Below.drew ?_) | (with_reducible refine below_drewN ?_ _)))) (ho_r.rd.below (by repeat' (first | (with_reducible exact Below.refl _ _) | (with_reducible assumption) | (with_reducible refine Below.alloc ?_ (by first | omega | (simp; omega) | simp) _) | (with_reducible refine Below.setCell ?_ (by first | omega | (simp; omega) | simp) _) | (with_reducible refine Below.drew ?_) | (with_reducible refine below_drewN ?_ _)))) true (by simp)).mono ?_
  rintro e w22 ⟨rfl, hbw22⟩
  have hpw22 : Below w21.heap.size w21 w22 := Below.after (by repeat' (first | (with_reducible exact Below.refl _ _) | (with_reducible assumption) | (with_reducible refine Below.alloc ?_ (by first | omega | (simp; omega) | simp) _) | (with_reducible refine Below.setCell ?_ (by first | omega | (simp; omega) | simp) _) | (with_reducible refine Below.drew ?_) | (with_reducible refine below_drewN ?_ _))) hbw22 (by first | omega | (simp only [World.size_alloc, World.size_setCell, World.size_drew] at *; omega) | (simp; omega) | simp)
  have sw22 := hpw22.size
  have hBw22 : Below w.heap.size w w22 := Below.trans hBw21 (Below.mono hpw22 hBw21.size)
  have q_a00 := oldc hpw22 l_a0 q_a00
  have q_a01 := oldc hpw22 l_a0 q_a01
  have q_r0 := oldc hpw22 l_r q_r0
  have q_r1 := oldc hpw22 l_r q_r1
  have q_x00 := oldc hpw22 l_x0 q_x00
  have q_x01 := oldc hpw22 l_x0 q_x01
  have q_g0 := oldc hpw22 l_g q_g0
  have q_g1 := oldc hpw22 l_g q_g1
  have l_a0 := Nat.lt_of_lt_of_le l_a0 sw22
  have l_g := Nat.lt_of_lt_of_le l_g sw22
  have l_r := Nat.lt_of_lt_of_le l_r sw22
  have l_x0 := Nat.lt_of_lt_of_le l_x0 sw22
  have l_h : w21.heap.size < w22.heap.size := by have := hbw22.size; simp at this; omega
  have q_h0 : w22.cell? ⟨w21.heap.size, 0, none⟩ = some (.slice aoh nh cph) := oldc hbw22 (by first | omega | (simp; omega) | (simp; done)) (by simp [go_sem])
  have q_h1 : w22.cell? ⟨w21.heap.size, 1, none⟩ = some (.slice boh mh dph) := oldc hbw22 (by first | omega | (simp; omega) | (simp; done)) (by simp [go_sem])
  have ho_r := Ow.below ho_r hpw22
  have ho_g := Ow.below ho_g hpw22
  have ho_h := Ow.below ho_h hpw22
  clear hbw22 hpw22
  clear ho_h
  go_wp2_with fail
  refine (heldFamily_any _ _ _ (permX f g).1.length (permX f g).2.length 1 ho_g.rd (by omega) (by omega)).mono ?_
  rintro e w23 ⟨rfl, hbw23⟩
  have hpw23 : Below w22.heap.size w22 w23 := Below.after (by repeat' (first | (with_reducible exact Below.refl _ _) | (with_reducible assumption) | (with_reducible refine Below.alloc ?_ (by first | omega | (simp; omega) | simp) _) | (with_reducible refine Below.setCell ?_ (by first | omega | (simp; omega) | simp) _) | (with_reducible refine Below.drew ?_) | (with_reducible refine below_drewN ?_ _))) hbw23 (by first | omega | (simp only [World.size_alloc, World.size_setCell, World.size_drew] at *; omega) | (simp; omega) | simp)
  have sw23 := hpw23.size
  have hBw23 : Below w.heap.size w w23 := Below.trans hBw22 (Below.mono hpw23 hBw22.size)
  have q_a00 := oldc hpw23 l_a0 q_a00
  have q_a01 := oldc hpw23 l_a0 q_a01
  have q_r0 := oldc hpw23 l_r q_r0
  have q_r1 := oldc hpw23 l_r q_r1
  have q_x00 := oldc hpw23 l_x0 q_x00
  have q_x01 := oldc hpw23 l_x0 q_x01
  have q_g0 := oldc hpw23 l_g q_g0
  have q_g1 := oldc hpw23 l_g q_g1
  have q_h0 := oldc hpw23 l_h q_h0
  have q_h1 := oldc hpw23 l_h q_h1
  have l_a0 := Nat.lt_of_lt_of_le l_a0 sw23
  have l_g := Nat.lt_of_lt_of_le l_g sw23
  have l_h := Nat.lt_of_lt_of_le l_h sw23
  have l_r := Nat.lt_of_lt_of_le l_r sw23
  have l_x0 := Nat.lt_of_lt_of_le l_x0 sw23
  have ho_r := Ow.below ho_r hpw23
  have ho_g := Ow.below ho_g hpw23
  clear hbw23 hpw23
  go_wp2
  go_ret
  exact ⟨rfl, hBw23⟩
end Go.Proofs.Ytomigopkejlmcaa
