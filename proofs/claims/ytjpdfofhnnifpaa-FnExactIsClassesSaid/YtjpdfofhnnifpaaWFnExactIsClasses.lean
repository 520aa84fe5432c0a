/- The walk of the law FnExactIsClasses. -/
import Derived.Test.YtjpdfofhnnifpaaPerm3
namespace Go.Proofs.Ytjpdfofhnnifpaa
open Go.RowKit

theorem oldc {k b o : Nat} {w w' : World} (hb : Below k w w') (h : b < k) {v : Value} (hv : w.cell? ⟨b, o, none⟩ = some v) : w'.cell? ⟨b, o, none⟩ = some v := (hb.cell (p := ⟨b, o, none⟩) h).trans hv

set_option maxHeartbeats 4000000 in
theorem walk_FnExactIsClasses (w : World) (u v : Value) (c : Cls) (h : Rd false 0 w.heap.size w [u, v] c) :
    Calls Try.prog 3 #[.agg #[u, v]] w (PostB w true) := by
  by_cases hbig : (1048576 : Int) < c.1.length + c.2.length
  · go_enter Try.func3, Try.ntmps3
    go_wp2_with fail
    refine (szClasses_any _ _ _ _ (h.below (by go_grown)) _ (by omega) (by omega)).mono ?_
    rw [if_pos hbig]
    rintro e w1 ⟨rfl, hb1⟩
    have hB1 : Below w.heap.size w w1 := Below.after (by repeat' (first | (with_reducible exact Below.refl _ _) | (with_reducible assumption) | (with_reducible refine Below.alloc ?_ (by first | omega | (simp; omega) | simp) _) | (with_reducible refine Below.setCell ?_ (by first | omega | (simp; omega) | simp) _) | (with_reducible refine Below.drew ?_) | (with_reducible refine below_drewN ?_ _))) hb1 (by first | omega | (simp only [World.size_alloc, World.size_setCell, World.size_drew] at *; omega) | (simp; omega) | simp); have s1 := hb1.size; try simp only [World.size_alloc, World.size_setCell, World.size_drew] at s1
    go_wp2
    go_ret
    exact ⟨rfl, hB1⟩
  · obtain ⟨r, hr⟩ : ∃ r, r = isCls c := ⟨_, rfl⟩
    have HR := Lib.hid hr
    clear hr
    go_enter Try.func3, Try.ntmps3
    go_wp2_with fail
    refine (szClasses_any _ _ _ _ (h.below (by go_grown)) _ (by omega) (by omega)).mono ?_
    rw [if_neg (by omega)]
    rintro e w1 ⟨rfl, hb1⟩
    have hB1 : Below w.heap.size w w1 := Below.after (by repeat' (first | (with_reducible exact Below.refl _ _) | (with_reducible assumption) | (with_reducible refine Below.alloc ?_ (by first | omega | (simp; omega) | simp) _) | (with_reducible refine Below.setCell ?_ (by first | omega | (simp; omega) | simp) _) | (with_reducible refine Below.drew ?_) | (with_reducible refine below_drewN ?_ _))) hb1 (by first | omega | (simp only [World.size_alloc, World.size_setCell, World.size_drew] at *; omega) | (simp; omega) | simp); have s1 := hb1.size; try simp only [World.size_alloc, World.size_setCell, World.size_drew] at s1
    have q0 : w1.cell? ⟨w.heap.size, 0, none⟩ = some u := oldc hb1 (by simp) (by simp)
    have q1 : w1.cell? ⟨w.heap.size, 1, none⟩ = some v := oldc hb1 (by simp) (by simp)
    clear hb1
    go_wp2_with fail
    refine (toClasses_any _ _ _ c (h.below hB1) (by omega) (by omega)).mono ?_
    rintro e w2 ⟨a2, b2, rfl, ho2, hb2⟩
    have hB2 : Below w.heap.size w w2 := Below.after (by repeat' (first | (with_reducible exact Below.refl _ _) | (with_reducible assumption) | (with_reducible refine Below.alloc ?_ (by first | omega | (simp; omega) | simp) _) | (with_reducible refine Below.setCell ?_ (by first | omega | (simp; omega) | simp) _) | (with_reducible refine Below.drew ?_) | (with_reducible refine below_drewN ?_ _))) hb2 (by first | omega | (simp only [World.size_alloc, World.size_setCell, World.size_drew] at *; omega) | (simp; omega) | simp); have s2 := hb2.size; try simp only [World.size_alloc, World.size_setCell, World.size_drew] at s2
    have q0 := oldc hb2 (by omega) q0
    have q1 := oldc hb2 (by omega) q1
    clear hb2
    go_wp2_with fail
    refine (isClsS_b _ _ _ c ho2.rd (by omega) r HR.out).mono ?_
    rintro e w3 ⟨rfl, hb3⟩
    have hB3 : Below w.heap.size w w3 := Below.after (by repeat' (first | (with_reducible exact Below.refl _ _) | (with_reducible assumption) | (with_reducible refine Below.alloc ?_ (by first | omega | (simp; omega) | simp) _) | (with_reducible refine Below.setCell ?_ (by first | omega | (simp; omega) | simp) _) | (with_reducible refine Below.drew ?_) | (with_reducible refine below_drewN ?_ _))) hb3 (by first | omega | (simp only [World.size_alloc, World.size_setCell, World.size_drew] at *; omega) | (simp; omega) | simp); have s3 := hb3.size; try simp only [World.size_alloc, World.size_setCell, World.size_drew] at s3
    have q0 := oldc hb3 (by omega) q0
    have q1 := oldc hb3 (by omega) q1
    clear hb3
    go_wp2_with fail
    refine (toClasses_any _ _ _ c (h.below hB3) (by omega) (by omega)).mono ?_
    rintro e w4 ⟨a4, b4, rfl, ho4, hb4⟩
    have hB4 : Below w.heap.size w w4 := Below.after (by repeat' (first | (with_reducible exact Below.refl _ _) | (with_reducible assumption) | (with_reducible refine Below.alloc ?_ (by first | omega | (simp; omega) | simp) _) | (with_reducible refine Below.setCell ?_ (by first | omega | (simp; omega) | simp) _) | (with_reducible refine Below.drew ?_) | (with_reducible refine below_drewN ?_ _))) hb4 (by first | omega | (simp only [World.size_alloc, World.size_setCell, World.size_drew] at *; omega) | (simp; omega) | simp); have s4 := hb4.size; try simp only [World.size_alloc, World.size_setCell, World.size_drew] at s4
    have q0 := oldc hb4 (by omega) q0
    have q1 := oldc hb4 (by omega) q1
    clear hb4
    obtain ⟨p4, p4'⟩ := ho4.rd.two rfl
    obtain ⟨ao4, n4, cap4, rfl, -⟩ := p4.shape
    obtain ⟨bo4, m4, dap4, rfl, -⟩ := p4'.shape
    clear p4 p4'
    go_wp2_with fail
    refine (isClsI_b _ _ _ c (ho4.rd.below (by go_grown)) r HR.out).mono ?_
    rintro e w5 ⟨rfl, hb5⟩
    have hB5 : Below w.heap.size w w5 := Below.after (by repeat' (first | (with_reducible exact Below.refl _ _) | (with_reducible assumption) | (with_reducible refine Below.alloc ?_ (by first | omega | (simp; omega) | simp) _) | (with_reducible refine Below.setCell ?_ (by first | omega | (simp; omega) | simp) _) | (with_reducible refine Below.drew ?_) | (with_reducible refine below_drewN ?_ _))) hb5 (by first | omega | (simp only [World.size_alloc, World.size_setCell, World.size_drew] at *; omega) | (simp; omega) | simp); have s5 := hb5.size; try simp only [World.size_alloc, World.size_setCell, World.size_drew] at s5
    have l4 : w.heap.size < w4.heap.size := by omega
    have hp5 : Below w4.heap.size w4 w5 := Below.after (by repeat' (first | (with_reducible exact Below.refl _ _) | (with_reducible assumption) | (with_reducible refine Below.alloc ?_ (by first | omega | (simp; omega) | simp) _) | (with_reducible refine Below.setCell ?_ (by first | omega | (simp; omega) | simp) _) | (with_reducible refine Below.drew ?_) | (with_reducible refine below_drewN ?_ _))) hb5 (by first | omega | (simp only [World.size_alloc, World.size_setCell, World.size_drew] at *; omega) | (simp; omega) | simp)
    have q0 := oldc hp5 l4 q0
    have q1 := oldc hp5 l4 q1
    have q2 := oldc (b := w4.heap.size) (o := 0) hb5 (by simp) (by simp; rfl)
    have q3 := oldc (b := w4.heap.size) (o := 1) hb5 (by simp) (by simp; rfl)
    have ho5 := ho4.below hp5
    have l5a : w.heap.size < w5.heap.size := by omega
    have l5b : w4.heap.size < w5.heap.size := by omega
    have s5x : w.heap.size ≤ w5.drew.heap.size := by simp; omega
    clear hb5 ho4
    go_wp2_with fail
    go_region_held3 (fun w' => w'.cell? ⟨w.heap.size, 0, none⟩ = some u ∧ w'.cell? ⟨w.heap.size, 1, none⟩ = some v ∧ w'.cell? ⟨w4.heap.size, 0, none⟩ = some (.slice ao4 n4 cap4) ∧ w'.cell? ⟨w4.heap.size, 1, none⟩ = some (.slice bo4 m4 dap4)) (go_keep) (first | (go_at_call 17; refine (toClasses_any _ _ _ c (h.below (hB5.drew)) (by omega) (by omega)).mono ?_; rintro e w6 ⟨a6, b6, rfl, ho6, hb6⟩; have hB6 := Below.after hB5.drew hb6 s5x; have q0 := oldc hb6 (show w.heap.size < w5.heap.size from l5a) q0; have q1 := oldc hb6 (show w.heap.size < w5.heap.size from l5a) q1; have q2 := oldc hb6 (show w4.heap.size < w5.heap.size from l5b) q2; have q3 := oldc hb6 (show w4.heap.size < w5.heap.size from l5b) q3; have ho5 := Ow.below ho5 ((Below.refl _ _).drew.trans hb6); have s6 := hb6.size; have s6a : w.heap.size < w6.heap.size := Nat.lt_of_lt_of_le l5a s6; have s6b : w4.heap.size < w6.heap.size := Nat.lt_of_lt_of_le l5b s6; clear hb6) | (go_at_call 19; refine (eqClasses_b _ _ _ _ _ c c ho5.rd ho6.rd true (by simp)).mono ?_; rintro e w7 ⟨rfl, hb7⟩; have hB7 := Below.after hB6 hb7 hB6.size; have q0 := oldc hb7 s6a q0; have q1 := oldc hb7 s6a q1; have q2 := oldc hb7 s6b q2; have q3 := oldc hb7 s6b q3))
    go_wp2
    go_ret
    exact ⟨rfl, by assumption⟩
end Go.Proofs.Ytjpdfofhnnifpaa
