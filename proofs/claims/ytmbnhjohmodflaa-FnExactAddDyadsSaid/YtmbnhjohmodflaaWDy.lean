/- The walks of the laws FnExactDyadOf and FnExactAddDyads. -/
import Derived.Test.YtmbnhjohmodflaaDy3
namespace Go.Proofs.Ytmbnhjohmodflaa
open Go.RowKit

set_option maxHeartbeats 1000000 in
theorem walk_FnExactDyadOf (w : World) (n : Int) (_bn : I64 n) (e : Int) (_be : I64 e) :
    Calls Try.prog 4 #[.int .i64 n, .int .i64 e] w (PostB w true) := by
  go_enter Try.func4, Try.ntmps4
  go_wp2_with fail
  refine (dyadOfS_any _ _ _).mono ?_
  rintro e1 w1 ⟨rfl, hb1⟩
  go_wp2_with fail
  refine (dyadOfI_any _ _ _).mono ?_
  rintro e2 w2 ⟨rfl, hb2⟩
  have hp2 : Below w1.heap.size w1 w2 := Below.after (by repeat' (first | (with_reducible exact Below.refl _ _) | (with_reducible assumption) | (with_reducible refine Below.alloc ?_ (by first | omega | (simp; omega) | simp) _) | (with_reducible refine Below.setCell ?_ (by first | omega | (simp; omega) | simp) _) | (with_reducible refine Below.drew ?_) | (with_reducible refine below_drewN ?_ _))) hb2 (by first | omega | (simp only [World.size_alloc, World.size_setCell, World.size_drew] at *; omega) | (simp; omega) | simp)
  have hB2 : Below w.heap.size w w2 := Below.trans hb1 (hp2.mono hb1.size)
  have q0 : w2.cell? ⟨w1.heap.size, 0, none⟩ = some (.int .i64 (dofD n e).1) := oldc hb2 (by first | omega | (simp; omega) | (simp; done)) (by simp [go_sem])
  have q1 : w2.cell? ⟨w1.heap.size, 1, none⟩ = some (.int .i64 (dofD n e).2) := oldc hb2 (by first | omega | (simp; omega) | (simp; done)) (by simp [go_sem])
  have l1 : w1.heap.size < w2.heap.size := by have := hb2.size; simp at this; omega
  have s2 := hB2.size
  clear hb2 hp2
  go_wp2_with fail
  refine (eqDyad_same _ _ _).mono ?_
  rintro e3 w3 ⟨rfl, hb3⟩
  have hB3 : Below w.heap.size w w3 := Below.after (by repeat' (first | (with_reducible exact Below.refl _ _) | (with_reducible assumption) | (with_reducible refine Below.alloc ?_ (by first | omega | (simp; omega) | simp) _) | (with_reducible refine Below.setCell ?_ (by first | omega | (simp; omega) | simp) _) | (with_reducible refine Below.drew ?_) | (with_reducible refine below_drewN ?_ _))) hb3 (by first | omega | (simp only [World.size_alloc, World.size_setCell, World.size_drew] at *; omega) | (simp; omega) | simp)
  have hbb : ((dofV n e) != (dofV n e)) = false := by simp
  go_wp2
  go_ret
  exact ⟨rfl, hB3⟩

set_option maxHeartbeats 1000000 in
theorem walk_FnExactAddDyads (w : World) (c0 c1 : Value) (x : Int × Int) (h : Rd false 0 w.heap.size w [c0, c1] x) (d0 d1 : Value) (y : Int × Int) (h' : Rd false 0 w.heap.size w [d0, d1] y) :
    Calls Try.prog 6 #[.agg #[c0, c1], .agg #[d0, d1]] w (PostB w true) := by
  obtain ⟨an, ae⟩ := x
  obtain ⟨bn, be⟩ := y
  obtain ⟨rfl, rfl⟩ : c0 = .int .i64 an ∧ c1 = .int .i64 ae := by
    obtain ⟨fp, ⟨k1, k2, f1, f2, e, _, ⟨rfl, _, _⟩, ⟨rfl, _, _⟩⟩, _⟩ := h
    simp at e; exact e
  obtain ⟨rfl, rfl⟩ : d0 = .int .i64 bn ∧ d1 = .int .i64 be := by
    obtain ⟨fp, ⟨k1, k2, f1, f2, e, _, ⟨rfl, _, _⟩, ⟨rfl, _, _⟩⟩, _⟩ := h'
    simp at e; exact e
  clear h h'
  have v1 : ¬ w.heap.size = w.heap.size + 1 + 1 := by omega
  have v2 : ¬ w.heap.size + 1 + 1 = w.heap.size := by omega
  have u1 : w.heap.size < w.heap.size + 1 + 1 := by omega
  have u2 : w.heap.size < w.heap.size + 1 + 1 + 1 := by omega
  have u3 : w.heap.size + 1 < w.heap.size + 1 + 1 + 1 := by omega
  go_enter Try.func6, Try.ntmps6
  go_upto_region 1 with fail
  go_cut [5, 6] (fun s5 s6 wx => ∃ g : Nat, s5 = .pointer (some ⟨g, 0, none⟩) ∧ s6 = .bool (addV an ae bn be) ∧ wx.cell? ⟨g, 0, none⟩ = some (.int .i64 (addD an ae bn be).1) ∧ wx.cell? ⟨g, 1, none⟩ = some (.int .i64 (addD an ae bn be).2) ∧ g < wx.heap.size ∧ wx.cell? ⟨w.heap.size, 0, none⟩ = some (.int .i64 an) ∧ wx.cell? ⟨w.heap.size, 1, none⟩ = some (.int .i64 ae) ∧ wx.cell? ⟨w.heap.size + 1, 0, none⟩ = some (.int .i64 bn) ∧ wx.cell? ⟨w.heap.size + 1, 1, none⟩ = some (.int .i64 be) ∧ w.heap.size + 1 < wx.heap.size ∧ Below w.heap.size w wx)
  case first =>
    go_region_held3 (fun w' => w'.cell? ⟨w.heap.size, 0, none⟩ = some (.int .i64 an) ∧ w'.cell? ⟨w.heap.size, 1, none⟩ = some (.int .i64 ae) ∧ w'.cell? ⟨w.heap.size + 1, 0, none⟩ = some (.int .i64 bn) ∧ w'.cell? ⟨w.heap.size + 1, 1, none⟩ = some (.int .i64 be)) (go_keep) (first
      | (go_at_call_of 19 (Value.int IntKind.i64 an); refine (toDyad_any _ _ _).mono ?_; rintro e1 w1 ⟨rfl, hb1⟩; have hB1 : Below w.heap.size w w1 := Below.after (by repeat' (first | (with_reducible exact Below.refl _ _) | (with_reducible assumption) | (with_reducible refine Below.alloc ?_ (by first | omega | (simp; omega) | simp) _) | (with_reducible refine Below.setCell ?_ (by first | omega | (simp; omega) | simp) _) | (with_reducible refine Below.drew ?_) | (with_reducible refine below_drewN ?_ _))) hb1 (by first | omega | (simp only [World.size_alloc, World.size_setCell, World.size_drew] at *; omega) | (simp; omega) | simp); have s1 := hb1.size; obtain ⟨hc1, hf1⟩ := bcell hb1; (try simp only [World.size_alloc, World.size_drew] at s1 hc1 hf1); have l1x0 : w.heap.size < w1.heap.size := (by omega); have m1x0 : w.heap.size < w1.heap.size + 1 := (by omega); have n1x0 : ¬ w.heap.size = w1.heap.size := (by omega); have o1x0 : ¬ w1.heap.size = w.heap.size := (by omega); have l1x1 : w.heap.size + 1 < w1.heap.size := (by omega); have m1x1 : w.heap.size + 1 < w1.heap.size + 1 := (by omega); have n1x1 : ¬ w.heap.size + 1 = w1.heap.size := (by omega); have o1x1 : ¬ w1.heap.size = w.heap.size + 1 := (by omega); (first | (have g1x0 : w.heap.size + 1 + 1 < w1.heap.size := (by omega)) | skip))
      | (go_at_call_of 19 (Value.int IntKind.i64 bn); refine (toDyad_any _ _ _).mono ?_; rintro e2 w2 ⟨rfl, hb2⟩; have hB2 : Below w.heap.size w w2 := Below.after (by repeat' (first | (with_reducible exact Below.refl _ _) | (with_reducible assumption) | (with_reducible refine Below.alloc ?_ (by first | omega | (simp; omega) | simp) _) | (with_reducible refine Below.setCell ?_ (by first | omega | (simp; omega) | simp) _) | (with_reducible refine Below.drew ?_) | (with_reducible refine below_drewN ?_ _))) hb2 (by first | omega | (simp only [World.size_alloc, World.size_setCell, World.size_drew] at *; omega) | (simp; omega) | simp); have s2 := hb2.size; obtain ⟨hc2, hf2⟩ := bcell hb2; (try simp only [World.size_alloc, World.size_drew] at s2 hc2 hf2); have l2x0 : w.heap.size < w2.heap.size := (by omega); have m2x0 : w.heap.size < w2.heap.size + 1 := (by omega); have n2x0 : ¬ w.heap.size = w2.heap.size := (by omega); have o2x0 : ¬ w2.heap.size = w.heap.size := (by omega); have l2x1 : w.heap.size + 1 < w2.heap.size := (by omega); have m2x1 : w.heap.size + 1 < w2.heap.size + 1 := (by omega); have n2x1 : ¬ w.heap.size + 1 = w2.heap.size := (by omega); have o2x1 : ¬ w2.heap.size = w.heap.size + 1 := (by omega); (first | (have g2x0 : w.heap.size + 1 + 1 < w2.heap.size := (by omega)) | skip); (first | (have g2x1 : w1.heap.size < w2.heap.size := (by omega)) | skip))
      | (go_at_call 18; refine (addS_any _ _ _ _ _).mono ?_; rintro e3 w3 ⟨rfl, hb3⟩; have hB3 : Below w.heap.size w w3 := Below.after (by repeat' (first | (with_reducible exact Below.refl _ _) | (with_reducible assumption) | (with_reducible refine Below.alloc ?_ (by first | omega | (simp; omega) | simp) _) | (with_reducible refine Below.setCell ?_ (by first | omega | (simp; omega) | simp) _) | (with_reducible refine Below.drew ?_) | (with_reducible refine below_drewN ?_ _))) hb3 (by first | omega | (simp only [World.size_alloc, World.size_setCell, World.size_drew] at *; omega) | (simp; omega) | simp); have s3 := hb3.size; obtain ⟨hc3, hf3⟩ := bcell hb3; (try simp only [World.size_alloc, World.size_drew] at s3 hc3 hf3); have l3x0 : w.heap.size < w3.heap.size := (by omega); have m3x0 : w.heap.size < w3.heap.size + 1 := (by omega); have n3x0 : ¬ w.heap.size = w3.heap.size := (by omega); have o3x0 : ¬ w3.heap.size = w.heap.size := (by omega); have l3x1 : w.heap.size + 1 < w3.heap.size := (by omega); have m3x1 : w.heap.size + 1 < w3.heap.size + 1 := (by omega); have n3x1 : ¬ w.heap.size + 1 = w3.heap.size := (by omega); have o3x1 : ¬ w3.heap.size = w.heap.size + 1 := (by omega); (first | (have g3x0 : w.heap.size + 1 + 1 < w3.heap.size := (by omega)) | skip); (first | (have g3x1 : w1.heap.size < w3.heap.size := (by omega)) | skip); (first | (have g3x2 : w2.heap.size < w3.heap.size := (by omega)) | skip)))
    all_goals
      go_wp2_with fail
      go_meet
    all_goals exact ⟨_, rfl, rfl, by simp [go_sem, *], by simp [go_sem, *], by simp <;> omega, by simp [go_sem, *], by simp [go_sem, *], by simp [go_sem, *], by simp [go_sem, *], by simp <;> omega, (by repeat' (first | (with_reducible exact Below.refl _ _) | (with_reducible assumption) | (with_reducible refine Below.alloc ?_ (by first | omega | (simp; omega) | simp) _) | (with_reducible refine Below.setCell ?_ (by first | omega | (simp; omega) | simp) _) | (with_reducible refine Below.drew ?_) | (with_reducible refine below_drewN ?_ _)))⟩
  case rest =>
    obtain ⟨g, rfl, rfl, q0, q1, hg, a0, a1, b0, b1, hsz, hBx⟩ := hcut
    have hsz0 : w.heap.size < wc.heap.size := by omega
    have hszz : w.heap.size ≤ wc.heap.size := by omega
    clear u1 u2 u3 v1 v2
    have y0 : w.heap.size < wc.heap.size + 1 := by omega
    have y1 : w.heap.size + 1 < wc.heap.size + 1 := by omega
    have y2 : g < wc.heap.size + 1 := by omega
    have x0 : ¬ w.heap.size = wc.heap.size := by omega
    have x1 : ¬ wc.heap.size = w.heap.size := by omega
    have x2 : ¬ w.heap.size + 1 = wc.heap.size := by omega
    have x3 : ¬ wc.heap.size = w.heap.size + 1 := by omega
    have x4 : ¬ g = wc.heap.size := by omega
    have x5 : ¬ wc.heap.size = g := by omega
    obtain ⟨wo, hwo⟩ : ∃ wo : World, wo = wc := ⟨_, rfl⟩
    subst hwo
    go_upto_region 2 with fail
    go_cut [7, 8] (fun s7 s8 wx => ∃ g' : Nat, s7 = .pointer (some ⟨g', 0, none⟩) ∧ s8 = .bool (addV an ae bn be) ∧ wx.cell? ⟨g', 0, none⟩ = some (.int .i64 (addD an ae bn be).1) ∧ wx.cell? ⟨g', 1, none⟩ = some (.int .i64 (addD an ae bn be).2) ∧ g' < wx.heap.size ∧ wx.cell? ⟨w.heap.size, 0, none⟩ = some (.int .i64 an) ∧ wx.cell? ⟨w.heap.size, 1, none⟩ = some (.int .i64 ae) ∧ wx.cell? ⟨w.heap.size + 1, 0, none⟩ = some (.int .i64 bn) ∧ wx.cell? ⟨w.heap.size + 1, 1, none⟩ = some (.int .i64 be) ∧ wx.cell? ⟨g, 0, none⟩ = some (.int .i64 (addD an ae bn be).1) ∧ wx.cell? ⟨g, 1, none⟩ = some (.int .i64 (addD an ae bn be).2) ∧ w.heap.size + 1 < wx.heap.size ∧ Below w.heap.size w wx)
    case first =>
      go_region_held3 (fun w' => w'.cell? ⟨w.heap.size, 0, none⟩ = some (.int .i64 an) ∧ w'.cell? ⟨w.heap.size, 1, none⟩ = some (.int .i64 ae) ∧ w'.cell? ⟨w.heap.size + 1, 0, none⟩ = some (.int .i64 bn) ∧ w'.cell? ⟨w.heap.size + 1, 1, none⟩ = some (.int .i64 be) ∧ w'.cell? ⟨g, 0, none⟩ = some (.int .i64 (addD an ae bn be).1) ∧ w'.cell? ⟨g, 1, none⟩ = some (.int .i64 (addD an ae bn be).2)) (go_keep) (first
        | (go_at_call_of 19 (Value.int IntKind.i64 an); refine (toDyad_any _ _ _).mono ?_; rintro e4 w4 ⟨rfl, hb4⟩; have hB4 : Below w.heap.size w w4 := Below.after (by repeat' (first | (with_reducible exact Below.refl _ _) | (with_reducible assumption) | (with_reducible refine Below.alloc ?_ (by first | omega | (simp; omega) | simp) _) | (with_reducible refine Below.setCell ?_ (by first | omega | (simp; omega) | simp) _) | (with_reducible refine Below.drew ?_) | (with_reducible refine below_drewN ?_ _))) hb4 (by first | omega | (simp only [World.size_alloc, World.size_setCell, World.size_drew] at *; omega) | (simp; omega) | simp); have s4 := hb4.size; obtain ⟨hc4, hf4⟩ := bcell hb4; (try simp only [World.size_alloc, World.size_drew] at s4 hc4 hf4); have l4x0 : w.heap.size < w4.heap.size := (by omega); have m4x0 : w.heap.size < w4.heap.size + 1 := (by omega); have n4x0 : ¬ w.heap.size = w4.heap.size := (by omega); have o4x0 : ¬ w4.heap.size = w.heap.size := (by omega); have l4x1 : w.heap.size + 1 < w4.heap.size := (by omega); have m4x1 : w.heap.size + 1 < w4.heap.size + 1 := (by omega); have n4x1 : ¬ w.heap.size + 1 = w4.heap.size := (by omega); have o4x1 : ¬ w4.heap.size = w.heap.size + 1 := (by omega); have l4x2 : g < w4.heap.size := (by omega); have m4x2 : g < w4.heap.size + 1 := (by omega); have n4x2 : ¬ g = w4.heap.size := (by omega); have o4x2 : ¬ w4.heap.size = g := (by omega); (first | (have g4x0 : wo.heap.size < w4.heap.size := (by omega)) | skip))
        | (go_at_call_of 19 (Value.int IntKind.i64 bn); refine (toDyad_any _ _ _).mono ?_; rintro e5 w5 ⟨rfl, hb5⟩; have hB5 : Below w.heap.size w w5 := Below.after (by repeat' (first | (with_reducible exact Below.refl _ _) | (with_reducible assumption) | (with_reducible refine Below.alloc ?_ (by first | omega | (simp; omega) | simp) _) | (with_reducible refine Below.setCell ?_ (by first | omega | (simp; omega) | simp) _) | (with_reducible refine Below.drew ?_) | (with_reducible refine below_drewN ?_ _))) hb5 (by first | omega | (simp only [World.size_alloc, World.size_setCell, World.size_drew] at *; omega) | (simp; omega) | simp); have s5 := hb5.size; obtain ⟨hc5, hf5⟩ := bcell hb5; (try simp only [World.size_alloc, World.size_drew] at s5 hc5 hf5); have l5x0 : w.heap.size < w5.heap.size := (by omega); have m5x0 : w.heap.size < w5.heap.size + 1 := (by omega); have n5x0 : ¬ w.heap.size = w5.heap.size := (by omega); have o5x0 : ¬ w5.heap.size = w.heap.size := (by omega); have l5x1 : w.heap.size + 1 < w5.heap.size := (by omega); have m5x1 : w.heap.size + 1 < w5.heap.size + 1 := (by omega); have n5x1 : ¬ w.heap.size + 1 = w5.heap.size := (by omega); have o5x1 : ¬ w5.heap.size = w.heap.size + 1 := (by omega); have l5x2 : g < w5.heap.size := (by omega); have m5x2 : g < w5.heap.size + 1 := (by omega); have n5x2 : ¬ g = w5.heap.size := (by omega); have o5x2 : ¬ w5.heap.size = g := (by omega); (first | (have g5x0 : wo.heap.size < w5.heap.size := (by omega)) | skip); (first | (have g5x1 : w4.heap.size < w5.heap.size := (by omega)) | skip))
        | (go_at_call 11; refine (addI_any _ _ _ _ _).mono ?_; rintro e6 w6 ⟨rfl, hb6⟩; have hB6 : Below w.heap.size w w6 := Below.after (by repeat' (first | (with_reducible exact Below.refl _ _) | (with_reducible assumption) | (with_reducible refine Below.alloc ?_ (by first | omega | (simp; omega) | simp) _) | (with_reducible refine Below.setCell ?_ (by first | omega | (simp; omega) | simp) _) | (with_reducible refine Below.drew ?_) | (with_reducible refine below_drewN ?_ _))) hb6 (by first | omega | (simp only [World.size_alloc, World.size_setCell, World.size_drew] at *; omega) | (simp; omega) | simp); have s6 := hb6.size; obtain ⟨hc6, hf6⟩ := bcell hb6; (try simp only [World.size_alloc, World.size_drew] at s6 hc6 hf6); have l6x0 : w.heap.size < w6.heap.size := (by omega); have m6x0 : w.heap.size < w6.heap.size + 1 := (by omega); have n6x0 : ¬ w.heap.size = w6.heap.size := (by omega); have o6x0 : ¬ w6.heap.size = w.heap.size := (by omega); have l6x1 : w.heap.size + 1 < w6.heap.size := (by omega); have m6x1 : w.heap.size + 1 < w6.heap.size + 1 := (by omega); have n6x1 : ¬ w.heap.size + 1 = w6.heap.size := (by omega); have o6x1 : ¬ w6.heap.size = w.heap.size + 1 := (by omega); have l6x2 : g < w6.heap.size := (by omega); have m6x2 : g < w6.heap.size + 1 := (by omega); have n6x2 : ¬ g = w6.heap.size := (by omega); have o6x2 : ¬ w6.heap.size = g := (by omega); (first | (have g6x0 : wo.heap.size < w6.heap.size := (by omega)) | skip); (first | (have g6x1 : w4.heap.size < w6.heap.size := (by omega)) | skip); (first | (have g6x2 : w5.heap.size < w6.heap.size := (by omega)) | skip)))
      all_goals
        go_wp2_with fail
        go_meet
      all_goals exact ⟨_, rfl, rfl, by simp [go_sem, *], by simp [go_sem, *], by simp <;> omega, by simp [go_sem, *], by simp [go_sem, *], by simp [go_sem, *], by simp [go_sem, *], by simp [go_sem, *], by simp [go_sem, *], by simp <;> omega, (by repeat' (first | (with_reducible exact Below.refl _ _) | (with_reducible assumption) | (with_reducible refine Below.alloc ?_ (by first | omega | (simp; omega) | simp) _) | (with_reducible refine Below.setCell ?_ (by first | omega | (simp; omega) | simp) _) | (with_reducible refine Below.drew ?_) | (with_reducible refine below_drewN ?_ _)))⟩
    case rest =>
      obtain ⟨g', rfl, rfl, p0, p1, hg', _, _, _, _, q0, q1, hsz2, hBy⟩ := hcut
      have hsz3 : w.heap.size ≤ wc.heap.size := by omega
      have hbb : ((addV an ae bn be) != (addV an ae bn be)) = false := by simp
      go_wp2_with fail
      refine (eqDyad_same _ _ _).mono ?_
      rintro e7 w7 ⟨rfl, hb7⟩
      have hB7 : Below w.heap.size w w7 := Below.after (by repeat' (first | (with_reducible exact Below.refl _ _) | (with_reducible assumption) | (with_reducible refine Below.alloc ?_ (by first | omega | (simp; omega) | simp) _) | (with_reducible refine Below.setCell ?_ (by first | omega | (simp; omega) | simp) _) | (with_reducible refine Below.drew ?_) | (with_reducible refine below_drewN ?_ _))) hb7 (by first | omega | (simp only [World.size_alloc, World.size_setCell, World.size_drew] at *; omega) | (simp; omega) | simp)
      go_wp2
      go_ret
      exact ⟨rfl, hB7⟩
end Go.Proofs.Ytmbnhjohmodflaa
