/- Contract of l1Depths. -/
import Derived.Test.YtiingmngeiakgaaName
import Derived.Test.YtiingmngeiakgaaTyPerson
import Derived.Test.YtiingmngeiakgaaGrow3
namespace Go.Proofs.Ytiingmngeiakgaa
set_option linter.unusedVariables false
set_option linter.unusedSimpArgs false
open Go.RowKit

set_option maxRecDepth 20000 in
set_option maxHeartbeats 4000000 in
theorem depS_any {z : Bool} {lo hi : Nat} (w : World) (v v2 : Value) (ps : List Per) (h : Rd z lo hi w [v] ps) (hP : PplTo ps ps.length) (hl : ps.length ≤ 40) :
    Calls Try.prog 52 #[.agg #[v, v2]] w (PostOw w (deps ps)) := by
  obtain ⟨ao, n, cap, rfl, rfl, hnc, hcm, hnone⟩ := h.shape
  unfold maxLen at *
  go_enter Try.func52, Try.ntmps52
  go_wp2
  go_loopw [3, 5, 6, 11] (fun s3 _ _ s11 wr => ∃ k : Nat, k ≤ ps.length ∧ s11 = .int .i64 k ∧ GL true (w.heap.size + 1) (w.heap.size + 1) wr.heap.size wr 3 s3 (deps (ps.take k)) ∧ Below (w.heap.size + 1) (w.alloc (.cells #[.slice ao ps.length cap, v2] 32)) wr) (fun _ _ _ s11 _ => ps.length - (intOf s11).toNat)
  case atStart => exact ⟨0, Nat.zero_le _, rfl, (by have h := (GL.lit0 (α := Int) true (w.heap.size + 1) (w.heap.size + 1) (w.alloc (.cells #[.slice ao ps.length cap, v2] 32)) 3 (by simp)).top; simpa [deps] using h), bwT⟩
  case round =>
    rename_i wr
    obtain ⟨k, hk, rfl, hG, hb⟩ := hrel
    have sW := hb.size
    simp only [World.size_alloc] at sW
    have hbw : Below w.heap.size w wr := Below.trans ((Below.refl _ _).alloc (Nat.le_refl _) _) (hb.mono (by omega))
    by_cases hlt : k < ps.length
    · have hI : (k : Int) < (ps.length : Int) := by omega
      obtain ⟨b, off, nm, sx, fa, mo, bo, di, rfl, hx, p0, p1, p2, p3, p4, p5, g0, g1, g2, g3, g4, g5, -, -, hbl, -⟩ := (h.below hbw).per_at hlt
      obtain ⟨-, -, -, ffa, fmo, -⟩ := hP.at hlt hx.out
      have hbd := deps_bd ps k hk
      have hdl : (deps (ps.take k)).length = k := by rw [deps_len]; simp; omega
      have HD := Lib.hid (show deps (ps.take (k + 1)) = deps (ps.take k) ++ [depOf (deps (ps.take k)) fa mo] by rw [take_snoc hx.out, deps_snoc])
      obtain ⟨D, hD⟩ : ∃ D, D = deps (ps.take k) := ⟨_, rfl⟩
      rw [← hD] at hG hbd hdl HD
      clear hD hx hP
      rcases ffa with rfl | ffa
      · have ef : dep1 D (-1) = 0 := rfl
        rcases fmo with rfl | fmo
        · have em : dep1 D (-1) = 0 := rfl
          have HE := Lib.hid (show depOf D (-1) (-1) = (0 : Int) by unfold depOf; rw [ef]; (try rw [em]); omega)
          have hE0 : 0 ≤ (0 : Int) ∧ (0 : Int) ≤ 100 := by omega
          go_wp2_with (at_builtin; refine wpList_push rfl rfl slInt (by show (0 : Nat) < 1; omega) (hG.below bwT) rfl (ad := ⟨wr.heap.size + 1, 0, none⟩) rfl (cs := [.int .i64 ((0 : Int))]) (y := (0 : Int)) (lx := wr.heap.size) (hx' := wr.heap.size) (by intro j c hj; match j, hj with | 0, hj => simp at hj; subst hj; simp [Addr.add, go_sem]) (It.flat (z := true) (w0 := wr) (fp := []) ⟨rfl, ⟨by omega, by omega⟩, rfl⟩) (by omega) (.inl (Nat.le_refl _)) (by unfold maxLen; omega) (by omega) (by simp; omega) ?_)
          intro v' w1 hG1 _ hb1
          rw [← HE.out, ← HD.out] at hG1
          have HG := Lib.hid hG1
          have hB1 : Below (w.heap.size + 1) (w.alloc (.cells #[.slice (some ⟨b, off, none⟩) ps.length cap, v2] 32)) w1 := Below.trans bwT hb1
          clear hG hG1 hb1 h HD HE
          go_wp2
          go_roundw
          case rel => exact ⟨k + 1, by omega, by go_num, HG.out, hB1⟩
          case measure => simp [intOf]; omega
        obtain ⟨my, rfl⟩ := Int.eq_ofNat_of_zero_le fmo.1
        obtain ⟨g, cpg, y, rfl, hy, hcy, hiy, -, -, gzy, -⟩ := hG.int_at (i := my) (by omega)
        have hby := hbd y (List.mem_of_getElem? hy.out)
        have em : dep1 D ((my : Nat) : Int) = y + 1 := by
          rw [dep1, if_pos (by omega), Int.toNat_natCast, List.getD_eq_getElem?_getD, hy.out]; rfl
        have ly : ((my : Nat) : Int) < (D.length : Int) := by omega
        have ky : (0 : Int) ≤ ((my : Nat) : Int) := by omega
        have gny : ¬ g = wr.heap.size := by omega
        have gmy : ¬ wr.heap.size = g := by omega
        have wy : wrap64 (y + 1) = y + 1 := IntWalk.wrap64_in _ (by omega)
        clear hy
        have c0 : (0 : Int) < y + 1 := by omega
        have HE := Lib.hid (show depOf D (-1) ((my : Nat) : Int) = (y + 1) by unfold depOf; rw [ef]; (try rw [em]); omega)
        have hE0 : 0 ≤ (y + 1) ∧ (y + 1) ≤ 100 := by omega
        go_wp2_with (at_builtin; refine wpList_push rfl rfl slInt (by show (0 : Nat) < 1; omega) (hG.below bwT) rfl (ad := ⟨wr.heap.size + 1, 0, none⟩) rfl (cs := [.int .i64 ((y + 1))]) (y := (y + 1)) (lx := wr.heap.size) (hx' := wr.heap.size) (by intro j c hj; match j, hj with | 0, hj => simp at hj; subst hj; simp [Addr.add, go_sem]) (It.flat (z := true) (w0 := wr) (fp := []) ⟨rfl, ⟨by omega, by omega⟩, rfl⟩) (by omega) (.inl (Nat.le_refl _)) (by unfold maxLen; omega) (by omega) (by simp; omega) ?_)
        intro v' w1 hG1 _ hb1
        rw [← HE.out, ← HD.out] at hG1
        have HG := Lib.hid hG1
        have hB1 : Below (w.heap.size + 1) (w.alloc (.cells #[.slice (some ⟨b, off, none⟩) ps.length cap, v2] 32)) w1 := Below.trans bwT hb1
        clear hG hG1 hb1 h HD HE
        go_wp2
        go_roundw
        case rel => exact ⟨k + 1, by omega, by go_num, HG.out, hB1⟩
        case measure => simp [intOf]; omega
      obtain ⟨mx, rfl⟩ := Int.eq_ofNat_of_zero_le ffa.1
      obtain ⟨g, cpg, x, rfl, hx, hcx, hix, -, -, gzx, -⟩ := hG.int_at (i := mx) (by omega)
      have hbx := hbd x (List.mem_of_getElem? hx.out)
      have ef : dep1 D ((mx : Nat) : Int) = x + 1 := by
        rw [dep1, if_pos (by omega), Int.toNat_natCast, List.getD_eq_getElem?_getD, hx.out]; rfl
      have lx : ((mx : Nat) : Int) < (D.length : Int) := by omega
      have kx : (0 : Int) ≤ ((mx : Nat) : Int) := by omega
      have gnx : ¬ g = wr.heap.size := by omega
      have gmx : ¬ wr.heap.size = g := by omega
      have wx : wrap64 (x + 1) = x + 1 := IntWalk.wrap64_in _ (by omega)
      clear hx
      rcases fmo with rfl | fmo
      · have em : dep1 D (-1) = 0 := rfl
        have HE := Lib.hid (show depOf D ((mx : Nat) : Int) (-1) = (x + 1) by unfold depOf; rw [ef]; (try rw [em]); omega)
        have hE0 : 0 ≤ (x + 1) ∧ (x + 1) ≤ 100 := by omega
        go_wp2_with (at_builtin; refine wpList_push rfl rfl slInt (by show (0 : Nat) < 1; omega) (hG.below bwT) rfl (ad := ⟨wr.heap.size + 1, 0, none⟩) rfl (cs := [.int .i64 ((x + 1))]) (y := (x + 1)) (lx := wr.heap.size) (hx' := wr.heap.size) (by intro j c hj; match j, hj with | 0, hj => simp at hj; subst hj; simp [Addr.add, go_sem]) (It.flat (z := true) (w0 := wr) (fp := []) ⟨rfl, ⟨by omega, by omega⟩, rfl⟩) (by omega) (.inl (Nat.le_refl _)) (by unfold maxLen; omega) (by omega) (by simp; omega) ?_)
        intro v' w1 hG1 _ hb1
        rw [← HE.out, ← HD.out] at hG1
        have HG := Lib.hid hG1
        have hB1 : Below (w.heap.size + 1) (w.alloc (.cells #[.slice (some ⟨b, off, none⟩) ps.length cap, v2] 32)) w1 := Below.trans bwT hb1
        clear hG hG1 hb1 h HD HE
        go_wp2
        go_roundw
        case rel => exact ⟨k + 1, by omega, by go_num, HG.out, hB1⟩
        case measure => simp [intOf]; omega
      obtain ⟨my, rfl⟩ := Int.eq_ofNat_of_zero_le fmo.1
      obtain ⟨_, _, y, ee, hy, hcy, hiy, -, -, gzy, -⟩ := hG.int_at (i := my) (by omega)
      simp only [Value.slice.injEq, Option.some.injEq, Addr.mk.injEq, and_true, true_and] at ee
      obtain ⟨rfl, rfl⟩ := ee
      have hby := hbd y (List.mem_of_getElem? hy.out)
      have em : dep1 D ((my : Nat) : Int) = y + 1 := by
        rw [dep1, if_pos (by omega), Int.toNat_natCast, List.getD_eq_getElem?_getD, hy.out]; rfl
      have ly : ((my : Nat) : Int) < (D.length : Int) := by omega
      have ky : (0 : Int) ≤ ((my : Nat) : Int) := by omega
      have gny : ¬ g = wr.heap.size := by omega
      have gmy : ¬ wr.heap.size = g := by omega
      have wy : wrap64 (y + 1) = y + 1 := IntWalk.wrap64_in _ (by omega)
      clear hy
      by_cases c0 : x + 1 < y + 1
      · have HE := Lib.hid (show depOf D ((mx : Nat) : Int) ((my : Nat) : Int) = (y + 1) by unfold depOf; rw [ef]; (try rw [em]); omega)
        have hE0 : 0 ≤ (y + 1) ∧ (y + 1) ≤ 100 := by omega
        go_wp2_with (at_builtin; refine wpList_push rfl rfl slInt (by show (0 : Nat) < 1; omega) (hG.below bwT) rfl (ad := ⟨wr.heap.size + 1, 0, none⟩) rfl (cs := [.int .i64 ((y + 1))]) (y := (y + 1)) (lx := wr.heap.size) (hx' := wr.heap.size) (by intro j c hj; match j, hj with | 0, hj => simp at hj; subst hj; simp [Addr.add, go_sem]) (It.flat (z := true) (w0 := wr) (fp := []) ⟨rfl, ⟨by omega, by omega⟩, rfl⟩) (by omega) (.inl (Nat.le_refl _)) (by unfold maxLen; omega) (by omega) (by simp; omega) ?_)
        intro v' w1 hG1 _ hb1
        rw [← HE.out, ← HD.out] at hG1
        have HG := Lib.hid hG1
        have hB1 : Below (w.heap.size + 1) (w.alloc (.cells #[.slice (some ⟨b, off, none⟩) ps.length cap, v2] 32)) w1 := Below.trans bwT hb1
        clear hG hG1 hb1 h HD HE
        go_wp2
        go_roundw
        case rel => exact ⟨k + 1, by omega, by go_num, HG.out, hB1⟩
        case measure => simp [intOf]; omega
      have HE := Lib.hid (show depOf D ((mx : Nat) : Int) ((my : Nat) : Int) = (x + 1) by unfold depOf; rw [ef]; (try rw [em]); omega)
      have hE0 : 0 ≤ (x + 1) ∧ (x + 1) ≤ 100 := by omega
      go_wp2_with (at_builtin; refine wpList_push rfl rfl slInt (by show (0 : Nat) < 1; omega) (hG.below bwT) rfl (ad := ⟨wr.heap.size + 1, 0, none⟩) rfl (cs := [.int .i64 ((x + 1))]) (y := (x + 1)) (lx := wr.heap.size) (hx' := wr.heap.size) (by intro j c hj; match j, hj with | 0, hj => simp at hj; subst hj; simp [Addr.add, go_sem]) (It.flat (z := true) (w0 := wr) (fp := []) ⟨rfl, ⟨by omega, by omega⟩, rfl⟩) (by omega) (.inl (Nat.le_refl _)) (by unfold maxLen; omega) (by omega) (by simp; omega) ?_)
      intro v' w1 hG1 _ hb1
      rw [← HE.out, ← HD.out] at hG1
      have HG := Lib.hid hG1
      have hB1 : Below (w.heap.size + 1) (w.alloc (.cells #[.slice (some ⟨b, off, none⟩) ps.length cap, v2] 32)) w1 := Below.trans bwT hb1
      clear hG hG1 hb1 h HD HE
      go_wp2
      go_roundw
      case rel => exact ⟨k + 1, by omega, by go_num, HG.out, hB1⟩
      case measure => simp [intOf]; omega
    · have HO := Lib.hid (hG.ow (l0 := w.heap.size) (by omega) (by omega))
      clear hG h hP
      go_wp2
      go_ret
      refine ⟨_, rfl, ?_, hbw⟩
      have := HO.out
      rwa [List.take_of_length_le (by omega)] at this
end Go.Proofs.Ytiingmngeiakgaa
