/- Texts laid one behind the other (merge.py): DepS, TyUnion, UniS. -/
import Derived.Test.YtefbbbhidnnchaaZ14B
import Derived.Test.YtefbbbhidnnchaaZ14D
import Derived.Test.YtefbbbhidnnchaaZ14A
namespace Go.Proofs.Ytefbbbhidnnchaa
set_option linter.unusedVariables false
set_option linter.unusedSimpArgs false
open Go.RowKit

/-! ### DepS -/
section

set_option maxRecDepth 20000 in
set_option maxHeartbeats 4000000 in
theorem depS_any {z : Bool} {lo hi : Nat} (w : World) (v v2 : Value) (ps : List Per) (h : Rd z lo hi w [v] ps) (hP : PplTo ps ps.length) (hl : ps.length ≤ 40) :
    Calls Try.prog 66 #[.agg #[v, v2]] w (PostOw w (deps ps)) := by
  obtain ⟨ao, n, cap, rfl, rfl, hnc, hcm, hnone⟩ := h.shape
  unfold maxLen at *
  go_enter Try.func66, Try.ntmps66
  go_wp2
  go_loopw [3, 5, 6, 11] (fun s3 _ _ s11 wr => ∃ k : Nat, k ≤ ps.length ∧ s11 = .int .i64 k ∧ GL true (w.heap.size + 1) (w.heap.size + 1) wr.heap.size wr 3 s3 (deps (ps.take k)) ∧ Below (w.heap.size + 1) (w.alloc (.cells #[.slice ao ps.length cap, v2] 26)) wr) (fun _ _ _ s11 _ => ps.length - (intOf s11).toNat)
  case atStart => exact ⟨0, Nat.zero_le _, rfl, (by have h := (GL.lit0 (α := Int) true (w.heap.size + 1) (w.heap.size + 1) (w.alloc (.cells #[.slice ao ps.length cap, v2] 26)) 3 (by simp)).top; simpa [deps] using h), bwT⟩
  case round =>
    rename_i wr
    obtain ⟨k, hk, rfl, hG, hb⟩ := hrel
    have sW := hb.size
    simp only [World.size_alloc] at sW
    have hbw : Below w.heap.size w wr := Below.trans ((Below.refl _ _).alloc (Nat.le_refl _) _) (hb.mono (by omega))
    by_cases hlt : k < ps.length
    · have hI : (k : Int) < (ps.length : Int) := by omega
      obtain ⟨b, off, nm, sx, fa, mo, bo, di, rfl, hx, p0, p1, p2, p3, p4, p5, g0, g1, g2, g3, g4, g5, -, -, hbl, -⟩ := (h.below hbw).per_at hlt
      obtain ⟨-, -, -, ffa, fmo, -⟩ := hP.at hlt hx.out
      have hbd := deps_bd ps k hk
      have hdl : (deps (ps.take k)).length = k := by rw [deps_len]; simp; omega
      have HD := Lib.hid (show deps (ps.take (k + 1)) = deps (ps.take k) ++ [depOf (deps (ps.take k)) fa mo] by rw [take_snoc hx.out, deps_snoc])
      obtain ⟨D, hD⟩ : ∃ D, D = deps (ps.take k) := ⟨_, rfl⟩
      rw [← hD] at hG hbd hdl HD
      clear hD hx hP
      rcases ffa with rfl | ffa
      · have ef : dep1 D (-1) = 0 := rfl
        rcases fmo with rfl | fmo
        · have em : dep1 D (-1) = 0 := rfl
          have HE := Lib.hid (show depOf D (-1) (-1) = (0 : Int) by unfold depOf; rw [ef]; (try rw [em]); omega)
          have hE0 : 0 ≤ (0 : Int) ∧ (0 : Int) ≤ 100 := by omega
          go_wp2_with (at_builtin; refine wpList_push rfl rfl slInt (by show (0 : Nat) < 1; omega) (hG.below bwT) rfl (ad := ⟨wr.heap.size + 1, 0, none⟩) rfl (cs := [.int .i64 ((0 : Int))]) (y := (0 : Int)) (lx := wr.heap.size) (hx' := wr.heap.size) (by intro j c hj; match j, hj with | 0, hj => simp at hj; subst hj; simp [Addr.add, go_sem]) (It.flat (z := true) (w0 := wr) (fp := []) ⟨rfl, ⟨by omega, by omega⟩, rfl⟩) (by omega) (.inl (Nat.le_refl _)) (by unfold maxLen; omega) (by omega) (by simp; omega) ?_)
          intro v' w1 hG1 _ hb1
          rw [← HE.out, ← HD.out] at hG1
          have HG := Lib.hid hG1
          have hB1 : Below (w.heap.size + 1) (w.alloc (.cells #[.slice (some ⟨b, off, none⟩) ps.length cap, v2] 26)) w1 := Below.trans bwT hb1
          clear hG hG1 hb1 h HD HE
          go_wp2
          go_roundw
          case rel => exact ⟨k + 1, by omega, by go_num, HG.out, hB1⟩
          case measure => simp [intOf]; omega
        obtain ⟨my, rfl⟩ := Int.eq_ofNat_of_zero_le fmo.1
        obtain ⟨g, cpg, y, rfl, hy, hcy, hiy, -, -, gzy, -⟩ := hG.int_at (i := my) (by omega)
        have hby := hbd y (List.mem_of_getElem? hy.out)
        have em : dep1 D ((my : Nat) : Int) = y + 1 := by
          rw [dep1, if_pos (by omega), Int.toNat_natCast, List.getD_eq_getElem?_getD, hy.out]; rfl
        have ly : ((my : Nat) : Int) < (D.length : Int) := by omega
        have ky : (0 : Int) ≤ ((my : Nat) : Int) := by omega
        have gny : ¬ g = wr.heap.size := by omega
        have gmy : ¬ wr.heap.size = g := by omega
        have wy : wrap64 (y + 1) = y + 1 := IntWalk.wrap64_in _ (by omega)
        clear hy
        have c0 : (0 : Int) < y + 1 := by omega
        have HE := Lib.hid (show depOf D (-1) ((my : Nat) : Int) = (y + 1) by unfold depOf; rw [ef]; (try rw [em]); omega)
        have hE0 : 0 ≤ (y + 1) ∧ (y + 1) ≤ 100 := by omega
        go_wp2_with (at_builtin; refine wpList_push rfl rfl slInt (by show (0 : Nat) < 1; omega) (hG.below bwT) rfl (ad := ⟨wr.heap.size + 1, 0, none⟩) rfl (cs := [.int .i64 ((y + 1))]) (y := (y + 1)) (lx := wr.heap.size) (hx' := wr.heap.size) (by intro j c hj; match j, hj with | 0, hj => simp at hj; subst hj; simp [Addr.add, go_sem]) (It.flat (z := true) (w0 := wr) (fp := []) ⟨rfl, ⟨by omega, by omega⟩, rfl⟩) (by omega) (.inl (Nat.le_refl _)) (by unfold maxLen; omega) (by omega) (by simp; omega) ?_)
        intro v' w1 hG1 _ hb1
        rw [← HE.out, ← HD.out] at hG1
        have HG := Lib.hid hG1
        have hB1 : Below (w.heap.size + 1) (w.alloc (.cells #[.slice (some ⟨b, off, none⟩) ps.length cap, v2] 26)) w1 := Below.trans bwT hb1
        clear hG hG1 hb1 h HD HE
        go_wp2
        go_roundw
        case rel => exact ⟨k + 1, by omega, by go_num, HG.out, hB1⟩
        case measure => simp [intOf]; omega
      obtain ⟨mx, rfl⟩ := Int.eq_ofNat_of_zero_le ffa.1
      obtain ⟨g, cpg, x, rfl, hx, hcx, hix, -, -, gzx, -⟩ := hG.int_at (i := mx) (by omega)
      have hbx := hbd x (List.mem_of_getElem? hx.out)
      have ef : dep1 D ((mx : Nat) : Int) = x + 1 := by
        rw [dep1, if_pos (by omega), Int.toNat_natCast, List.getD_eq_getElem?_getD, hx.out]; rfl
      have lx : ((mx : Nat) : Int) < (D.length : Int) := by omega
      have kx : (0 : Int) ≤ ((mx : Nat) : Int) := by omega
      have gnx : ¬ g = wr.heap.size := by omega
      have gmx : ¬ wr.heap.size = g := by omega
      have wx : wrap64 (x + 1) = x + 1 := IntWalk.wrap64_in _ (by omega)
      clear hx
      rcases fmo with rfl | fmo
      · have em : dep1 D (-1) = 0 := rfl
        have HE := Lib.hid (show depOf D ((mx : Nat) : Int) (-1) = (x + 1) by unfold depOf; rw [ef]; (try rw [em]); omega)
        have hE0 : 0 ≤ (x + 1) ∧ (x + 1) ≤ 100 := by omega
        go_wp2_with (at_builtin; refine wpList_push rfl rfl slInt (by show (0 : Nat) < 1; omega) (hG.below bwT) rfl (ad := ⟨wr.heap.size + 1, 0, none⟩) rfl (cs := [.int .i64 ((x + 1))]) (y := (x + 1)) (lx := wr.heap.size) (hx' := wr.heap.size) (by intro j c hj; match j, hj with | 0, hj => simp at hj; subst hj; simp [Addr.add, go_sem]) (It.flat (z := true) (w0 := wr) (fp := []) ⟨rfl, ⟨by omega, by omega⟩, rfl⟩) (by omega) (.inl (Nat.le_refl _)) (by unfold maxLen; omega) (by omega) (by simp; omega) ?_)
        intro v' w1 hG1 _ hb1
        rw [← HE.out, ← HD.out] at hG1
        have HG := Lib.hid hG1
        have hB1 : Below (w.heap.size + 1) (w.alloc (.cells #[.slice (some ⟨b, off, none⟩) ps.length cap, v2] 26)) w1 := Below.trans bwT hb1
        clear hG hG1 hb1 h HD HE
        go_wp2
        go_roundw
        case rel => exact ⟨k + 1, by omega, by go_num, HG.out, hB1⟩
        case measure => simp [intOf]; omega
      obtain ⟨my, rfl⟩ := Int.eq_ofNat_of_zero_le fmo.1
      obtain ⟨_, _, y, ee, hy, hcy, hiy, -, -, gzy, -⟩ := hG.int_at (i := my) (by omega)
      simp only [Value.slice.injEq, Option.some.injEq, Addr.mk.injEq, and_true, true_and] at ee
      obtain ⟨rfl, rfl⟩ := ee
      have hby := hbd y (List.mem_of_getElem? hy.out)
      have em : dep1 D ((my : Nat) : Int) = y + 1 := by
        rw [dep1, if_pos (by omega), Int.toNat_natCast, List.getD_eq_getElem?_getD, hy.out]; rfl
      have ly : ((my : Nat) : Int) < (D.length : Int) := by omega
      have ky : (0 : Int) ≤ ((my : Nat) : Int) := by omega
      have gny : ¬ g = wr.heap.size := by omega
      have gmy : ¬ wr.heap.size = g := by omega
      have wy : wrap64 (y + 1) = y + 1 := IntWalk.wrap64_in _ (by omega)
      clear hy
      by_cases c0 : x + 1 < y + 1
      · have HE := Lib.hid (show depOf D ((mx : Nat) : Int) ((my : Nat) : Int) = (y + 1) by unfold depOf; rw [ef]; (try rw [em]); omega)
        have hE0 : 0 ≤ (y + 1) ∧ (y + 1) ≤ 100 := by omega
        go_wp2_with (at_builtin; refine wpList_push rfl rfl slInt (by show (0 : Nat) < 1; omega) (hG.below bwT) rfl (ad := ⟨wr.heap.size + 1, 0, none⟩) rfl (cs := [.int .i64 ((y + 1))]) (y := (y + 1)) (lx := wr.heap.size) (hx' := wr.heap.size) (by intro j c hj; match j, hj with | 0, hj => simp at hj; subst hj; simp [Addr.add, go_sem]) (It.flat (z := true) (w0 := wr) (fp := []) ⟨rfl, ⟨by omega, by omega⟩, rfl⟩) (by omega) (.inl (Nat.le_refl _)) (by unfold maxLen; omega) (by omega) (by simp; omega) ?_)
        intro v' w1 hG1 _ hb1
        rw [← HE.out, ← HD.out] at hG1
        have HG := Lib.hid hG1
        have hB1 : Below (w.heap.size + 1) (w.alloc (.cells #[.slice (some ⟨b, off, none⟩) ps.length cap, v2] 26)) w1 := Below.trans bwT hb1
        clear hG hG1 hb1 h HD HE
        go_wp2
        go_roundw
        case rel => exact ⟨k + 1, by omega, by go_num, HG.out, hB1⟩
        case measure => simp [intOf]; omega
      have HE := Lib.hid (show depOf D ((mx : Nat) : Int) ((my : Nat) : Int) = (x + 1) by unfold depOf; rw [ef]; (try rw [em]); omega)
      have hE0 : 0 ≤ (x + 1) ∧ (x + 1) ≤ 100 := by omega
      go_wp2_with (at_builtin; refine wpList_push rfl rfl slInt (by show (0 : Nat) < 1; omega) (hG.below bwT) rfl (ad := ⟨wr.heap.size + 1, 0, none⟩) rfl (cs := [.int .i64 ((x + 1))]) (y := (x + 1)) (lx := wr.heap.size) (hx' := wr.heap.size) (by intro j c hj; match j, hj with | 0, hj => simp at hj; subst hj; simp [Addr.add, go_sem]) (It.flat (z := true) (w0 := wr) (fp := []) ⟨rfl, ⟨by omega, by omega⟩, rfl⟩) (by omega) (.inl (Nat.le_refl _)) (by unfold maxLen; omega) (by omega) (by simp; omega) ?_)
      intro v' w1 hG1 _ hb1
      rw [← HE.out, ← HD.out] at hG1
      have HG := Lib.hid hG1
      have hB1 : Below (w.heap.size + 1) (w.alloc (.cells #[.slice (some ⟨b, off, none⟩) ps.length cap, v2] 26)) w1 := Below.trans bwT hb1
      clear hG hG1 hb1 h HD HE
      go_wp2
      go_roundw
      case rel => exact ⟨k + 1, by omega, by go_num, HG.out, hB1⟩
      case measure => simp [intOf]; omega
    · have HO := Lib.hid (hG.ow (l0 := w.heap.size) (by omega) (by omega))
      clear hG h hP
      go_wp2
      go_ret
      refine ⟨_, rfl, ?_, hbw⟩
      have := HO.out
      rwa [List.take_of_length_le (by omega)] at this

end

/-! ### TyUnion -/
section

theorem slUnion : SlTy Try.prog 24 65 (.agg #[.int .i64 0, .int .i64 0, .int .i64 0, .int .i64 0]) 4 32 := SlTy.of Try.underlying24 (by kernel_rfl) rfl
theorem repUni_inv {z : Bool} {w : World} {cs : List Value} {ma : Int} {wo : Int} {fr : Int} {tl : Int} {fp : List Nat} (h : Rep.rep z w cs ((ma, wo, fr, tl) : Uni) fp) : cs = [.int .i64 ma, .int .i64 wo, .int .i64 fr, .int .i64 tl] ∧ I64 ma ∧ I64 wo ∧ I64 fr ∧ I64 tl ∧ fp = [] := by
  obtain ⟨_, _, _, _, rfl, rfl, ⟨rfl, h0, rfl⟩, _, _, _, _, rfl, rfl, ⟨rfl, h1, rfl⟩, _, _, _, _, rfl, rfl, ⟨rfl, h2, rfl⟩, ⟨rfl, h3, rfl⟩⟩ := h
  exact ⟨rfl, h0, h1, h2, h3, rfl⟩
theorem repUni_mk {z : Bool} {w : World} {ma : Int} {wo : Int} {fr : Int} {tl : Int} (h0 : I64 ma) (h1 : I64 wo) (h2 : I64 fr) (h3 : I64 tl) : Rep.rep z w [.int .i64 ma, .int .i64 wo, .int .i64 fr, .int .i64 tl] ((ma, wo, fr, tl) : Uni) [] :=
  ⟨[_], _, [], [], rfl, rfl, ⟨rfl, h0, rfl⟩, ⟨[_], _, [], [], rfl, rfl, ⟨rfl, h1, rfl⟩, ⟨[_], _, [], [], rfl, rfl, ⟨rfl, h2, rfl⟩, ⟨rfl, h3, rfl⟩⟩⟩⟩
theorem Rd.uni_at {z : Bool} {lo hi : Nat} {w : World} {xs : List Uni} {ao : Option Addr} {n cap : Nat} (h : Rd z lo hi w [.slice ao n cap] xs) {i : Nat} (hi' : i < n) :
    ∃ (b off : Nat) (ma : Int) (wo : Int) (fr : Int) (tl : Int), ao = some ⟨b, off, none⟩ ∧ Hid (xs[i]? = some (ma, wo, fr, tl)) ∧ w.cell? ⟨b, off + i * 4, none⟩ = some (.int .i64 ma) ∧ w.cell? ⟨b, off + i * 4 + 1, none⟩ = some (.int .i64 wo) ∧ w.cell? ⟨b, off + i * 4 + 2, none⟩ = some (.int .i64 fr) ∧ w.cell? ⟨b, off + i * 4 + 3, none⟩ = some (.int .i64 tl) ∧ I64 ma ∧ I64 wo ∧ I64 fr ∧ I64 tl ∧ lo ≤ b ∧ b < hi ∧ b < w.heap.size ∧ (z = true → ∀ o, w.frozen? ⟨b, o, none⟩ = false) := by
  obtain ⟨b, off, ⟨ma, wo, fr, tl⟩, cs, e, hx, ⟨fp, hr, _⟩, _, g1, g2, g3, hc, hf⟩ := h.at hi'
  obtain ⟨rfl, h0, h1, h2, h3, -⟩ := repUni_inv hr
  refine ⟨b, off, ma, wo, fr, tl, e, hx, ?_, ?_, ?_, ?_, h0, h1, h2, h3, g1, g2, g3, hf⟩
  · have := hc 0 (.int .i64 ma) rfl; simpa [Rep.sz, Nat.add_assoc] using this
  · have := hc 1 (.int .i64 wo) rfl; simpa [Rep.sz, Nat.add_assoc] using this
  · have := hc 2 (.int .i64 fr) rfl; simpa [Rep.sz, Nat.add_assoc] using this
  · have := hc 3 (.int .i64 tl) rfl; simpa [Rep.sz, Nat.add_assoc] using this

end

/-! ### UniS -/
section

theorem uniOk_at {f : Fam} {k : Nat} {u : Uni} (h : f.2[k]? = some u) : uniOk f k = uniC f k u := by unfold uniOk; rw [h]

set_option maxRecDepth 20000 in
set_option maxHeartbeats 4000000 in
theorem uniS_b {z z' : Bool} {lo hi lo' hi' : Nat} (w : World) (v v2 : Value) (f : Fam) (h : Rd z lo hi w [v] f.1) (h' : Rd z' lo' hi' w [v2] f.2) (hl : f.1.length ≤ 40) (hP : PplTo f.1 f.1.length) (k : Nat) (hk : k < f.2.length) (hl2 : f.2.length ≤ 60) (r : Bool) (hr : r = uniOk f k) :
    Calls Try.prog 67 #[.agg #[v, v2], .int .i64 k] w (PostB w r) := by
  obtain ⟨ps, us⟩ := f
  dsimp only at h h' hl hP hk hl2
  obtain ⟨ao, n, cap, rfl, rfl, hnc, hcm, hnone⟩ := h.shape
  obtain ⟨bo, n2, dap, rfl, rfl, hnc', hcm', hnone'⟩ := h'.shape
  unfold maxLen at *
  obtain ⟨b, off, m, wo, fr, tl, rfl, hu, p0, p1, p2, p3, g0, g1, g2, g3, -, -, hbl, -⟩ := h'.uni_at hk
  rw [uniOk_at hu.out, uniC] at hr
  have HR := Lib.hid hr
  clear hr hu
  have hkI : (k : Int) < (us.length : Int) := by omega
  have wn : wrap64 ((ps.length : Int) - 1) = (ps.length : Int) - 1 := IntWalk.wrap64_in _ (by omega)
  obtain ⟨r1, hlet_r1⟩ : ∃ r, r = decide ((0 : Int) ≤ m ∧ m ≤ (ps.length : Int) - 1) := ⟨_, rfl⟩
  have H1 := Lib.hid hlet_r1
  clear hlet_r1
  obtain ⟨r2, hlet_r2⟩ : ∃ r, r = decide ((0 : Int) ≤ wo ∧ wo ≤ (ps.length : Int) - 1) := ⟨_, rfl⟩
  have H2 := Lib.hid hlet_r2
  clear hlet_r2
  have HF12 := Lib.hid (show (r1 && r2) = false → false = r by
    intro e
    rw [HR.out, H1.out, H2.out] at *
    have : decide ((0 ≤ m ∧ m < (ps.length : Int)) ∧ (0 ≤ wo ∧ wo < (ps.length : Int))) = false := by
      rw [decide_eq_false_iff_not]
      intro hh
      rw [show decide ((0 : Int) ≤ m ∧ m ≤ (ps.length : Int) - 1) = true by simp; omega, show decide ((0 : Int) ≤ wo ∧ wo ≤ (ps.length : Int) - 1) = true by simp; omega] at e
      cases e
    rw [this]; rfl)
  go_enter Try.func67, Try.ntmps67
  go_wp2_with fail
  refine (l1In_b _ _ _ _ r1 H1.out).mono ?_
  rintro e1 w1 ⟨rfl, hbw1⟩
  have hpw1 : Below w.heap.size w w1 := Below.after bwT hbw1 szT
  have sw1 := hpw1.size
  have hBw1 : Below w.heap.size w w1 := hpw1
  have l_f : w.heap.size < w1.heap.size := by have := hbw1.size; simp at this; omega
  have q_f0 : w1.cell? ⟨w.heap.size, 0, none⟩ = some (.slice ao ps.length cap) := oldc hbw1 ltT (by simp [go_sem])
  have q_f1 : w1.cell? ⟨w.heap.size, 1, none⟩ = some (.slice (some ⟨b, off, none⟩) us.length dap) := oldc hbw1 ltT (by simp [go_sem])
  have l_u : w.heap.size + 1 < w1.heap.size := by have := hbw1.size; simp at this; omega
  have q_u0 : w1.cell? ⟨w.heap.size + 1, 0, none⟩ = some (.int .i64 m) := oldc hbw1 ltT (by simp [go_sem])
  have q_u1 : w1.cell? ⟨w.heap.size + 1, 1, none⟩ = some (.int .i64 wo) := oldc hbw1 ltT (by simp [go_sem])
  have q_u2 : w1.cell? ⟨w.heap.size + 1, 2, none⟩ = some (.int .i64 fr) := oldc hbw1 ltT (by simp [go_sem])
  have q_u3 : w1.cell? ⟨w.heap.size + 1, 3, none⟩ = some (.int .i64 tl) := oldc hbw1 ltT (by simp [go_sem])
  clear hbw1 hpw1
  cases r1
  · go_wp2
    go_ret
    exact ⟨ret_bool (HF12.out rfl), bwT⟩
  go_wp2_with fail
  refine (l1In_b _ _ _ _ r2 H2.out).mono ?_
  rintro e2 w2 ⟨rfl, hbw2⟩
  have hpw2 : Below w1.heap.size w1 w2 := Below.after bwT hbw2 szT
  have sw2 := hpw2.size
  have hBw2 : Below w.heap.size w w2 := Below.trans hBw1 (Below.mono hpw2 hBw1.size)
  have q_f0 := oldc hpw2 l_f q_f0
  have q_f1 := oldc hpw2 l_f q_f1
  have q_u0 := oldc hpw2 l_u q_u0
  have q_u1 := oldc hpw2 l_u q_u1
  have q_u2 := oldc hpw2 l_u q_u2
  have q_u3 := oldc hpw2 l_u q_u3
  have l_f := Nat.lt_of_lt_of_le l_f sw2
  have l_u := Nat.lt_of_lt_of_le l_u sw2
  clear hbw2 hpw2
  cases r2
  · go_wp2
    go_ret
    exact ⟨ret_bool (HF12.out rfl), bwT⟩
  have hm := of_decide_eq_true H1.out.symm
  have hwo := of_decide_eq_true H2.out.symm
  clear HF12 H1 H2
  obtain ⟨mi, rfl⟩ := Int.eq_ofNat_of_zero_le hm.1
  obtain ⟨wi, rfl⟩ := Int.eq_ofNat_of_zero_le hwo.1
  have hmi : mi < ps.length := by omega
  have hwi : wi < ps.length := by omega
  obtain ⟨pb, poff, na, sa, fa, ma, ba, da, rfl, hxa, a0, a1, a2, a3, a4, a5, ga0, ga1, ga2, ga3, ga4, ga5, -, -, hpb, -⟩ := (h.below hBw2).per_at hmi
  obtain ⟨_, _, nb, sb, fb, mb, bb, db, ee, hxb, b0, b1, b2, b3, b4, b5, gb0, gb1, gb2, gb3, gb4, gb5, -, -, -, -⟩ := (h.below hBw2).per_at hwi
  simp only [Option.some.injEq, Addr.mk.injEq, and_true] at ee
  obtain ⟨rfl, rfl⟩ := ee
  obtain ⟨-, fba, fda, -⟩ := hP.at hmi hxa.out
  obtain ⟨-, fbb, fdb, -⟩ := hP.at hwi hxb.out
  obtain ⟨dup, hlet_dup⟩ : ∃ r, r = decide (((mi : Int), (wi : Int)) ∈ (us.take k).map fun v => (v.1, v.2.1)) := ⟨_, rfl⟩
  have HD := Lib.hid hlet_dup
  clear hlet_dup
  have HB := Lib.hid (show r = (decide (sa = 1 ∧ sb = 2) && (decide (fr ≤ 9999 ∧ ba ≤ fr ∧ bb ≤ fr) && (decide (tl = -1 ∨ (fr ≤ tl ∧ tl ≤ 9999)) && (liveOk da fr tl && liveOk db fr tl))) && !dup) by
    rw [HR.out, Int.toNat_natCast, Int.toNat_natCast, hxa.out, hxb.out, HD.out]
    rw [show decide ((0 ≤ (mi : Int) ∧ (mi : Int) < (ps.length : Int)) ∧ (0 ≤ (wi : Int) ∧ (wi : Int) < (ps.length : Int))) = true by simp; omega]
    rfl)
  have HFail := Lib.hid (show ¬ ((sa = 1 ∧ sb = 2) ∧ (fr ≤ 9999 ∧ ba ≤ fr ∧ bb ≤ fr) ∧ (tl = -1 ∨ (fr ≤ tl ∧ tl ≤ 9999)) ∧ (da = -1 ∨ (fr ≤ da ∧ (tl = -1 ∨ tl ≤ da))) ∧ (db = -1 ∨ (fr ≤ db ∧ (tl = -1 ∨ tl ≤ db)))) → false = r by
    intro e
    rw [HB.out]
    cases hh : (decide (sa = 1 ∧ sb = 2) && (decide (fr ≤ 9999 ∧ ba ≤ fr ∧ bb ≤ fr) && (decide (tl = -1 ∨ (fr ≤ tl ∧ tl ≤ 9999)) && (liveOk da fr tl && liveOk db fr tl))))
    · rfl
    · simp only [liveOk, Bool.and_eq_true, decide_eq_true_eq] at hh
      exact absurd ⟨hh.1, hh.2.1, hh.2.2.1, hh.2.2.2.1, hh.2.2.2.2⟩ e)
  have HOk := Lib.hid (show ((sa = 1 ∧ sb = 2) ∧ (fr ≤ 9999 ∧ ba ≤ fr ∧ bb ≤ fr) ∧ (tl = -1 ∨ (fr ≤ tl ∧ tl ≤ 9999)) ∧ (da = -1 ∨ (fr ≤ da ∧ (tl = -1 ∨ tl ≤ da))) ∧ (db = -1 ∨ (fr ≤ db ∧ (tl = -1 ∨ tl ≤ db)))) → r = !dup by
    intro e
    rw [HB.out]
    simp [liveOk, e])
  have hmI : ((mi : Nat) : Int) < (ps.length : Int) := by omega
  have hwI : ((wi : Nat) : Int) < (ps.length : Int) := by omega
  clear HB HR hxa hxb hm hwo ga0 gb0 hP
  by_cases s1 : sa = 1
  rotate_left
  · have s1' : (sa != 1) = true := by simpa using s1
    have HX := Lib.hid (HFail.out (fun e => s1 e.1.1))
    clear HFail HOk h h'
    go_wp2
    go_ret
    exact ⟨ret_bool HX.out, bwT⟩
  have s1' : (sa != 1) = false := by simpa using s1
  by_cases s2 : sb = 2
  rotate_left
  · have s2' : (sb != 2) = true := by simpa using s2
    have HX := Lib.hid (HFail.out (fun e => s2 e.1.2))
    clear HFail HOk h h'
    go_wp2
    go_ret
    exact ⟨ret_bool HX.out, bwT⟩
  have s2' : (sb != 2) = false := by simpa using s2
  by_cases s3 : fr ≤ 9999
  rotate_left
  · have s3' : 9999 < fr := by omega
    have HX := Lib.hid (HFail.out (fun e => s3 e.2.1.1))
    clear HFail HOk h h'
    go_wp2
    go_ret
    exact ⟨ret_bool HX.out, bwT⟩
  have s3' : ¬ 9999 < fr := by omega
  have PA := Lib.hid (And.intro a0 (And.intro a1 (And.intro a2 (And.intro a3 (And.intro a4 a5)))))
  have PB := Lib.hid (And.intro b0 (And.intro b1 (And.intro b2 (And.intro b3 (And.intro b4 b5)))))
  obtain ⟨WX, hWX⟩ : ∃ W : World, W = w2 := ⟨_, rfl⟩
  subst hWX
  have hBX : Below w.heap.size w WX := hBw2
  clear a0 a2 a3 a4 a5 b0 b2 b3 b4 b5
  by_cases s4 : tl = -1
  case' pos =>
    have s4' : (tl != -1) = false := by simpa using s4
    have s5 : tl = -1 ∨ (fr ≤ tl ∧ tl ≤ 9999) := .inl s4
    obtain ⟨WY, hWY⟩ : ∃ W : World, W = WX := ⟨_, rfl⟩
    subst hWY
    have hXY : Below WY.heap.size WY WY := Below.refl _ _
    clear hBX
    have hBX : Below w.heap.size w WY := hBw2
    have hpbY : pb < WY.heap.size := hpb
  case' neg =>
    have s4' : (tl != -1) = true := by simpa using s4
    obtain ⟨r4, hlet_r4⟩ : ∃ r, r = decide (fr ≤ tl ∧ tl ≤ 9999) := ⟨_, rfl⟩
    have H4 := Lib.hid hlet_r4
    clear hlet_r4
    go_wp2_with fail
    refine (l1In_b _ _ _ _ r4 H4.out).mono ?_
    rintro e WY ⟨rfl, hXY⟩
    have hBX : Below w.heap.size w WY := Below.after hBX hXY hBX.size
    have sXY := hXY.size
    have q_f0 := oldc hXY l_f q_f0
    have q_f1 := oldc hXY l_f q_f1
    have q_u0 := oldc hXY l_u q_u0
    have q_u1 := oldc hXY l_u q_u1
    have q_u2 := oldc hXY l_u q_u2
    have q_u3 := oldc hXY l_u q_u3
    have PA := Lib.hid (And.intro (oldc hXY hpb PA.out.1) (And.intro (oldc hXY hpb PA.out.2.1) (And.intro (oldc hXY hpb PA.out.2.2.1) (And.intro (oldc hXY hpb PA.out.2.2.2.1) (And.intro (oldc hXY hpb PA.out.2.2.2.2.1) (oldc hXY hpb PA.out.2.2.2.2.2))))))
    have PB := Lib.hid (And.intro (oldc hXY hpb PB.out.1) (And.intro (oldc hXY hpb PB.out.2.1) (And.intro (oldc hXY hpb PB.out.2.2.1) (And.intro (oldc hXY hpb PB.out.2.2.2.1) (And.intro (oldc hXY hpb PB.out.2.2.2.2.1) (oldc hXY hpb PB.out.2.2.2.2.2))))))
    have l_f := Nat.lt_of_lt_of_le l_f sXY
    have l_u := Nat.lt_of_lt_of_le l_u sXY
    have hpbY : pb < WY.heap.size := Nat.lt_of_lt_of_le hpb sXY
    cases r4
    · have HX := Lib.hid (HFail.out (fun e => by
        have h1 := of_decide_eq_false H4.out.symm
        have h2 := e.2.2.1
        omega))
      clear HFail HOk h h' PA PB
      go_wp2
      go_ret
      exact ⟨ret_bool HX.out, bwT⟩
    have s5 : tl = -1 ∨ (fr ≤ tl ∧ tl ≤ 9999) := .inr (of_decide_eq_true H4.out.symm)
    clear H4
  all_goals
    go_wp2
    go_loopw [8, 75] (fun _ s75 wr => ∃ j : Nat, j ≤ 2 ∧ s75 = .int .i64 j ∧ Hid ((1 ≤ j → ba ≤ fr ∧ (da = -1 ∨ (fr ≤ da ∧ tl ≤ da))) ∧ (2 ≤ j → bb ≤ fr ∧ (db = -1 ∨ (fr ≤ db ∧ tl ≤ db)))) ∧ wr.cell? ⟨WY.heap.size, 0, none⟩ = some (.int .i64 (mi : Nat)) ∧ wr.cell? ⟨WY.heap.size, 1, none⟩ = some (.int .i64 (wi : Nat)) ∧ Below WY.heap.size WY wr) (fun _ s75 _ => 2 - (intOf s75).toNat)
    case atStart => exact ⟨0, by omega, rfl, Lib.hid ⟨fun h => absurd h (by omega), fun h => absurd h (by omega)⟩, by simp [go_sem], by simp [go_sem], bwT⟩
    case round =>
      rename_i wr
      obtain ⟨j, hj2, rfl, hj, hc0, hc1, hb⟩ := hrel
      have sW := hb.size
      have hbw : Below w.heap.size w wr := Below.trans hBX (hb.mono hBX.size)
      have q_f0 := oldc hb l_f q_f0
      have q_f1 := oldc hb l_f q_f1
      have q_u0 := oldc hb l_u q_u0
      have q_u1 := oldc hb l_u q_u1
      have q_u2 := oldc hb l_u q_u2
      have q_u3 := oldc hb l_u q_u3
      have l_f := Nat.lt_of_lt_of_le l_f sW
      have l_u := Nat.lt_of_lt_of_le l_u sW
      have hw0 : WY.heap.size < wr.heap.size := by
        have := World.block_lt_of_cell? wr _ hc0
        simpa using this
      by_cases hlt : j < 2
      · have hI : (j : Int) < 2 := by omega
        obtain ⟨x0, x1, x2, x3, x4, x5⟩ := PA.out
        obtain ⟨y0, y1, y2, y3, y4, y5⟩ := PB.out
        have x0 := oldc hb hpbY x0
        have x1 := oldc hb hpbY x1
        have x2 := oldc hb hpbY x2
        have x3 := oldc hb hpbY x3
        have x4 := oldc hb hpbY x4
        have x5 := oldc hb hpbY x5
        have y0 := oldc hb hpbY y0
        have y1 := oldc hb hpbY y1
        have y2 := oldc hb hpbY y2
        have y3 := oldc hb hpbY y3
        have y4 := oldc hb hpbY y4
        have y5 := oldc hb hpbY y5
        clear PA PB h h'
        by_cases j0 : j = 0
        · obtain rfl : j = 0 := by omega
          have HN := Lib.hid (show (ba ≤ fr ∧ (da = -1 ∨ (fr ≤ da ∧ tl ≤ da))) → ((1 ≤ (0 + 1) → ba ≤ fr ∧ (da = -1 ∨ (fr ≤ da ∧ tl ≤ da))) ∧ (2 ≤ (0 + 1) → bb ≤ fr ∧ (db = -1 ∨ (fr ≤ db ∧ tl ≤ db)))) by intro e; exact ⟨fun _ => e, fun h => absurd h (by omega)⟩)
          have HZ := Lib.hid (show ¬ (ba ≤ fr ∧ (da = -1 ∨ (fr ≤ da ∧ tl ≤ da))) → false = r by intro e; exact HFail.out (fun e2 => e ⟨e2.2.1.2.1, by have := e2.2.2.2.1; have := e2.2.1.2.1; omega⟩))
          clear HFail HOk hj
          by_cases d1 : da = -1
          all_goals have d1' : (da != -1) = !decide (da = -1) := rfl
          all_goals simp only [d1, decide_true, decide_false, Bool.not_true, Bool.not_false] at d1'
          all_goals go_wp2
          all_goals first
            | (go_roundw
               case rel => exact ⟨0 + 1, by omega, by go_num, Lib.hid (HN.out (by omega)), by simp [go_sem, *], by simp [go_sem, *], bwT⟩
               case measure => simp [intOf])
            | (go_ret; exact ⟨ret_bool (HZ.out (by omega)), bwT⟩)
        · obtain rfl : j = 1 := by omega
          have HN := Lib.hid (show (bb ≤ fr ∧ (db = -1 ∨ (fr ≤ db ∧ tl ≤ db))) → ((1 ≤ (1 + 1) → ba ≤ fr ∧ (da = -1 ∨ (fr ≤ da ∧ tl ≤ da))) ∧ (2 ≤ (1 + 1) → bb ≤ fr ∧ (db = -1 ∨ (fr ≤ db ∧ tl ≤ db)))) by intro e; exact ⟨fun _ => hj.out.1 (by omega), fun _ => e⟩)
          have HZ := Lib.hid (show ¬ (bb ≤ fr ∧ (db = -1 ∨ (fr ≤ db ∧ tl ≤ db))) → false = r by intro e; exact HFail.out (fun e2 => e ⟨e2.2.1.2.2, by have := e2.2.2.2.2; have := e2.2.1.2.2; omega⟩))
          clear HFail HOk hj
          by_cases d1 : db = -1
          all_goals have d1' : (db != -1) = !decide (db = -1) := rfl
          all_goals simp only [d1, decide_true, decide_false, Bool.not_true, Bool.not_false] at d1'
          all_goals go_wp2
          all_goals first
            | (go_roundw
               case rel => exact ⟨1 + 1, by omega, by go_num, Lib.hid (HN.out (by omega)), by simp [go_sem, *], by simp [go_sem, *], bwT⟩
               case measure => simp [intOf])
            | (go_ret; exact ⟨ret_bool (HZ.out (by omega)), bwT⟩)
      · obtain rfl : j = 2 := by omega
        have HR2 := Lib.hid (HOk.out ⟨⟨s1, s2⟩, ⟨s3, (hj.out.1 (by omega)).1, (hj.out.2 (by omega)).1⟩, s5, by have := (hj.out.1 (by omega)).2; omega, by have := (hj.out.2 (by omega)).2; omega⟩)
        clear HOk HFail PA PB hc0 hc1 h
        obtain ⟨WZ, hWZ⟩ : ∃ W : World, W = wr := ⟨_, rfl⟩
        subst hWZ
        go_wp2
        go_loopw [10] (fun s10 wr => ∃ i : Nat, i ≤ k ∧ s10 = .int .i64 i ∧ Hid (dup = decide (((mi : Int), (wi : Int)) ∈ ((us.take k).drop i).map fun v => (v.1, v.2.1))) ∧ Below WZ.heap.size WZ wr) (fun s10 _ => k - (intOf s10).toNat)
        case atStart => exact ⟨0, Nat.zero_le _, rfl, Lib.hid (by simpa using HD.out), Below.refl _ _⟩
        case round =>
          clear HD
          obtain ⟨i, hi, rfl, hd, hb3⟩ := hrel
          have hbz : Below w.heap.size w wr := Below.trans hbw (hb3.mono hbw.size)
          have q_f1 := oldc hb3 l_f q_f1
          have q_u0 := oldc hb3 l_u q_u0
          have q_u1 := oldc hb3 l_u q_u1
          by_cases hik : i < k
          · obtain ⟨_, _, um, uw, uf, ut, ee, hux, c0, c1, -, -, -, -, -, -, -, -, hub, -⟩ := (h'.below hbz).uni_at (show i < us.length by omega)
            simp only [Option.some.injEq, Addr.mk.injEq, and_true] at ee
            obtain ⟨rfl, rfl⟩ := ee
            have hkI : (i : Int) < (k : Int) := by omega
            have huI : (i : Int) < (us.length : Int) := by omega
            have hux2 : (us.take k)[i]? = some (um, uw, uf, ut) := by rw [List.getElem?_take, if_pos hik]; exact hux.out
            have HS := Lib.hid (drop_cons hux2)
            clear hux hux2 h'
            by_cases m1 : um = (mi : Int)
            · have m1' : (um == (mi : Int)) = true := by simpa using m1
              by_cases m2 : uw = (wi : Int)
              · have m2' : (uw == (wi : Int)) = true := by simpa using m2
                have HX := Lib.hid (show false = r by rw [HR2.out, hd.out, HS.out]; simp [m1, m2])
                clear hd HS HR2
                go_wp2_with fail
                go_quiet (fail)
                go_wp2
                go_ret
                exact ⟨ret_bool HX.out, bwT⟩
              · have m2' : (uw == (wi : Int)) = false := by simpa using m2
                have HN := Lib.hid (show dup = decide (((mi : Int), (wi : Int)) ∈ ((us.take k).drop (i + 1)).map fun v => (v.1, v.2.1)) by
                  rw [hd.out, HS.out]
                  have : ¬ (wi : Int) = uw := fun e => m2 e.symm
                  simp [this])
                clear hd HS
                go_wp2_with fail
                go_quiet (fail)
                go_wp2
                go_roundw
                case rel => exact ⟨i + 1, by omega, by go_num, HN, bwT⟩
                case measure => simp [intOf]; omega
            · have m1' : (um == (mi : Int)) = false := by simpa using m1
              have HN := Lib.hid (show dup = decide (((mi : Int), (wi : Int)) ∈ ((us.take k).drop (i + 1)).map fun v => (v.1, v.2.1)) by
                rw [hd.out, HS.out]
                have : ¬ (mi : Int) = um := fun e => m1 e.symm
                simp [this])
              clear hd HS
              go_wp2_with fail
              go_quiet (fail)
              go_wp2
              go_roundw
              case rel => exact ⟨i + 1, by omega, by go_num, HN, bwT⟩
              case measure => simp [intOf]; omega
          · have HX := Lib.hid (show true = r by rw [HR2.out, hd.out, List.drop_eq_nil_of_le (by simp; omega)]; rfl)
            clear hd HR2 h'
            go_wp2
            go_ret
            exact ⟨ret_bool HX.out, bwT⟩

end

end Go.Proofs.Ytefbbbhidnnchaa
