/- Contract of spec.ProductClasses. -/
import Derived.Test.YtefbbbhidnnchaaProd
namespace Go.Proofs.Ytefbbbhidnnchaa
set_option linter.unusedVariables false
set_option linter.unusedSimpArgs false
open Go.RowKit

section
variable {z z' : Bool} {lo hi lo' hi' : Nat} (w : World) (u v u' v' : Value) (c d : Cls)
set_option maxHeartbeats 4000000 in
theorem prodS_any (h : Rd z lo hi w [u, v] c) (h' : Rd z' lo' hi' w [u', v'] d) (hl : c.1.length ≤ 1048576) (hl' : d.1.length ≤ 1048576) :
    Calls Try.prog 73 #[.agg #[u, v], .agg #[u', v']] w (PostOw2B w (prodC c d) (prodV c d)) := by
  obtain ⟨f1, f2⟩ := c
  obtain ⟨g1, g2⟩ := d
  obtain ⟨ao, n1, cap, bo, n2, dap, rfl, rfl⟩ := shapeCls h
  obtain ⟨co, m1, eap, eo, m2, fap, rfl, rfl⟩ := shapeCls h'
  obtain rfl : n1 = f1.length := by
    obtain ⟨_, _, _, e, e2, -⟩ := (h.two rfl).1.shape
    simp only [Value.slice.injEq] at e; dsimp only at e2; omega
  obtain rfl : m1 = g1.length := by
    obtain ⟨_, _, _, e, e2, -⟩ := (h'.two rfl).1.shape
    simp only [Value.slice.injEq] at e; dsimp only at e2; omega
  obtain ⟨r1, hr1⟩ : ∃ r, r = isCls (f1, f2) := ⟨_, rfl⟩
  obtain ⟨r2, hr2⟩ : ∃ r, r = isCls (g1, g2) := ⟨_, rfl⟩
  obtain ⟨r3, hr3⟩ : ∃ r, r = decide (f1.length * g1.length ≤ 8) := ⟨_, rfl⟩
  have H1 := Lib.hid hr1
  have H2 := Lib.hid hr2
  have H3 := Lib.hid hr3
  obtain ⟨V, hV⟩ : ∃ V, V = prodV (f1, f2) (g1, g2) := ⟨_, rfl⟩
  obtain ⟨C, hC⟩ : ∃ C, C = prodC (f1, f2) (g1, g2) := ⟨_, rfl⟩
  rw [← hV, ← hC]
  have HV := Lib.hid (show V = (r1 && r2 && r3) by rw [hV, prodV, hr1, hr2, hr3])
  have HC := Lib.hid (show C = if (r1 && r2 && r3) = true then (prodL g1.length f1 g1, prodL g1.length f2 g2) else ([], []) by rw [hC, prodC, ← hV, HV.out])
  clear hr1 hr2 hr3 hV hC
  go_enter Try.func73, Try.ntmps73
  go_wp2_with fail
  refine (isClsS_b _ _ _ _ (h.below bwT) hl _ H1.out).mono ?_
  rintro e w1 ⟨rfl, hb1⟩
  have hB1 : Below w.heap.size w w1 := Below.after bwT hb1 szT; have s1 := hb1.size; try simp only [World.size_alloc, World.size_setCell, World.size_drew] at s1
  have a0 : w1.cell? ⟨w.heap.size, 0, none⟩ = some (.slice ao f1.length cap) := oldc hb1 ltT (by simp [go_sem])
  have a1 : w1.cell? ⟨w.heap.size, 1, none⟩ = some (.slice bo n2 dap) := oldc hb1 ltT (by simp [go_sem])
  have b0 : w1.cell? ⟨w.heap.size + 1, 0, none⟩ = some (.slice co g1.length eap) := oldc hb1 ltT (by simp [go_sem])
  have b1 : w1.cell? ⟨w.heap.size + 1, 1, none⟩ = some (.slice eo m2 fap) := oldc hb1 ltT (by simp [go_sem])
  have r0 : w1.cell? ⟨w.heap.size + 1 + 1, 0, none⟩ = some (.slice none 0 0) := oldc hb1 ltT (by simp [go_sem])
  have r1' : w1.cell? ⟨w.heap.size + 1 + 1, 1, none⟩ = some (.slice none 0 0) := oldc hb1 ltT (by simp [go_sem])
  have l0 : w.heap.size < w1.heap.size := by omega
  have l1 : w.heap.size + 1 < w1.heap.size := by omega
  have l2 : w.heap.size + 1 + 1 < w1.heap.size := by omega
  have hf1 : ∀ o, w1.frozen? ⟨w.heap.size + 1 + 1, o, none⟩ = false := fun o => (hb1.frozen (p := ⟨w.heap.size + 1 + 1, o, none⟩) ltT).trans (by simp [go_sem])
  clear hb1
  cases r1
  · go_wp2
    exact bodyPost_ret (v := .tuple #[.agg #[.slice none 0 0, .slice none 0 0], .bool false]) (by simp [results, go_sem, r0, r1']) rfl ⟨_, _, (by rw [HV.out]; rfl), (by rw [HC.out]; exact Ow.nil2 _ _ _), bwT⟩
  go_wp2_with fail
  refine (isClsS_b _ _ _ _ (h'.below bwT) hl' _ H2.out).mono ?_
  rintro e w2 ⟨rfl, hb2⟩
  have hB2 : Below w.heap.size w w2 := hB1.trans (hb2.mono (by omega))
  have a0 := oldc hb2 l0 a0
  have a1 := oldc hb2 l0 a1
  have b0 := oldc hb2 l1 b0
  have b1 := oldc hb2 l1 b1
  have r0 := oldc hb2 l2 r0
  have r1' := oldc hb2 l2 r1'
  have s2 := hb2.size
  have hf2 : ∀ o, w2.frozen? ⟨w.heap.size + 1 + 1, o, none⟩ = false := fun o => (hb2.frozen (p := ⟨w.heap.size + 1 + 1, o, none⟩) l2).trans (hf1 o)
  have l0 : w.heap.size < w2.heap.size := by omega
  have l1 : w.heap.size + 1 < w2.heap.size := by omega
  have l2 : w.heap.size + 1 + 1 < w2.heap.size := by omega
  clear hb2 s1 hB1 hf1
  cases r2
  · go_wp2
    exact bodyPost_ret (v := .tuple #[.agg #[.slice none 0 0, .slice none 0 0], .bool false]) (by simp [results, go_sem, r0, r1']) rfl ⟨_, _, (by rw [HV.out]; rfl), (by rw [HC.out]; exact Ow.nil2 _ _ _), bwT⟩
  obtain ⟨k1, k2, k3, k4, k5, -, -⟩ := isCls_parts H1.out.symm
  obtain ⟨j1, j2, j3, j4, j5, -, -⟩ := isCls_parts H2.out.symm
  dsimp only at k1 k2 k3 k4 k5 j1 j2 j3 j4 j5
  have hle : f1.length * g1.length ≤ 64 := by have := Nat.mul_le_mul k2 j2; omega
  obtain ⟨N, hN⟩ : ∃ N, N = f1.length * g1.length := ⟨_, rfl⟩
  have hwc : ((f1.length * g1.length : Nat) : Int) = (f1.length : Int) * (g1.length : Int) := by push_cast; rfl
  have hw : IntKind.i64.wrap ((f1.length : Int) * (g1.length : Int)) = (N : Int) := by rw [hN, hwc]; exact IntWalk.i64_in _ (by omega)
  have hw' : wrap64 ((f1.length : Int) * (g1.length : Int)) = (N : Int) := (IntWalk.i64_left _).symm.trans hw
  clear hwc
  rw [← hN] at hle
  have HN := Lib.hid hN
  clear hN k4 k5 j4 j5
  by_cases hN8 : N ≤ 8
  · have hN9 : ¬ (8 : Int) < (N : Int) := by omega
    obtain rfl : r3 = true := by rw [H3.out, ← HN.out]; simp; omega
    have HS := Lib.hid (show SpecFact f1 f2 g1 g2 by
      exact ⟨(isCls_parts H1.out.symm).2.2.2.1, (isCls_parts H1.out.symm).2.2.2.2.1, (isCls_parts H2.out.symm).2.2.2.1, (isCls_parts H2.out.symm).2.2.2.2.1, k3, j3⟩)
    clear k3 j3 H1 H2 H3
    have y0 : w2.heap.size < w2.heap.size + 1 := Nat.lt_succ_self _
    have y1 : w.heap.size < w2.heap.size + 1 := by omega
    have y2 : w.heap.size + 1 < w2.heap.size + 1 := by omega
    go_wp2
    go_loopw [8, 9, 34, 39, 40] (fun _ _ s35 _ _ wr => ∃ i : Nat, i ≤ f1.length ∧ s35 = .int .i64 i ∧ Hid (Grows w2.heap.size w2 wr 3 (prodL g1.length (f1.take i) g1) (prodL g1.length (f2.take i) g2))) (fun _ _ s35 _ _ _ => f1.length - (intOf s35).toNat)
    case atStart => exact ⟨0, Nat.zero_le _, rfl, Lib.hid ⟨⟨_, _, by simp [go_sem], by simp [go_sem], GL.start _ _ _ _ _ _, GL.start _ _ _ _ _ _, fun g h => by cases h⟩, fun o => by simp [go_sem], by simp, bwT⟩⟩
    case round =>
      rename_i wr
      obtain ⟨i, hi, rfl, HG⟩ := hrel
      obtain ⟨⟨v1, v2, q1, q2, hG1, hG2, hne⟩, hfr, hGl, hBr⟩ := HG.out
      have hBw : Below w.heap.size w wr := hB2.trans (hBr.mono (by omega))
      have szr := hBr.size
      have a0' := a0
      have a1' := a1
      have b0' := b0
      have b1' := b1
      have a0 := oldc hBr l0 a0
      have a1 := oldc hBr l0 a1
      have b0 := oldc hBr l1 b0
      have b1 := oldc hBr l1 b1
      have r0 := oldc hBr l2 r0
      have r1' := oldc hBr l2 r1'
      have hfr2 : ∀ o, wr.frozen? ⟨w.heap.size + 1 + 1, o, none⟩ = false := fun o => (hBr.frozen (p := ⟨w.heap.size + 1 + 1, o, none⟩) l2).trans (hf2 o)
      by_cases hlt : i < f1.length
      · obtain ⟨s1, s2', s3, s4, s5, s6⟩ := HS.out
        obtain ⟨fb, foff, x, rfl, hx, hcx, hx1, hx2, _, _, hfw, _⟩ := (h.two rfl).1.int_at hlt
        obtain ⟨fb', foff', x', rfl, hx', hcx', hx1', hx2', _, _, hfw', _⟩ := (h.two rfl).2.int_at (show i < n2 by
          obtain ⟨_, _, _, e, e2, -⟩ := (h.two rfl).2.shape
          simp only [Value.slice.injEq] at e; dsimp only at e2; omega)
        dsimp only at hx hx'
        have hr1 := s1 x (List.mem_of_getElem? hx.out)
        have hr2 := s2' x' (List.mem_of_getElem? hx'.out)
        have hcx0 := oldc hB2 hfw hcx
        have hcx0' := oldc hB2 hfw' hcx'
        clear hcx hcx'
        clear s1 s2' s3 s4
        have HG' := Lib.hid (show Grows w2.heap.size w2 wr 3 (prodL g1.length (f1.take i) g1 ++ (g1.take 0).map fun y => x * g1.length + y) (prodL g1.length (f2.take i) g2 ++ (g2.take 0).map fun y => x' * g1.length + y) by simpa using HG.out)
        obtain ⟨m, hm⟩ : ∃ m, m = g1.length := ⟨_, rfl⟩
        have hm2 : m ≤ 8 := by omega
        have he2' : m2 = m := by
          obtain ⟨_, _, _, e, e2, -⟩ := (h'.two rfl).2.shape
          simp only [Value.slice.injEq] at e; dsimp only at e2; omega
        clear hG1 hG2 hne q1 q2 HG hfr v1 v2
        obtain ⟨wo, hwo⟩ : ∃ wo : World, wo = wr := ⟨_, rfl⟩
        subst hwo
        go_wp2
        go_loopw [9, 40] (fun _ s39 wq => ∃ j : Nat, j ≤ g1.length ∧ s39 = .int .i64 j ∧ Hid (Grows w2.heap.size w2 wq 3 (prodL g1.length (f1.take i) g1 ++ (g1.take j).map fun y => x * g1.length + y) (prodL g1.length (f2.take i) g2 ++ (g2.take j).map fun y => x' * g1.length + y))) (fun _ s39 _ => g1.length - (intOf s39).toNat)
        case atStart => exact ⟨0, Nat.zero_le _, rfl, HG'⟩
        case round =>
          obtain ⟨j, hj, rfl, HQ⟩ := hrel
          clear HG'
          obtain ⟨⟨v1, v2, q1, q2, hG1, hG2, hne⟩, hfrq, hGlq, hBq⟩ := HQ.out
          have hBqw : Below w.heap.size w wr := hB2.trans (hBq.mono (by omega))
          have szq := hBq.size
          have a0 := oldc hBq l0 a0'
          have b0 := oldc hBq l1 b0'
          have hcx := oldc hBq (by omega) hcx0
          clear a0' b0' hcx0
          by_cases hlj : j < g1.length
          · obtain ⟨_, _, s3, s4, s5, s6⟩ := HS.out
            obtain ⟨gb, goff, y, rfl, hy, hcy, hy1, hy2, _, _, hgw, _⟩ := (h'.two rfl).1.int_at hlj
            obtain ⟨gb', goff', y', rfl, hy', hcy', hy1', hy2', _, _, hgw', _⟩ := (h'.two rfl).2.int_at (show j < m2 by omega)
            dsimp only at hy hy'
            have hs1 := s3 y (List.mem_of_getElem? hy.out)
            have hs2 := s4 y' (List.mem_of_getElem? hy'.out)
            have hcy := oldc hBq (by omega) (oldc hB2 hgw hcy)
            have hcy0' := oldc hB2 hgw' hcy'
            clear hcy'
            obtain ⟨P1, hP1⟩ : ∃ P, P = x * (g1.length : Int) := ⟨_, rfl⟩
            obtain ⟨P2, hP2⟩ : ∃ P, P = x' * (g1.length : Int) := ⟨_, rfl⟩
            have hb1 : 0 ≤ P1 ∧ P1 ≤ 64 := by
              rw [hP1]; exact ⟨Int.mul_nonneg hr1.1 (by omega), Int.le_trans (Int.mul_le_mul (show x ≤ 8 by omega) (show (g1.length : Int) ≤ 8 by omega) (by omega) (by omega)) (by omega)⟩
            have hb2 : 0 ≤ P2 ∧ P2 ≤ 64 := by
              rw [hP2]; exact ⟨Int.mul_nonneg hr2.1 (by omega), Int.le_trans (Int.mul_le_mul (show x' ≤ 8 by omega) (show (g1.length : Int) ≤ 8 by omega) (by omega) (by omega)) (by omega)⟩
            obtain ⟨L1, hL1⟩ : ∃ L, L = prodL g1.length (f1.take i) g1 ++ (g1.take j).map fun y => x * g1.length + y := ⟨_, rfl⟩
            obtain ⟨L2, hL2⟩ : ∃ L, L = prodL g1.length (f2.take i) g2 ++ (g2.take j).map fun y => x' * g1.length + y := ⟨_, rfl⟩
            have hN1 : L1.length ≤ 128 := by
              have h1 : (f1.take i).length * g1.length ≤ 8 * 8 := Nat.mul_le_mul (by simp; omega) j2
              rw [hL1, List.length_append, prodL_len, List.length_map, List.length_take (l := g1)]; omega
            have hN2 : L2.length ≤ 128 := by
              have h1 : (f2.take i).length * g2.length ≤ 8 * 8 := Nat.mul_le_mul (by simp; omega) (by omega)
              rw [hL2, List.length_append, prodL_len, List.length_map, List.length_take (l := g2)]; omega
            have HL1 := Lib.hid (show L1 ++ [P1 + y] = prodL g1.length (f1.take i) g1 ++ (g1.take (j + 1)).map fun y => x * g1.length + y by rw [hL1, take_snoc hy.out, hP1]; simp)
            have HL2 := Lib.hid (show L2 ++ [P2 + y'] = prodL g1.length (f2.take i) g2 ++ (g2.take (j + 1)).map fun y => x' * g1.length + y by rw [hL2, take_snoc hy'.out, hP2]; simp)
            rw [← hL1] at hG1
            rw [← hL2] at hG2
            have hw1 : wrap64 (x * (g1.length : Int)) = P1 := by rw [← hP1]; exact IntWalk.wrap64_in _ (by omega)
            have hw2 : wrap64 (P1 + y) = P1 + y := IntWalk.wrap64_in _ (by omega)
            have hw3 : wrap64 (x' * (g1.length : Int)) = P2 := by rw [← hP2]; exact IntWalk.wrap64_in _ (by omega)
            have hw4 : wrap64 (P2 + y') = P2 + y' := IntWalk.wrap64_in _ (by omega)
            have hx1w : IntKind.i64.wrap (x * (g1.length : Int)) = P1 := (IntWalk.i64_left _).trans hw1
            have hx2w : IntKind.i64.wrap (P1 + y) = P1 + y := (IntWalk.i64_left _).trans hw2
            have hx3w : IntKind.i64.wrap (x' * (g1.length : Int)) = P2 := (IntWalk.i64_left _).trans hw3
            have hx4w : IntKind.i64.wrap (P2 + y') = P2 + y' := (IntWalk.i64_left _).trans hw4
            have z1 : fb < w2.heap.size + 1 := by omega
            have z2 : fb' < w2.heap.size + 1 := by omega
            have z3 : gb < w2.heap.size + 1 := by omega
            have z4 : gb' < w2.heap.size + 1 := by omega
            have x0a : ¬ w.heap.size = w2.heap.size := by omega
            have x0b : ¬ w2.heap.size = w.heap.size := by omega
            have x1a : ¬ w.heap.size + 1 = w2.heap.size := by omega
            have x1b : ¬ w2.heap.size = w.heap.size + 1 := by omega
            have x2a : ¬ fb = w2.heap.size := by omega
            have x2b : ¬ w2.heap.size = fb := by omega
            have x3a : ¬ fb' = w2.heap.size := by omega
            have x3b : ¬ w2.heap.size = fb' := by omega
            have x4a : ¬ gb = w2.heap.size := by omega
            have x4b : ¬ w2.heap.size = gb := by omega
            have x5a : ¬ gb' = w2.heap.size := by omega
            have x5b : ¬ w2.heap.size = gb' := by omega
            have he1 : I64 (P1 + y) := ⟨by omega, by omega⟩
            have he2 : I64 (P2 + y') := ⟨by omega, by omega⟩
            have hiI : (i : Int) < f1.length := by omega
            have hjI : (j : Int) < g1.length := by omega
            have hn2 : n2 = f1.length := by
              obtain ⟨_, _, _, e, e2, -⟩ := (h.two rfl).2.shape
              simp only [Value.slice.injEq] at e; dsimp only at e2; omega
            have hm2' : m2 = g1.length := by omega
            subst hn2 hm2'
            clear he2' hm hm2 HQ hL1 hL2 hP1 hP2 hx hx' hy hy' s3 s4 s5 s6
            go_upto_region 11 with fail
            go_cut [9] (fun s9 wx => s9 = .int .i64 j ∧ Hid (Grows w2.heap.size w2 wx 3 (L1 ++ [P1 + y]) L2))
            case first =>
              refine wp_region_held_drew (S := (fun w' => w'.cell? ⟨w.heap.size, 0, none⟩ = some (.slice (some ⟨fb, foff, none⟩) f1.length cap) ∧ w'.cell? ⟨fb, foff + i, none⟩ = some (.int .i64 x) ∧ w'.cell? ⟨w.heap.size + 1, 0, none⟩ = some (.slice (some ⟨gb, goff, none⟩) g1.length eap) ∧ w'.cell? ⟨gb, goff + j, none⟩ = some (.int .i64 y))) (by kernel_rfl) ?_ (fun hHeld => ?_)
              · (try dsimp only); go_keep
              refine wpAnyH_take (i := 0) (oi := _) (v := ?_) rfl (by kernel_rfl) (by kernel_rfl) (by kernel_rfl) (fun _ _ _ h => h) (Or.inl ⟨by rfl, ?_⟩) (by assumption) ?_
              rotate_left
              · intro w hSw; (try dsimp only at hSw); go_simp <;> with_reducible rfl
              try simp only [Act.put, List.setIfInBounds_toArray, List.set_cons_zero, List.set_cons_succ]
              refine wpAnyH_take (i := 2) (oi := _) (v := ?_) rfl (by kernel_rfl) (by kernel_rfl) (by kernel_rfl) (fun _ _ _ h => h) (Or.inl ⟨by rfl, ?_⟩) (by assumption) ?_
              rotate_left
              · intro w hSw; (try dsimp only at hSw); go_simp <;> with_reducible rfl
              try simp only [Act.put, List.setIfInBounds_toArray, List.set_cons_zero, List.set_cons_succ]
              refine wpAnyH_take (i := 3) (oi := _) (v := ?_) rfl (by kernel_rfl) (by kernel_rfl) (by kernel_rfl) (fun _ _ _ h => h) (Or.inl ⟨by rfl, ?_⟩) (by assumption) ?_
              rotate_left
              · intro w hSw; (try dsimp only at hSw); go_simp <;> with_reducible rfl
              try simp only [Act.put, List.setIfInBounds_toArray, List.set_cons_zero, List.set_cons_succ]
              refine wpAnyH_take (i := 4) (oi := _) (v := ?_) rfl (by kernel_rfl) (by kernel_rfl) (by kernel_rfl) (fun _ _ _ h => h) (Or.inl ⟨by rfl, ?_⟩) (by assumption) ?_
              rotate_left
              · intro w hSw; (try dsimp only at hSw); go_simp <;> with_reducible rfl
              try simp only [Act.put, List.setIfInBounds_toArray, List.set_cons_zero, List.set_cons_succ]
              refine wpAnyH_take (i := 5) (oi := _) (v := ?_) rfl (by kernel_rfl) (by kernel_rfl) (by kernel_rfl) (fun _ _ _ h => h) (Or.inl ⟨by rfl, ?_⟩) (by assumption) ?_
              rotate_left
              · intro w hSw; (try dsimp only at hSw); go_simp <;> with_reducible rfl
              try simp only [Act.put, List.setIfInBounds_toArray, List.set_cons_zero, List.set_cons_succ]
              refine wpAnyH_take (i := 6) (oi := _) (v := ?_) rfl (by kernel_rfl) (by kernel_rfl) (by kernel_rfl) (fun _ _ _ h => h) (Or.inl ⟨by rfl, ?_⟩) (by assumption) ?_
              rotate_left
              · intro w hSw; (try dsimp only at hSw); go_simp <;> with_reducible rfl
              try simp only [Act.put, List.setIfInBounds_toArray, List.set_cons_zero, List.set_cons_succ]
              refine wpAnyH_take (i := 7) (oi := _) (v := ?_) rfl (by kernel_rfl) (by kernel_rfl) (by kernel_rfl) (fun _ _ _ h => h) (Or.inl ⟨by rfl, ?_⟩) (by assumption) ?_
              rotate_left
              · intro w hSw; (try dsimp only at hSw); go_simp <;> with_reducible rfl
              try simp only [Act.put, List.setIfInBounds_toArray, List.set_cons_zero, List.set_cons_succ]
              refine wpAnyH_take (i := 8) (oi := _) (v := ?_) rfl (by kernel_rfl) (by kernel_rfl) (by kernel_rfl) (fun _ _ _ h => h) (Or.inl ⟨by rfl, ?_⟩) (by assumption) ?_
              rotate_left
              · intro w hSw; (try dsimp only at hSw); go_simp <;> with_reducible rfl
              try simp only [Act.put, List.setIfInBounds_toArray, List.set_cons_zero, List.set_cons_succ]
              refine wpAnyH_take (i := 9) (oi := _) (v := ?_) rfl (by kernel_rfl) (by kernel_rfl) (by kernel_rfl) (fun _ _ _ h => h) (Or.inl ⟨by rfl, ?_⟩) (by assumption) ?_
              rotate_left
              · intro w hSw; (try dsimp only at hSw); go_simp <;> with_reducible rfl
              try simp only [Act.put, List.setIfInBounds_toArray, List.set_cons_zero, List.set_cons_succ]
              refine wpAnyH_take (i := 10) (oi := _) (v := ?_) rfl (by kernel_rfl) (by kernel_rfl) (by kernel_rfl) (fun _ _ _ h => h) (Or.inl ⟨by rfl, ?_⟩) (by assumption) ?_
              rotate_left
              · intro w hSw; (try dsimp only at hSw); go_simp <;> with_reducible rfl
              try simp only [Act.put, List.setIfInBounds_toArray, List.set_cons_zero, List.set_cons_succ]
              refine wpAnyH_take (i := 11) (oi := _) (v := ?_) rfl (by kernel_rfl) (by kernel_rfl) (by kernel_rfl) (fun _ _ _ h => h) (Or.inl ⟨by rfl, ?_⟩) (by assumption) ?_
              rotate_left
              · intro w hSw; (try dsimp only at hSw); go_simp <;> with_reducible rfl
              try simp only [Act.put, List.setIfInBounds_toArray, List.set_cons_zero, List.set_cons_succ]
              refine wpAnyH_take (i := 12) (oi := _) (v := ?_) rfl (by kernel_rfl) (by kernel_rfl) (by kernel_rfl) (fun _ _ _ h => h) (Or.inl ⟨by rfl, ?_⟩) (by assumption) ?_
              rotate_left
              · intro w hSw; (try dsimp only at hSw); go_simp <;> with_reducible rfl
              try simp only [Act.put, List.setIfInBounds_toArray, List.set_cons_zero, List.set_cons_succ]
              refine wpAnyH_take (i := 13) (oi := _) (v := ?_) rfl (by kernel_rfl) (by kernel_rfl) (by kernel_rfl) (fun _ _ _ h => h) (Or.inl ⟨by rfl, ?_⟩) (by assumption) ?_
              rotate_left
              · intro w hSw; (try dsimp only at hSw); go_simp <;> with_reducible rfl
              try simp only [Act.put, List.setIfInBounds_toArray, List.set_cons_zero, List.set_cons_succ]
              refine wpAnyH_take (i := 14) (oi := _) (v := ?_) rfl (by kernel_rfl) (by kernel_rfl) (by kernel_rfl) (fun _ _ _ h => h) (Or.inl ⟨by rfl, ?_⟩) (by assumption) ?_
              rotate_left
              · intro w hSw; (try dsimp only at hSw); go_simp <;> with_reducible rfl
              try simp only [Act.put, List.setIfInBounds_toArray, List.set_cons_zero, List.set_cons_succ]
              refine wpAnyH_ready (rs := [1, 15]) (by kernel_rfl) (by simp) ?_
              refine AllReadyH.cons (o := _) rfl (fun K hK => ?_) ?_
              · go_simp
                refine hK.out _ _ ?_ (fun hHeld => ?_)
                · (try dsimp only); go_keep
                clear hK K
                try simp only [Act.put, List.setIfInBounds_toArray, List.set_cons_zero, List.set_cons_succ]
                refine wpAnyH_ready (rs := [15]) (by kernel_rfl) (by simp) ?_
                refine AllReadyH.cons (o := _) rfl (fun K hK => ?_) ?_
                · go_simp
                  refine hK.out _ _ ?_ (fun hHeld => ?_)
                  · (try dsimp only); go_keep
                  clear hK K
                  try simp only [Act.put, List.setIfInBounds_toArray, List.set_cons_zero, List.set_cons_succ]
                  refine wpAnyH_ready (rs := [16]) (by kernel_rfl) (by simp) ?_
                  refine AllReadyH.cons (o := _) rfl (fun K hK => ?_) ?_
                  · refine step_push rfl rfl slInt (by show (0 : Nat) < 1; omega) (hG1.below bwT) (by simp [Act.eval, Act.put]) (ad := ⟨wr.heap.size, 0, none⟩) (c := 1) (by simp [Act.eval, Act.put]) (cs := [.int .i64 (P1 + y)]) (y := P1 + y) (lx := wr.heap.size) (hx' := wr.heap.size) (laid1 (by simp [go_sem])) (It.flat (z := true) (w0 := wr) (fp := []) ⟨rfl, he1, rfl⟩) (by omega) (.inl (Nat.le_refl _)) (by unfold maxLen; omega) (by omega) (by simp; omega) rfl rfl ?_
                    rintro gA cA w5 hG5 hg5 hat5 hlg5 hgw5 hb5
                    obtain ⟨hc5, hf5⟩ := bcell hb5
                    refine hK.out _ _ ?_ (fun hHeld => ?_)
                    · (try dsimp only); go_keep
                    clear hK K
                    try simp only [Act.put, List.setIfInBounds_toArray, List.set_cons_zero, List.set_cons_succ]
                    refine wpAnyH_take (i := 17) (oi := _) (v := ?_) rfl (by kernel_rfl) (by kernel_rfl) (by kernel_rfl) (fun _ _ _ h => h) (Or.inl ⟨by rfl, ?_⟩) (by assumption) ?_
                    rotate_left
                    · intro w hSw; (try dsimp only at hSw); go_simp <;> with_reducible rfl
                    try simp only [Act.put, List.setIfInBounds_toArray, List.set_cons_zero, List.set_cons_succ]
                    refine wpAnyH_ready (rs := [18]) (by kernel_rfl) (by simp) ?_
                    refine AllReadyH.cons (o := _) rfl (fun K hK => ?_) ?_
                    · go_simp
                      refine hK.out _ _ ?_ (fun hHeld => ?_)
                      · (try dsimp only); go_keep
                      clear hK K
                      try simp only [Act.put, List.setIfInBounds_toArray, List.set_cons_zero, List.set_cons_succ]
                      refine wpAnyH_done (by kernel_rfl) ?_ _
                      go_wp2_with fail
                      go_meet
                      exact ⟨rfl, Lib.hid (Grows.mk1 (u := v1) bwT (by simp [go_sem, q1, hGlq]) (by simp [go_sem, q2, hGlq]) (fun o => by simp [go_sem, hfrq, hGlq]) (by simp; omega) (hG2.below bwT).top hne hG5 hg5 hat5 hb5)⟩
                    exact AllReadyH.nil
                  exact AllReadyH.nil
                exact AllReadyH.nil
              refine AllReadyH.cons (o := _) rfl (fun K hK => ?_) ?_
              · go_simp
                refine hK.out _ _ ?_ (fun hHeld => ?_)
                · (try dsimp only); go_keep
                clear hK K
                try simp only [Act.put, List.setIfInBounds_toArray, List.set_cons_zero, List.set_cons_succ]
                refine wpAnyH_ready (rs := [1]) (by kernel_rfl) (by simp) ?_
                refine AllReadyH.cons (o := _) rfl (fun K hK => ?_) ?_
                · go_simp
                  refine hK.out _ _ ?_ (fun hHeld => ?_)
                  · (try dsimp only); go_keep
                  clear hK K
                  try simp only [Act.put, List.setIfInBounds_toArray, List.set_cons_zero, List.set_cons_succ]
                  refine wpAnyH_ready (rs := [16]) (by kernel_rfl) (by simp) ?_
                  refine AllReadyH.cons (o := _) rfl (fun K hK => ?_) ?_
                  · refine step_push rfl rfl slInt (by show (0 : Nat) < 1; omega) (hG1.below bwT) (by simp [Act.eval, Act.put]) (ad := ⟨wr.heap.size, 0, none⟩) (c := 1) (by simp [Act.eval, Act.put]) (cs := [.int .i64 (P1 + y)]) (y := P1 + y) (lx := wr.heap.size) (hx' := wr.heap.size) (laid1 (by simp [go_sem])) (It.flat (z := true) (w0 := wr) (fp := []) ⟨rfl, he1, rfl⟩) (by omega) (.inl (Nat.le_refl _)) (by unfold maxLen; omega) (by omega) (by simp; omega) rfl rfl ?_
                    rintro gA cA w5 hG5 hg5 hat5 hlg5 hgw5 hb5
                    obtain ⟨hc5, hf5⟩ := bcell hb5
                    refine hK.out _ _ ?_ (fun hHeld => ?_)
                    · (try dsimp only); go_keep
                    clear hK K
                    try simp only [Act.put, List.setIfInBounds_toArray, List.set_cons_zero, List.set_cons_succ]
                    refine wpAnyH_take (i := 17) (oi := _) (v := ?_) rfl (by kernel_rfl) (by kernel_rfl) (by kernel_rfl) (fun _ _ _ h => h) (Or.inl ⟨by rfl, ?_⟩) (by assumption) ?_
                    rotate_left
                    · intro w hSw; (try dsimp only at hSw); go_simp <;> with_reducible rfl
                    try simp only [Act.put, List.setIfInBounds_toArray, List.set_cons_zero, List.set_cons_succ]
                    refine wpAnyH_ready (rs := [18]) (by kernel_rfl) (by simp) ?_
                    refine AllReadyH.cons (o := _) rfl (fun K hK => ?_) ?_
                    · go_simp
                      refine hK.out _ _ ?_ (fun hHeld => ?_)
                      · (try dsimp only); go_keep
                      clear hK K
                      try simp only [Act.put, List.setIfInBounds_toArray, List.set_cons_zero, List.set_cons_succ]
                      refine wpAnyH_done (by kernel_rfl) ?_ _
                      go_wp2_with fail
                      go_meet
                      exact ⟨rfl, Lib.hid (Grows.mk1 (u := v1) bwT (by simp [go_sem, q1, hGlq]) (by simp [go_sem, q2, hGlq]) (fun o => by simp [go_sem, hfrq, hGlq]) (by simp; omega) (hG2.below bwT).top hne hG5 hg5 hat5 hb5)⟩
                    exact AllReadyH.nil
                  exact AllReadyH.nil
                exact AllReadyH.nil
              exact AllReadyH.nil
            case rest =>
              obtain ⟨rfl, HM⟩ := hcut
              clear hG1 hG2 hne q1 q2 hfrq v1 v2 hw1 hw2 hx1w hx2w
              obtain ⟨⟨v1, v2, q1, q2, hG1, hG2, hne⟩, hfrc, hGlc, hBc⟩ := HM.out
              have szc := hBc.size
              have hBcw : Below w.heap.size w wc := hB2.trans (hBc.mono (by omega))
              have a1 := oldc hBc l0 a1'
              have b1 := oldc hBc l1 b1'
              have hcx' := oldc hBc (by omega) hcx0'
              have hcy' := oldc hBc (by omega) hcy0'
              clear a1' b1' hcx0' hcy0' a0 b0 hcx hcy
              go_upto_region 12 with fail
              refine wp_region_held_drew (S := (fun w' => w'.cell? ⟨w.heap.size, 1, none⟩ = some (.slice (some ⟨fb', foff', none⟩) f1.length dap) ∧ w'.cell? ⟨fb', foff' + i, none⟩ = some (.int .i64 x') ∧ w'.cell? ⟨w.heap.size + 1, 1, none⟩ = some (.slice (some ⟨gb', goff', none⟩) g1.length fap) ∧ w'.cell? ⟨gb', goff' + j, none⟩ = some (.int .i64 y'))) (by kernel_rfl) ?_ (fun hHeld => ?_)
              · (try dsimp only); go_keep
              refine wpAnyH_take (i := 0) (oi := _) (v := ?_) rfl (by kernel_rfl) (by kernel_rfl) (by kernel_rfl) (fun _ _ _ h => h) (Or.inl ⟨by rfl, ?_⟩) (by assumption) ?_
              rotate_left
              · intro w hSw; (try dsimp only at hSw); go_simp <;> with_reducible rfl
              try simp only [Act.put, List.setIfInBounds_toArray, List.set_cons_zero, List.set_cons_succ]
              refine wpAnyH_take (i := 2) (oi := _) (v := ?_) rfl (by kernel_rfl) (by kernel_rfl) (by kernel_rfl) (fun _ _ _ h => h) (Or.inl ⟨by rfl, ?_⟩) (by assumption) ?_
              rotate_left
              · intro w hSw; (try dsimp only at hSw); go_simp <;> with_reducible rfl
              try simp only [Act.put, List.setIfInBounds_toArray, List.set_cons_zero, List.set_cons_succ]
              refine wpAnyH_take (i := 3) (oi := _) (v := ?_) rfl (by kernel_rfl) (by kernel_rfl) (by kernel_rfl) (fun _ _ _ h => h) (Or.inl ⟨by rfl, ?_⟩) (by assumption) ?_
              rotate_left
              · intro w hSw; (try dsimp only at hSw); go_simp <;> with_reducible rfl
              try simp only [Act.put, List.setIfInBounds_toArray, List.set_cons_zero, List.set_cons_succ]
              refine wpAnyH_take (i := 4) (oi := _) (v := ?_) rfl (by kernel_rfl) (by kernel_rfl) (by kernel_rfl) (fun _ _ _ h => h) (Or.inl ⟨by rfl, ?_⟩) (by assumption) ?_
              rotate_left
              · intro w hSw; (try dsimp only at hSw); go_simp <;> with_reducible rfl
              try simp only [Act.put, List.setIfInBounds_toArray, List.set_cons_zero, List.set_cons_succ]
              refine wpAnyH_take (i := 5) (oi := _) (v := ?_) rfl (by kernel_rfl) (by kernel_rfl) (by kernel_rfl) (fun _ _ _ h => h) (Or.inl ⟨by rfl, ?_⟩) (by assumption) ?_
              rotate_left
              · intro w hSw; (try dsimp only at hSw); go_simp <;> with_reducible rfl
              try simp only [Act.put, List.setIfInBounds_toArray, List.set_cons_zero, List.set_cons_succ]
              refine wpAnyH_take (i := 6) (oi := _) (v := ?_) rfl (by kernel_rfl) (by kernel_rfl) (by kernel_rfl) (fun _ _ _ h => h) (Or.inl ⟨by rfl, ?_⟩) (by assumption) ?_
              rotate_left
              · intro w hSw; (try dsimp only at hSw); go_simp <;> with_reducible rfl
              try simp only [Act.put, List.setIfInBounds_toArray, List.set_cons_zero, List.set_cons_succ]
              refine wpAnyH_take (i := 7) (oi := _) (v := ?_) rfl (by kernel_rfl) (by kernel_rfl) (by kernel_rfl) (fun _ _ _ h => h) (Or.inl ⟨by rfl, ?_⟩) (by assumption) ?_
              rotate_left
              · intro w hSw; (try dsimp only at hSw); go_simp <;> with_reducible rfl
              try simp only [Act.put, List.setIfInBounds_toArray, List.set_cons_zero, List.set_cons_succ]
              refine wpAnyH_take (i := 8) (oi := _) (v := ?_) rfl (by kernel_rfl) (by kernel_rfl) (by kernel_rfl) (fun _ _ _ h => h) (Or.inl ⟨by rfl, ?_⟩) (by assumption) ?_
              rotate_left
              · intro w hSw; (try dsimp only at hSw); go_simp <;> with_reducible rfl
              try simp only [Act.put, List.setIfInBounds_toArray, List.set_cons_zero, List.set_cons_succ]
              refine wpAnyH_take (i := 9) (oi := _) (v := ?_) rfl (by kernel_rfl) (by kernel_rfl) (by kernel_rfl) (fun _ _ _ h => h) (Or.inl ⟨by rfl, ?_⟩) (by assumption) ?_
              rotate_left
              · intro w hSw; (try dsimp only at hSw); go_simp <;> with_reducible rfl
              try simp only [Act.put, List.setIfInBounds_toArray, List.set_cons_zero, List.set_cons_succ]
              refine wpAnyH_take (i := 10) (oi := _) (v := ?_) rfl (by kernel_rfl) (by kernel_rfl) (by kernel_rfl) (fun _ _ _ h => h) (Or.inl ⟨by rfl, ?_⟩) (by assumption) ?_
              rotate_left
              · intro w hSw; (try dsimp only at hSw); go_simp <;> with_reducible rfl
              try simp only [Act.put, List.setIfInBounds_toArray, List.set_cons_zero, List.set_cons_succ]
              refine wpAnyH_take (i := 11) (oi := _) (v := ?_) rfl (by kernel_rfl) (by kernel_rfl) (by kernel_rfl) (fun _ _ _ h => h) (Or.inl ⟨by rfl, ?_⟩) (by assumption) ?_
              rotate_left
              · intro w hSw; (try dsimp only at hSw); go_simp <;> with_reducible rfl
              try simp only [Act.put, List.setIfInBounds_toArray, List.set_cons_zero, List.set_cons_succ]
              refine wpAnyH_take (i := 12) (oi := _) (v := ?_) rfl (by kernel_rfl) (by kernel_rfl) (by kernel_rfl) (fun _ _ _ h => h) (Or.inl ⟨by rfl, ?_⟩) (by assumption) ?_
              rotate_left
              · intro w hSw; (try dsimp only at hSw); go_simp <;> with_reducible rfl
              try simp only [Act.put, List.setIfInBounds_toArray, List.set_cons_zero, List.set_cons_succ]
              refine wpAnyH_take (i := 13) (oi := _) (v := ?_) rfl (by kernel_rfl) (by kernel_rfl) (by kernel_rfl) (fun _ _ _ h => h) (Or.inl ⟨by rfl, ?_⟩) (by assumption) ?_
              rotate_left
              · intro w hSw; (try dsimp only at hSw); go_simp <;> with_reducible rfl
              try simp only [Act.put, List.setIfInBounds_toArray, List.set_cons_zero, List.set_cons_succ]
              refine wpAnyH_take (i := 14) (oi := _) (v := ?_) rfl (by kernel_rfl) (by kernel_rfl) (by kernel_rfl) (fun _ _ _ h => h) (Or.inl ⟨by rfl, ?_⟩) (by assumption) ?_
              rotate_left
              · intro w hSw; (try dsimp only at hSw); go_simp <;> with_reducible rfl
              try simp only [Act.put, List.setIfInBounds_toArray, List.set_cons_zero, List.set_cons_succ]
              refine wpAnyH_ready (rs := [1, 15]) (by kernel_rfl) (by simp) ?_
              refine AllReadyH.cons (o := _) rfl (fun K hK => ?_) ?_
              · go_simp
                refine hK.out _ _ ?_ (fun hHeld => ?_)
                · (try dsimp only); go_keep
                clear hK K
                try simp only [Act.put, List.setIfInBounds_toArray, List.set_cons_zero, List.set_cons_succ]
                refine wpAnyH_ready (rs := [15]) (by kernel_rfl) (by simp) ?_
                refine AllReadyH.cons (o := _) rfl (fun K hK => ?_) ?_
                · go_simp
                  refine hK.out _ _ ?_ (fun hHeld => ?_)
                  · (try dsimp only); go_keep
                  clear hK K
                  try simp only [Act.put, List.setIfInBounds_toArray, List.set_cons_zero, List.set_cons_succ]
                  refine wpAnyH_ready (rs := [16]) (by kernel_rfl) (by simp) ?_
                  refine AllReadyH.cons (o := _) rfl (fun K hK => ?_) ?_
                  · refine step_push rfl rfl slInt (by show (0 : Nat) < 1; omega) (hG2.below bwT) (by simp [Act.eval, Act.put]) (ad := ⟨wc.heap.size, 0, none⟩) (c := 1) (by simp [Act.eval, Act.put]) (cs := [.int .i64 (P2 + y')]) (y := P2 + y') (lx := wc.heap.size) (hx' := wc.heap.size) (laid1 (by simp [go_sem])) (It.flat (z := true) (w0 := wc) (fp := []) ⟨rfl, he2, rfl⟩) (by omega) (.inl (Nat.le_refl _)) (by unfold maxLen; omega) (by omega) (by simp; omega) rfl rfl ?_
                    rintro gA cA w5 hG5 hg5 hat5 hlg5 hgw5 hb5
                    obtain ⟨hc5, hf5⟩ := bcell hb5
                    refine hK.out _ _ ?_ (fun hHeld => ?_)
                    · (try dsimp only); go_keep
                    clear hK K
                    try simp only [Act.put, List.setIfInBounds_toArray, List.set_cons_zero, List.set_cons_succ]
                    refine wpAnyH_take (i := 17) (oi := _) (v := ?_) rfl (by kernel_rfl) (by kernel_rfl) (by kernel_rfl) (fun _ _ _ h => h) (Or.inl ⟨by rfl, ?_⟩) (by assumption) ?_
                    rotate_left
                    · intro w hSw; (try dsimp only at hSw); go_simp <;> with_reducible rfl
                    try simp only [Act.put, List.setIfInBounds_toArray, List.set_cons_zero, List.set_cons_succ]
                    refine wpAnyH_ready (rs := [18]) (by kernel_rfl) (by simp) ?_
                    refine AllReadyH.cons (o := _) rfl (fun K hK => ?_) ?_
                    · go_simp
                      refine hK.out _ _ ?_ (fun hHeld => ?_)
                      · (try dsimp only); go_keep
                      clear hK K
                      try simp only [Act.put, List.setIfInBounds_toArray, List.set_cons_zero, List.set_cons_succ]
                      refine wpAnyH_done (by kernel_rfl) ?_ _
                      have HM3 := Lib.hid (show Grows w2.heap.size w2 (w5.setCell ⟨w2.heap.size, 1, none⟩ (.slice (some ⟨gA, 0, none⟩) (L2.length + 1) cA)) 3 (prodL g1.length (f1.take i) g1 ++ (g1.take (j + 1)).map fun y => x * g1.length + y) (prodL g1.length (f2.take i) g2 ++ (g2.take (j + 1)).map fun y => x' * g1.length + y) by
                        rw [← HL1.out, ← HL2.out]
                        exact Grows.mk2 (u := v2) bwT (by simp [go_sem, q2, hGlc]) (by simp [go_sem, q1, hGlc]) (fun o => by simp [go_sem, hfrc, hGlc]) (by simp; omega) (hG1.below bwT).top hne hG5 hg5 hat5 hb5)
                      clear hG1 hG2 hne q1 q2 hfrc hw3 hw4 hx3w hx4w HM hG5 hg5 hat5 hb5 hc5 hf5 a1 b1 hcx' hcy'
                      go_wp2
                      go_roundw
                      case rel => exact ⟨j + 1, by omega, by go_num, HM3⟩
                      case measure => simp [intOf]; omega
                    exact AllReadyH.nil
                  exact AllReadyH.nil
                exact AllReadyH.nil
              refine AllReadyH.cons (o := _) rfl (fun K hK => ?_) ?_
              · go_simp
                refine hK.out _ _ ?_ (fun hHeld => ?_)
                · (try dsimp only); go_keep
                clear hK K
                try simp only [Act.put, List.setIfInBounds_toArray, List.set_cons_zero, List.set_cons_succ]
                refine wpAnyH_ready (rs := [1]) (by kernel_rfl) (by simp) ?_
                refine AllReadyH.cons (o := _) rfl (fun K hK => ?_) ?_
                · go_simp
                  refine hK.out _ _ ?_ (fun hHeld => ?_)
                  · (try dsimp only); go_keep
                  clear hK K
                  try simp only [Act.put, List.setIfInBounds_toArray, List.set_cons_zero, List.set_cons_succ]
                  refine wpAnyH_ready (rs := [16]) (by kernel_rfl) (by simp) ?_
                  refine AllReadyH.cons (o := _) rfl (fun K hK => ?_) ?_
                  · refine step_push rfl rfl slInt (by show (0 : Nat) < 1; omega) (hG2.below bwT) (by simp [Act.eval, Act.put]) (ad := ⟨wc.heap.size, 0, none⟩) (c := 1) (by simp [Act.eval, Act.put]) (cs := [.int .i64 (P2 + y')]) (y := P2 + y') (lx := wc.heap.size) (hx' := wc.heap.size) (laid1 (by simp [go_sem])) (It.flat (z := true) (w0 := wc) (fp := []) ⟨rfl, he2, rfl⟩) (by omega) (.inl (Nat.le_refl _)) (by unfold maxLen; omega) (by omega) (by simp; omega) rfl rfl ?_
                    rintro gA cA w5 hG5 hg5 hat5 hlg5 hgw5 hb5
                    obtain ⟨hc5, hf5⟩ := bcell hb5
                    refine hK.out _ _ ?_ (fun hHeld => ?_)
                    · (try dsimp only); go_keep
                    clear hK K
                    try simp only [Act.put, List.setIfInBounds_toArray, List.set_cons_zero, List.set_cons_succ]
                    refine wpAnyH_take (i := 17) (oi := _) (v := ?_) rfl (by kernel_rfl) (by kernel_rfl) (by kernel_rfl) (fun _ _ _ h => h) (Or.inl ⟨by rfl, ?_⟩) (by assumption) ?_
                    rotate_left
                    · intro w hSw; (try dsimp only at hSw); go_simp <;> with_reducible rfl
                    try simp only [Act.put, List.setIfInBounds_toArray, List.set_cons_zero, List.set_cons_succ]
                    refine wpAnyH_ready (rs := [18]) (by kernel_rfl) (by simp) ?_
                    refine AllReadyH.cons (o := _) rfl (fun K hK => ?_) ?_
                    · go_simp
                      refine hK.out _ _ ?_ (fun hHeld => ?_)
                      · (try dsimp only); go_keep
                      clear hK K
                      try simp only [Act.put, List.setIfInBounds_toArray, List.set_cons_zero, List.set_cons_succ]
                      refine wpAnyH_done (by kernel_rfl) ?_ _
                      have HM3 := Lib.hid (show Grows w2.heap.size w2 (w5.setCell ⟨w2.heap.size, 1, none⟩ (.slice (some ⟨gA, 0, none⟩) (L2.length + 1) cA)) 3 (prodL g1.length (f1.take i) g1 ++ (g1.take (j + 1)).map fun y => x * g1.length + y) (prodL g1.length (f2.take i) g2 ++ (g2.take (j + 1)).map fun y => x' * g1.length + y) by
                        rw [← HL1.out, ← HL2.out]
                        exact Grows.mk2 (u := v2) bwT (by simp [go_sem, q2, hGlc]) (by simp [go_sem, q1, hGlc]) (fun o => by simp [go_sem, hfrc, hGlc]) (by simp; omega) (hG1.below bwT).top hne hG5 hg5 hat5 hb5)
                      clear hG1 hG2 hne q1 q2 hfrc hw3 hw4 hx3w hx4w HM hG5 hg5 hat5 hb5 hc5 hf5 a1 b1 hcx' hcy'
                      go_wp2
                      go_roundw
                      case rel => exact ⟨j + 1, by omega, by go_num, HM3⟩
                      case measure => simp [intOf]; omega
                    exact AllReadyH.nil
                  exact AllReadyH.nil
                exact AllReadyH.nil
              exact AllReadyH.nil
          · have hje : j = g1.length := by omega
            have HE := Lib.hid (show Grows w2.heap.size w2 wr 3 (prodL g1.length (f1.take (i + 1)) g1) (prodL g1.length (f2.take (i + 1)) g2) by
              rw [prodL_row hx.out, prodL_row hx'.out]
              have := HQ.out
              rwa [List.take_of_length_le (l := g1) (by omega), List.take_of_length_le (l := g2) (by omega)] at this)
            clear HQ hG1 hG2 hne q1 q2 hx hx' hr1 hr2
            go_wp2
            go_roundw
            case rel => exact ⟨i + 1, by omega, by go_num, HE⟩
            case measure => simp [intOf]; omega
      · have hie : i = f1.length := by omega
        subst hie
        have hL1 : 0 < (prodL g1.length (f1.take f1.length) g1).length := by rw [prodL_len, List.take_length]; exact Nat.mul_pos k1 j1
        have hL2 : 0 < (prodL g1.length (f2.take f1.length) g2).length := by
          obtain ⟨_, _, _, _, s5, s6⟩ := HS.out
          rw [prodL_len, List.take_of_length_le (by omega)]; exact Nat.mul_pos (by omega) (by omega)
        obtain ⟨p1, c1, p2, c2, q1', q2', hO⟩ := HG.out.fin hL1 hL2
        have HO := Lib.hid hO
        have HF := Lib.hid (show C = (prodL g1.length (f1.take f1.length) g1, prodL g1.length (f2.take f1.length) g2) by
          obtain ⟨_, _, _, _, s5, s6⟩ := HS.out
          rw [HC.out, List.take_length, List.take_of_length_le (by omega)]; rfl)
        clear hO hG1 hG2 hne q1 q2 HG
        obtain ⟨L1, hL1e⟩ : ∃ L, L = (prodL g1.length (f1.take f1.length) g1).length := ⟨_, rfl⟩
        obtain ⟨L2, hL2e⟩ : ∃ L, L = (prodL g1.length (f2.take f1.length) g2).length := ⟨_, rfl⟩
        rw [← hL1e] at q1' HO
        rw [← hL2e] at q2' HO
        clear hL1e hL2e hL1 hL2
        go_wp2
        exact bodyPost_ret (v := .tuple #[.agg #[.slice (some ⟨p1, 0, none⟩) L1 c1, .slice (some ⟨p2, 0, none⟩) L2 c2], .bool true]) (by simp [results, go_sem, r0, r1']) rfl ⟨_, _, (by rw [HV.out]; rfl), (by rw [HF.out]; exact ((HO.out.keep znT).top).mono (by omega) (by simp)), bwT⟩
  · have hN9 : (8 : Int) < (N : Int) := by omega
    obtain rfl : r3 = false := by rw [H3.out, ← HN.out]; simp; omega
    go_wp2
    exact bodyPost_ret (v := .tuple #[.agg #[.slice none 0 0, .slice none 0 0], .bool false]) (by simp [results, go_sem, r0, r1']) rfl ⟨_, _, (by rw [HV.out]; rfl), (by rw [HC.out]; exact Ow.nil2 _ _ _), bwT⟩
end
end Go.Proofs.Ytefbbbhidnnchaa
