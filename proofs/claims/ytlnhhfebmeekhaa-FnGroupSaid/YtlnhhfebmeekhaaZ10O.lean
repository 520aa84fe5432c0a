/- Texts laid one behind the other (merge.py): Cmp, SameT. -/
import Derived.Test.YtlnhhfebmeekhaaRul
import Derived.Test.YtlnhhfebmeekhaaZ10J
import Derived.Test.YtlnhhfebmeekhaaZ10H
import Derived.Test.YtlnhhfebmeekhaaZ10N
namespace Go.Proofs.Ytlnhhfebmeekhaa
set_option linter.unusedVariables false
set_option linter.unusedSimpArgs false
open Go.RowKit

/-! ### Cmp -/
section

theorem cmpS_step {a b : List Stp} {k : Nat} {x : Stp} (h : a[k]? = some x) (h' : b[k]? = some x) : cmpS (a.drop k) (b.drop k) = cmpS (a.drop (k + 1)) (b.drop (k + 1)) := by
  rw [drop_cons h, drop_cons h', cmpS, if_pos rfl, if_pos rfl]
theorem cmpS_kind {a b : List Stp} {k : Nat} {x y : Stp} (h : a[k]? = some x) (h' : b[k]? = some y) (hne : x.1 ≠ y.1) : cmpS (a.drop k) (b.drop k) = cmpI x.1 y.1 := by
  rw [drop_cons h, drop_cons h', cmpS, if_neg hne]
theorem cmpS_age {a b : List Stp} {k : Nat} {x y : Stp} (h : a[k]? = some x) (h' : b[k]? = some y) (he : x.1 = y.1) (hne : x.2 ≠ y.2) : cmpS (a.drop k) (b.drop k) = cmpI x.2 y.2 := by
  rw [drop_cons h, drop_cons h', cmpS, if_pos he, if_neg hne]
theorem cmpS_end {a b : List Stp} {k : Nat} (h1 : k ≤ a.length) (h2 : k ≤ b.length) (h : a.length ≤ k ∨ b.length ≤ k) : cmpS (a.drop k) (b.drop k) = cmpI a.length b.length := by
  rcases Nat.lt_or_ge k a.length with ha | ha
  · have hb : b.length = k := by omega
    rw [List.drop_eq_getElem_cons ha, List.drop_eq_nil_of_le (show b.length ≤ k by omega), cmpS, cmpI, if_neg (by omega), if_pos (by omega)]
  · rcases Nat.lt_or_ge k b.length with hb | hb
    · rw [List.drop_eq_nil_of_le ha, List.drop_eq_getElem_cons hb, cmpS, cmpI, if_pos (by omega)]
    · rw [List.drop_eq_nil_of_le ha, List.drop_eq_nil_of_le hb, cmpS, cmpI, if_neg (by omega), if_neg (by omega)]

theorem neqStep (w : World) (a b c d : Int) : (binOp .neq 83 (.agg #[.int .i64 a, .int .i64 b]) (.agg #[.int .i64 c, .int .i64 d])).run Try.prog w = .ok (.bool (!(decide (a = c) && decide (b = d)))) w := by
  have h1 : Try.prog.underlying 83 = some (.struct (Try.prog.fieldsOf 83)) := by kernel_rfl
  have h2 : Try.prog.stoodInHeld 83 = false := by kernel_rfl
  rw [run_neq_struct, run_equalIn_agg _ _ _ _ _ h1 h2]
  simp only [Program.fieldsOf, Try.underlying83]
  by_cases e1 : a = c
  · by_cases e2 : b = d
    · subst e1 e2; simp [go_sem, Op.eqFields]
    · subst e1; simp [go_sem, Op.eqFields, e2]
  · simp [go_sem, Op.eqFields, e1]


-- TWINS
set_option maxRecDepth 20000 in
set_option maxHeartbeats 4000000 in
theorem sameStepsS_b {z z' : Bool} {lo hi lo' hi' : Nat} (w : World) (u v : Value) (xs ys : List Stp) (h : Rd z lo hi w [u] xs) (h' : Rd z' lo' hi' w [v] ys) (r : Bool) (hr : r = decide (xs = ys)) :
    Calls Try.prog 91 #[u, v] w (PostB w r) := by
  subst hr
  obtain ⟨ao, n, cap, rfl, rfl, hnc, hcm, hnone⟩ := h.shape
  obtain ⟨ao', n', cap', rfl, rfl, hnc', hcm', hnone'⟩ := h'.shape
  unfold maxLen at *
  clear hnone hnone'
  by_cases hl : xs.length = ys.length
  · have HL := Lib.hid hl
    have hl1 : ¬ xs.length < ys.length := by omega
    have hl2 : ¬ ys.length < xs.length := by omega
    have hbne : (((xs.length : Int)) != (ys.length : Int)) = false := by simp [hl]
    clear hl
    go_enter Try.func91, Try.ntmps91
    go_wp2
    go_loopw [5, 13] (fun _ i wr => ∃ k : Nat, k ≤ xs.length ∧ i = .int .i64 k ∧ Hid (xs.take k = ys.take k) ∧ Below w.heap.size w wr) (fun _ i _ => xs.length - (intOf i).toNat)
    case atStart => exact ⟨0, Nat.zero_le _, rfl, rfl, Below.refl _ _⟩
    case round =>
      obtain ⟨k, hk, rfl, ht, hb⟩ := hrel
      have sW := hb.size
      by_cases hlt : k < xs.length
      · have hlt' : k < ys.length := by omega
        obtain ⟨b, off, ki, ag, rfl, hx, c0, c1, -, -, -, -, bl1, -⟩ := (h.below hb).stp_at hlt
        obtain ⟨b2, off2, ki2, ag2, rfl, hy, d0, d1, -, -, -, -, bl2, -⟩ := (h'.below hb).stp_at hlt'
        have hI : (k : Int) < (xs.length : Int) := by omega
        have hI' : (k : Int) < (ys.length : Int) := by omega
        clear h h'
        by_cases h1 : ((ki, ag) : Stp) = (ki2, ag2)
        · have HT := Lib.hid (show xs.take (k + 1) = ys.take (k + 1) by rw [take_snoc hx.out, take_snoc hy.out, ht.out, h1])
          simp only [Prod.mk.injEq] at h1
          obtain ⟨rfl, rfl⟩ := h1
          have hq : ∀ w : World, (binOp .neq 83 (.agg #[.int .i64 ki, .int .i64 ag]) (.agg #[.int .i64 ki, .int .i64 ag])).run Try.prog w = .ok (.bool false) w := fun w => by rw [neqStep]; simp
          have hgt : Try.prog.eqGuardType Try.prog.depth 83 = false := by kernel_rfl
          clear ht hx hy
          go_wp2_with fail
          go_quiet (fail)
          go_wp2
          go_roundw
          case rel => exact ⟨k + 1, by omega, by go_num, HT, bwT⟩
          case measure => simp [intOf]; omega
        · have HF := Lib.hid (show decide (xs = ys) = false by
            rw [decide_eq_false_iff_not]
            intro e3; subst e3
            exact h1 (Option.some.inj (hx.out.symm.trans hy.out)))
          simp only [Prod.mk.injEq] at h1
          have hq : ∀ w : World, (binOp .neq 83 (.agg #[.int .i64 ki, .int .i64 ag]) (.agg #[.int .i64 ki2, .int .i64 ag2])).run Try.prog w = .ok (.bool true) w := fun w => by rw [neqStep, ← Bool.decide_and, decide_eq_false h1]; rfl
          have hgt : Try.prog.eqGuardType Try.prog.depth 83 = false := by kernel_rfl
          clear ht hx hy h1
          go_wp2_with fail
          go_quiet (fail)
          go_wp2
          go_ret
          exact ⟨ret_bool HF.out.symm, bwT⟩
      · have HF : Hid (decide (xs = ys) = true) := by
          have e := ht.out
          rw [List.take_of_length_le (by omega), List.take_of_length_le (by omega)] at e
          exact decide_eq_true e
        clear h h' ht
        go_wp2
        go_ret
        exact ⟨ret_bool HF.out.symm, hb⟩
  · have HF : Hid (decide (xs = ys) = false) := by
      simp only [decide_eq_false_iff_not]
      intro e; subst e; exact hl rfl
    have hbne : (((xs.length : Int)) != (ys.length : Int)) = true := by simp; omega
    clear hl h h'
    go_enter Try.func91, Try.ntmps91
    go_wp2
    go_ret
    exact ⟨ret_bool HF.out.symm, Below.refl _ _⟩
set_option maxRecDepth 20000 in
set_option maxHeartbeats 4000000 in
theorem eqTypesS_b {z z' : Bool} {lo hi lo' hi' : Nat} (w : World) (u1 u2 v1 v2 : Value) (x y : Kin) (h : Rd z lo hi w [u1, u2] x) (h' : Rd z' lo' hi' w [v1, v2] y) (r : Bool) (hr : r = decide (x = y)) :
    Calls Try.prog 57 #[.agg #[u1, u2], .agg #[v1, v2]] w (PostB w r) := by
  obtain ⟨rfl, -, hx2⟩ := h.kin
  obtain ⟨rfl, -, hy2⟩ := h'.kin
  obtain ⟨x1, x2⟩ := x
  obtain ⟨y1, y2⟩ := y
  obtain ⟨r1, hlet_r1⟩ : ∃ r, r = decide (x1 = y1) := ⟨_, rfl⟩
  have H1 := Lib.hid hlet_r1
  clear hlet_r1
  obtain ⟨r2, hlet_r2⟩ : ∃ r, r = decide (x2 = y2) := ⟨_, rfl⟩
  have H2 := Lib.hid hlet_r2
  clear hlet_r2
  have HR := Lib.hid (show r = (r1 && r2) by rw [hr, H1.out, H2.out]; simp [Prod.mk.injEq])
  clear hr h h'
  dsimp only at hx2 hy2
  cases r1
  · have q : (x1 == y1) = false := by have := H1.out; simp at this ⊢; exact this
    clear hx2 hy2
    go_enter Try.func57, Try.ntmps57
    go_wp2
    go_ret
    exact ⟨ret_bool (by rw [HR.out]; rfl), bwT⟩
  · have q : (x1 == y1) = true := by have := H1.out; simp at this ⊢; exact this
    go_enter Try.func57, Try.ntmps57
    go_wp2_with fail
    refine (sameStepsS_b _ _ _ x2 y2 (hx2.below bwT) (hy2.below bwT) _ H2.out).mono ?_
    rintro e2 w2 ⟨rfl, hbw2⟩
    have hpw2 : Below w.heap.size w w2 := Below.after bwT hbw2 szT
    have sw2 := hpw2.size
    have hBw2 : Below w.heap.size w w2 := hpw2
    have l_a : w.heap.size < w2.heap.size := by have := hbw2.size; simp at this; omega
    have q_a0 : w2.cell? ⟨w.heap.size, 0, none⟩ = some (.int .i64 x1) := oldc hbw2 ltT (by simp [go_sem])
    have q_a1 : w2.cell? ⟨w.heap.size, 1, none⟩ = some (u2) := oldc hbw2 ltT (by simp [go_sem])
    have l_b : w.heap.size + 1 < w2.heap.size := by have := hbw2.size; simp at this; omega
    have q_b0 : w2.cell? ⟨w.heap.size + 1, 0, none⟩ = some (.int .i64 y1) := oldc hbw2 ltT (by simp [go_sem])
    have q_b1 : w2.cell? ⟨w.heap.size + 1, 1, none⟩ = some (v2) := oldc hbw2 ltT (by simp [go_sem])
    clear hbw2 hpw2
    go_wp2
    go_ret
    exact ⟨ret_bool (by rw [HR.out]; rfl), hBw2⟩

end

/-! ### SameT -/
section

set_option maxRecDepth 20000 in
set_option maxHeartbeats 4000000 in
theorem sameTypes_b {z z' : Bool} {lo hi lo' hi' : Nat} (w : World) (u v : Value) (xs ys : List Kin) (h : Rd z lo hi w [u] xs) (h' : Rd z' lo' hi' w [v] ys) (r : Bool) (hr : r = decide (xs = ys)) :
    Calls Try.prog 26 #[u, v] w (PostB w r) := by
  subst hr
  obtain ⟨ao, n, cap, rfl, rfl, hnc, hcm, hnone⟩ := h.shape
  obtain ⟨ao', n', cap', rfl, rfl, hnc', hcm', hnone'⟩ := h'.shape
  unfold maxLen at *
  by_cases hl : xs.length = ys.length
  · have HL := Lib.hid hl
    have hl1 : ¬ xs.length < ys.length := by omega
    have hl2 : ¬ ys.length < xs.length := by omega
    have hbne : (((xs.length : Int)) != (ys.length : Int)) = false := by simp [hl]
    clear hl
    go_enter Try.func26, Try.ntmps26
    go_wp2
    go_loopw [5, 13] (fun _ i wr => ∃ k : Nat, k ≤ xs.length ∧ i = .int .i64 k ∧ Hid (xs.take k = ys.take k) ∧ Below w.heap.size w wr) (fun _ i _ => xs.length - (intOf i).toNat)
    case atStart => exact ⟨0, Nat.zero_le _, rfl, rfl, Below.refl _ _⟩
    case round =>
      rename_i wr
      obtain ⟨k, hk, rfl, ht, hb⟩ := hrel
      have sW := hb.size
      by_cases hlt : k < xs.length
      · obtain ⟨b, off, eg, sl, vsl, rfl, hx, p0, p1, -, -, hri, -, -, hbl⟩ := (h.below hb).dKin_at hlt
        obtain ⟨b2, off2, eg2, sl2, vsl2, rfl, hy, q0, q1, -, -, hri2, -, -, hbl2⟩ := (h'.below hb).dKin_at (show k < ys.length by omega)
        have hlt' : k < ys.length := by omega
        have hI : (k : Int) < (xs.length : Int) := by omega
        have hI' : (k : Int) < (ys.length : Int) := by omega
        clear h h'
        obtain ⟨r1, hlet_r1⟩ : ∃ r, r = decide (((eg, sl) : Kin) = (eg2, sl2)) := ⟨_, rfl⟩
        have H1 := Lib.hid hlet_r1
        clear hlet_r1
        have HT := Lib.hid (show r1 = true → xs.take (k + 1) = ys.take (k + 1) by
          intro e
          have e2 := of_decide_eq_true (H1.out.symm.trans e)
          rw [take_snoc hx.out, take_snoc hy.out, ht.out, e2])
        have HF := Lib.hid (show r1 = false → decide (xs = ys) = false by
          intro e
          have e2 := of_decide_eq_false (H1.out.symm.trans e)
          rw [decide_eq_false_iff_not]
          intro e3; subst e3
          have := hx.out.symm.trans hy.out
          exact e2 (Option.some.inj this))
        clear ht hx hy
        go_upto_region 6 with fail
        go_region_held3 (fun w' => w'.cell? ⟨b, off + k * 2, none⟩ = some (.int .i64 eg) ∧ w'.cell? ⟨b, off + k * 2 + 1, none⟩ = some (vsl) ∧ w'.cell? ⟨b2, off2 + k * 2, none⟩ = some (.int .i64 eg2) ∧ w'.cell? ⟨b2, off2 + k * 2 + 1, none⟩ = some (vsl2)) (go_keep) (first | (go_at_call 57; refine (eqTypesS_b _ _ _ _ _ (eg, sl) (eg2, sl2) (hri.below bwT) (hri2.below bwT) r1 H1.out).mono ?_; rintro e w1 ⟨rfl, hb1⟩; have hB1 : Below w.heap.size w w1 := Below.after bwT hb1 (by first | omega | (simp; omega) | simp); obtain ⟨hc1, hf1⟩ := bcell hb1; (try simp only [World.size_alloc, World.size_drew] at hc1 hf1)))
        cases r1
        · go_wp2
          go_ret
          exact ⟨ret_bool (HF.out (by trivial)).symm, hB1⟩
        · have HT2 := Lib.hid (HT.out (by trivial))
          go_wp2
          go_roundw
          case rel => exact ⟨k + 1, by omega, by go_num, HT2, hB1⟩
          case measure => simp [intOf]; omega
      · have HF : Hid (decide (xs = ys) = true) := by
          have e := ht.out
          rw [List.take_of_length_le (by omega), List.take_of_length_le (by omega)] at e
          exact decide_eq_true e
        clear h h' ht
        go_wp2
        go_ret
        exact ⟨ret_bool HF.out.symm, hb⟩
  · have HF : Hid (decide (xs = ys) = false) := by
      simp only [decide_eq_false_iff_not]
      intro e; subst e; exact hl rfl
    have hbne : (((xs.length : Int)) != (ys.length : Int)) = true := by simp; omega
    clear hl h h'
    go_enter Try.func26, Try.ntmps26
    go_wp2
    go_ret
    exact ⟨ret_bool HF.out.symm, Below.refl _ _⟩

end

end Go.Proofs.Ytlnhhfebmeekhaa
