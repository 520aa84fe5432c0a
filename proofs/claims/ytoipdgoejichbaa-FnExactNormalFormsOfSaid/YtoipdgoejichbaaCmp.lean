/- Contracts: steps compared, types compared. -/
import Derived.Test.YtoipdgoejichbaaRul
import Derived.Test.YtoipdgoejichbaaBase
namespace Go.Proofs.Ytoipdgoejichbaa
set_option linter.unusedVariables false
set_option linter.unusedSimpArgs false
open Go.RowKit

theorem cmpS_step {a b : List Stp} {k : Nat} {x : Stp} (h : a[k]? = some x) (h' : b[k]? = some x) : cmpS (a.drop k) (b.drop k) = cmpS (a.drop (k + 1)) (b.drop (k + 1)) := by
  rw [drop_cons h, drop_cons h', cmpS, if_pos rfl, if_pos rfl]
theorem cmpS_kind {a b : List Stp} {k : Nat} {x y : Stp} (h : a[k]? = some x) (h' : b[k]? = some y) (hne : x.1 ≠ y.1) : cmpS (a.drop k) (b.drop k) = cmpI x.1 y.1 := by
  rw [drop_cons h, drop_cons h', cmpS, if_neg hne]
theorem cmpS_age {a b : List Stp} {k : Nat} {x y : Stp} (h : a[k]? = some x) (h' : b[k]? = some y) (he : x.1 = y.1) (hne : x.2 ≠ y.2) : cmpS (a.drop k) (b.drop k) = cmpI x.2 y.2 := by
  rw [drop_cons h, drop_cons h', cmpS, if_pos he, if_neg hne]
theorem cmpS_end {a b : List Stp} {k : Nat} (h1 : k ≤ a.length) (h2 : k ≤ b.length) (h : a.length ≤ k ∨ b.length ≤ k) : cmpS (a.drop k) (b.drop k) = cmpI a.length b.length := by
  rcases Nat.lt_or_ge k a.length with ha | ha
  · have hb : b.length = k := by omega
    rw [List.drop_eq_getElem_cons ha, List.drop_eq_nil_of_le (show b.length ≤ k by omega), cmpS, cmpI, if_neg (by omega), if_pos (by omega)]
  · rcases Nat.lt_or_ge k b.length with hb | hb
    · rw [List.drop_eq_nil_of_le ha, List.drop_eq_getElem_cons hb, cmpS, cmpI, if_pos (by omega)]
    · rw [List.drop_eq_nil_of_le ha, List.drop_eq_nil_of_le hb, cmpS, cmpI, if_neg (by omega), if_neg (by omega)]

theorem neqStep (w : World) (a b c d : Int) : (binOp .neq 75 (.agg #[.int .i64 a, .int .i64 b]) (.agg #[.int .i64 c, .int .i64 d])).run Try.prog w = .ok (.bool (!(decide (a = c) && decide (b = d)))) w := by
  have h1 : Try.prog.underlying 75 = some (.struct (Try.prog.fieldsOf 75)) := by kernel_rfl
  have h2 : Try.prog.stoodInHeld 75 = false := by kernel_rfl
  rw [run_neq_struct, run_equalIn_agg _ _ _ _ _ h1 h2]
  simp only [Program.fieldsOf, Try.underlying75]
  by_cases e1 : a = c
  · by_cases e2 : b = d
    · subst e1 e2; simp [go_sem, Op.eqFields]
    · subst e1; simp [go_sem, Op.eqFields, e2]
  · simp [go_sem, Op.eqFields, e1]
theorem compareInts_any (w : World) (a b R : Int) (hR : R = cmpI a b) : Calls Try.prog 103 #[.int .i64 a, .int .i64 b] w (PostI w R) := by
  unfold cmpI at hR
  have HR := Lib.hid hR
  clear hR
  by_cases h1 : a < b
  · have HF := Lib.hid (show R = -1 by rw [HR.out, if_pos h1])
    clear HR
    go_enter Try.func103, Try.ntmps103
    go_wp2
    go_ret
    exact ⟨ret_int HF.out.symm, Below.refl _ _⟩
  · by_cases h2 : b < a
    · have HF := Lib.hid (show R = 1 by rw [HR.out, if_neg h1, if_pos h2])
      clear HR
      go_enter Try.func103, Try.ntmps103
      go_wp2
      go_ret
      exact ⟨ret_int HF.out.symm, Below.refl _ _⟩
    · have HF := Lib.hid (show R = 0 by rw [HR.out, if_neg h1, if_neg h2])
      clear HR
      go_enter Try.func103, Try.ntmps103
      go_wp2
      go_ret
      exact ⟨ret_int HF.out.symm, Below.refl _ _⟩

set_option maxRecDepth 20000 in
set_option maxHeartbeats 4000000 in
theorem compareSteps_any {z z' : Bool} {lo hi lo' hi' : Nat} (w : World) (u v : Value) (xs ys : List Stp) (h : Rd z lo hi w [u] xs) (h' : Rd z' lo' hi' w [v] ys) (R : Int) (hR : R = cmpS xs ys) :
    Calls Try.prog 78 #[u, v] w (PostI w R) := by
  obtain ⟨ao, n, cap, rfl, rfl, hnc, hcm, hnone⟩ := h.shape
  obtain ⟨ao', n', cap', rfl, rfl, hnc', hcm', hnone'⟩ := h'.shape
  unfold maxLen at *
  have HR := Lib.hid hR
  clear hR hnone hnone'
  go_enter Try.func78, Try.ntmps78
  go_wp2
  go_loopw [5] (fun i wr => ∃ k : Nat, k ≤ xs.length ∧ k ≤ ys.length ∧ i = .int .i64 k ∧ Hid (R = cmpS (xs.drop k) (ys.drop k)) ∧ Below w.heap.size w wr) (fun i _ => xs.length - (intOf i).toNat)
  case atStart => exact ⟨0, Nat.zero_le _, Nat.zero_le _, rfl, Lib.hid (by simpa using HR.out), Below.refl _ _⟩
  case round =>
    clear HR
    obtain ⟨we, hwe⟩ : ∃ wm : World, wm = wr := ⟨_, rfl⟩
    subst hwe
    obtain ⟨k, hk, hk', rfl, ht, hb⟩ := hrel
    have sW := hb.size
    by_cases hlt : k < xs.length
    · by_cases hlt' : k < ys.length
      · obtain ⟨b, off, ki, ag, rfl, hx, c0, c1, -, -, -, -, bl1, -⟩ := (h.below hb).stp_at hlt
        obtain ⟨b2, off2, ki2, ag2, rfl, hy, d0, d1, -, -, -, -, bl2, -⟩ := (h'.below hb).stp_at hlt'
        have hI : (k : Int) < (xs.length : Int) := by omega
        have hI' : (k : Int) < (ys.length : Int) := by omega
        clear h h'
        by_cases h1 : ki = ki2
        · subst h1
          have e1 : (ki != ki) = false := by simp
          by_cases h2 : ag = ag2
          · subst h2
            have e2 : (ag != ag) = false := by simp
            have HT : Hid (R = cmpS (xs.drop (k + 1)) (ys.drop (k + 1))) := Lib.hid (by rw [ht.out, cmpS_step hx.out hy.out])
            clear ht hx hy
            go_wp2_with fail
            go_quiet (fail)
            go_wp2_with fail
            go_quiet (fail)
            go_wp2
            go_roundw
            case rel => exact ⟨k + 1, by omega, by omega, by go_num, HT, bwT⟩
            case measure => simp [intOf]; omega
          · have e2 : (ag != ag2) = true := by simpa using h2
            have HF := Lib.hid (show R = cmpI ag ag2 by rw [ht.out, cmpS_age hx.out hy.out rfl h2])
            clear ht hx hy h2
            go_wp2_with fail
            go_quiet (fail)
            go_wp2_with fail
            go_quiet (fail)
            go_upto_region 7 with fail
            go_region_held3 (fun w' => w'.cell? ⟨b, off + k * 2 + 1, none⟩ = some (.int .i64 ag) ∧ w'.cell? ⟨b2, off2 + k * 2 + 1, none⟩ = some (.int .i64 ag2)) (go_keep) (first | (go_at_call 103; refine (compareInts_any _ ag ag2 R HF.out).mono ?_; rintro e w1 ⟨rfl, hb1⟩; have hp1 : Below we.heap.size we w1 := Below.trans (show Below we.heap.size we _ from bwT) (hb1.mono (by simp)); have hB1 : Below w.heap.size w w1 := Below.after hb hp1 sW; have c0 := oldc hp1 bl1 c0; have c1 := oldc hp1 bl1 c1; have d0 := oldc hp1 bl2 d0; have d1 := oldc hp1 bl2 d1; clear hb1 hp1))
            go_wp2
            go_ret
            exact ⟨rfl, hB1⟩
        · have e1 : (ki != ki2) = true := by simpa using h1
          have HF := Lib.hid (show R = cmpI ki ki2 by rw [ht.out, cmpS_kind hx.out hy.out h1])
          clear ht hx hy h1
          go_wp2_with fail
          go_quiet (fail)
          go_upto_region 5 with fail
          go_region_held3 (fun w' => w'.cell? ⟨b, off + k * 2, none⟩ = some (.int .i64 ki) ∧ w'.cell? ⟨b2, off2 + k * 2, none⟩ = some (.int .i64 ki2)) (go_keep) (first | (go_at_call 103; refine (compareInts_any _ ki ki2 R HF.out).mono ?_; rintro e w1 ⟨rfl, hb1⟩; have hp1 : Below we.heap.size we w1 := Below.trans (show Below we.heap.size we _ from bwT) (hb1.mono (by simp)); have hB1 : Below w.heap.size w w1 := Below.after hb hp1 sW; have c0 := oldc hp1 bl1 c0; have c1 := oldc hp1 bl1 c1; have d0 := oldc hp1 bl2 d0; have d1 := oldc hp1 bl2 d1; clear hb1 hp1))
          go_wp2
          go_ret
          exact ⟨rfl, hB1⟩
      · have HF := Lib.hid (show R = cmpI xs.length ys.length by rw [ht.out, cmpS_end hk hk' (by omega)])
        have hI : (k : Int) < (xs.length : Int) := by omega
        have hI' : ¬ (k : Int) < (ys.length : Int) := by omega
        clear h h' ht
        go_wp2_with fail
        refine (compareInts_any _ _ _ R HF.out).mono ?_
        rintro e w1 ⟨rfl, hb1⟩
        have hB1 : Below w.heap.size w w1 := Below.after hb hb1 sW
        go_wp2
        go_ret
        exact ⟨rfl, hB1⟩
    · have HF := Lib.hid (show R = cmpI xs.length ys.length by rw [ht.out, cmpS_end hk hk' (by omega)])
      have hI : ¬ (k : Int) < (xs.length : Int) := by omega
      clear h h' ht
      go_wp2_with fail
      refine (compareInts_any _ _ _ R HF.out).mono ?_
      rintro e w1 ⟨rfl, hb1⟩
      have hB1 : Below w.heap.size w w1 := Below.after hb hb1 sW
      go_wp2
      go_ret
      exact ⟨rfl, hB1⟩

set_option maxRecDepth 20000 in
set_option maxHeartbeats 4000000 in
theorem l4Before_b {z z' : Bool} {lo hi lo' hi' : Nat} (w : World) (u v : Value) (xs ys : List Stp) (h : Rd z lo hi w [u] xs) (h' : Rd z' lo' hi' w [v] ys) (r : Bool) (hr : r = beforeS xs ys) :
    Calls Try.prog 95 #[u, v] w (PostB w r) := by
  obtain ⟨ao, n, cap, rfl, rfl, hnc, hcm, hnone⟩ := h.shape
  obtain ⟨ao', n', cap', rfl, rfl, hnc', hcm', hnone'⟩ := h'.shape
  unfold maxLen at *
  unfold beforeS at hr
  have HR := Lib.hid hr
  clear hr hnone hnone'
  by_cases hl : xs.length = ys.length
  rotate_left
  · have HF := Lib.hid (show r = decide (xs.length < ys.length) by rw [HR.out, if_neg hl])
    have hbne : (((xs.length : Int)) != (ys.length : Int)) = true := by simp; omega
    clear hl h h' HR
    go_enter Try.func95, Try.ntmps95
    go_wp2
    go_ret
    exact ⟨ret_bool (by rw [HF.out]; try simp), Below.refl _ _⟩
  have HR2 := Lib.hid (show r = decide (cmpS xs ys < 0) by rw [HR.out, if_pos hl])
  have hbne : (((xs.length : Int)) != (ys.length : Int)) = false := by simp [hl]
  have hl1 : ¬ xs.length < ys.length := by omega
  have hl2 : ¬ ys.length < xs.length := by omega
  clear hl HR
  go_enter Try.func95, Try.ntmps95
  go_wp2
  go_loopw [5, 18] (fun _ i wr => ∃ k : Nat, k ≤ xs.length ∧ i = .int .i64 k ∧ Hid (r = decide (cmpS (xs.drop k) (ys.drop k) < 0)) ∧ Below w.heap.size w wr) (fun _ i _ => xs.length - (intOf i).toNat)
  case atStart => exact ⟨0, Nat.zero_le _, rfl, Lib.hid (by simpa using HR2.out), Below.refl _ _⟩
  case round =>
    clear HR2
    obtain ⟨k, hk, rfl, ht, hb⟩ := hrel
    have sW := hb.size
    by_cases hlt : k < xs.length
    · have hlt' : k < ys.length := by omega
      obtain ⟨b, off, ki, ag, rfl, hx, c0, c1, -, -, -, -, bl1, -⟩ := (h.below hb).stp_at hlt
      obtain ⟨b2, off2, ki2, ag2, rfl, hy, d0, d1, -, -, -, -, bl2, -⟩ := (h'.below hb).stp_at hlt'
      have hI : (k : Int) < (xs.length : Int) := by omega
      have hI' : (k : Int) < (ys.length : Int) := by omega
      clear h h'
      by_cases h1 : ki = ki2
      · subst h1
        have e1 : (ki != ki) = false := by simp
        by_cases h2 : ag = ag2
        · subst h2
          have e2 : (ag != ag) = false := by simp
          have HT : Hid (r = decide (cmpS (xs.drop (k + 1)) (ys.drop (k + 1)) < 0)) := Lib.hid (by rw [ht.out, cmpS_step hx.out hy.out])
          clear ht hx hy
          go_wp2_with fail
          go_quiet (fail)
          go_wp2_with fail
          go_quiet (fail)
          go_wp2
          go_roundw
          case rel => exact ⟨k + 1, by omega, by go_num, HT, bwT⟩
          case measure => simp [intOf]; omega
        · have e2 : (ag != ag2) = true := by simpa using h2
          have HF := Lib.hid (show r = decide (ag < ag2) by rw [ht.out, cmpS_age hx.out hy.out rfl h2]; exact decide_eq_decide.2 cmpI_neg)
          clear ht hx hy h2
          go_wp2_with fail
          go_quiet (fail)
          go_wp2_with fail
          go_quiet (fail)
          go_wp2_with fail
          go_quiet (fail)
          go_wp2
          go_ret
          exact ⟨ret_bool HF.out.symm, bwT⟩
      · have e1 : (ki != ki2) = true := by simpa using h1
        have HF := Lib.hid (show r = decide (ki < ki2) by rw [ht.out, cmpS_kind hx.out hy.out h1]; exact decide_eq_decide.2 cmpI_neg)
        clear ht hx hy h1
        go_wp2_with fail
        go_quiet (fail)
        go_wp2_with fail
        go_quiet (fail)
        go_wp2
        go_ret
        exact ⟨ret_bool HF.out.symm, bwT⟩
    · have HF := Lib.hid (show r = false by rw [ht.out, cmpS_end hk (by omega) (by omega)]; simp [cmpI]; omega)
      have hI : ¬ (k : Int) < (xs.length : Int) := by omega
      clear h h' ht
      go_wp2
      go_ret
      exact ⟨ret_bool HF.out.symm, bwT⟩
-- TWINS
set_option maxRecDepth 20000 in
set_option maxHeartbeats 4000000 in
theorem sameStepsI_b {z z' : Bool} {lo hi lo' hi' : Nat} (w : World) (u v : Value) (xs ys : List Stp) (h : Rd z lo hi w [u] xs) (h' : Rd z' lo' hi' w [v] ys) (r : Bool) (hr : r = decide (xs = ys)) :
    Calls Try.prog 124 #[u, v] w (PostB w r) := by
  subst hr
  obtain ⟨ao, n, cap, rfl, rfl, hnc, hcm, hnone⟩ := h.shape
  obtain ⟨ao', n', cap', rfl, rfl, hnc', hcm', hnone'⟩ := h'.shape
  unfold maxLen at *
  clear hnone hnone'
  by_cases hl : xs.length = ys.length
  · have HL := Lib.hid hl
    have hl1 : ¬ xs.length < ys.length := by omega
    have hl2 : ¬ ys.length < xs.length := by omega
    have hbne : (((xs.length : Int)) != (ys.length : Int)) = false := by simp [hl]
    clear hl
    go_enter Try.func124, Try.ntmps124
    go_wp2
    go_loopw [5, 13] (fun _ i wr => ∃ k : Nat, k ≤ xs.length ∧ i = .int .i64 k ∧ Hid (xs.take k = ys.take k) ∧ Below w.heap.size w wr) (fun _ i _ => xs.length - (intOf i).toNat)
    case atStart => exact ⟨0, Nat.zero_le _, rfl, rfl, Below.refl _ _⟩
    case round =>
      obtain ⟨k, hk, rfl, ht, hb⟩ := hrel
      have sW := hb.size
      by_cases hlt : k < xs.length
      · have hlt' : k < ys.length := by omega
        obtain ⟨b, off, ki, ag, rfl, hx, c0, c1, -, -, -, -, bl1, -⟩ := (h.below hb).stp_at hlt
        obtain ⟨b2, off2, ki2, ag2, rfl, hy, d0, d1, -, -, -, -, bl2, -⟩ := (h'.below hb).stp_at hlt'
        have hI : (k : Int) < (xs.length : Int) := by omega
        have hI' : (k : Int) < (ys.length : Int) := by omega
        clear h h'
        by_cases h1 : ((ki, ag) : Stp) = (ki2, ag2)
        · have HT := Lib.hid (show xs.take (k + 1) = ys.take (k + 1) by rw [take_snoc hx.out, take_snoc hy.out, ht.out, h1])
          simp only [Prod.mk.injEq] at h1
          obtain ⟨rfl, rfl⟩ := h1
          have hq : ∀ w : World, (binOp .neq 75 (.agg #[.int .i64 ki, .int .i64 ag]) (.agg #[.int .i64 ki, .int .i64 ag])).run Try.prog w = .ok (.bool false) w := fun w => by rw [neqStep]; simp
          have hgt : Try.prog.eqGuardType Try.prog.depth 75 = false := by kernel_rfl
          clear ht hx hy
          go_wp2_with fail
          go_quiet (fail)
          go_wp2
          go_roundw
          case rel => exact ⟨k + 1, by omega, by go_num, HT, bwT⟩
          case measure => simp [intOf]; omega
        · have HF := Lib.hid (show decide (xs = ys) = false by
            rw [decide_eq_false_iff_not]
            intro e3; subst e3
            exact h1 (Option.some.inj (hx.out.symm.trans hy.out)))
          simp only [Prod.mk.injEq] at h1
          have hq : ∀ w : World, (binOp .neq 75 (.agg #[.int .i64 ki, .int .i64 ag]) (.agg #[.int .i64 ki2, .int .i64 ag2])).run Try.prog w = .ok (.bool true) w := fun w => by rw [neqStep, ← Bool.decide_and, decide_eq_false h1]; rfl
          have hgt : Try.prog.eqGuardType Try.prog.depth 75 = false := by kernel_rfl
          clear ht hx hy h1
          go_wp2_with fail
          go_quiet (fail)
          go_wp2
          go_ret
          exact ⟨ret_bool HF.out.symm, bwT⟩
      · have HF : Hid (decide (xs = ys) = true) := by
          have e := ht.out
          rw [List.take_of_length_le (by omega), List.take_of_length_le (by omega)] at e
          exact decide_eq_true e
        clear h h' ht
        go_wp2
        go_ret
        exact ⟨ret_bool HF.out.symm, hb⟩
  · have HF : Hid (decide (xs = ys) = false) := by
      simp only [decide_eq_false_iff_not]
      intro e; subst e; exact hl rfl
    have hbne : (((xs.length : Int)) != (ys.length : Int)) = true := by simp; omega
    clear hl h h'
    go_enter Try.func124, Try.ntmps124
    go_wp2
    go_ret
    exact ⟨ret_bool HF.out.symm, Below.refl _ _⟩
set_option maxRecDepth 20000 in
set_option maxHeartbeats 4000000 in
theorem eqTypesI_b {z z' : Bool} {lo hi lo' hi' : Nat} (w : World) (u1 u2 v1 v2 : Value) (x y : Kin) (h : Rd z lo hi w [u1, u2] x) (h' : Rd z' lo' hi' w [v1, v2] y) (r : Bool) (hr : r = decide (x = y)) :
    Calls Try.prog 108 #[.agg #[u1, u2], .agg #[v1, v2]] w (PostB w r) := by
  obtain ⟨rfl, -, hx2⟩ := h.kin
  obtain ⟨rfl, -, hy2⟩ := h'.kin
  obtain ⟨x1, x2⟩ := x
  obtain ⟨y1, y2⟩ := y
  obtain ⟨r1, hlet_r1⟩ : ∃ r, r = decide (x1 = y1) := ⟨_, rfl⟩
  have H1 := Lib.hid hlet_r1
  clear hlet_r1
  obtain ⟨r2, hlet_r2⟩ : ∃ r, r = decide (x2 = y2) := ⟨_, rfl⟩
  have H2 := Lib.hid hlet_r2
  clear hlet_r2
  have HR := Lib.hid (show r = (r1 && r2) by rw [hr, H1.out, H2.out]; simp [Prod.mk.injEq])
  clear hr h h'
  dsimp only at hx2 hy2
  cases r1
  · have q : (x1 == y1) = false := by have := H1.out; simp at this ⊢; exact this
    clear hx2 hy2
    go_enter Try.func108, Try.ntmps108
    go_wp2
    go_ret
    exact ⟨ret_bool (by rw [HR.out]; rfl), bwT⟩
  · have q : (x1 == y1) = true := by have := H1.out; simp at this ⊢; exact this
    go_enter Try.func108, Try.ntmps108
    go_wp2_with fail
    refine (sameStepsI_b _ _ _ x2 y2 (hx2.below bwT) (hy2.below bwT) _ H2.out).mono ?_
    rintro e1 w1 ⟨rfl, hbw1⟩
    have hpw1 : Below w.heap.size w w1 := Below.after bwT hbw1 szT
    have sw1 := hpw1.size
    have hBw1 : Below w.heap.size w w1 := hpw1
    have l_a : w.heap.size < w1.heap.size := by have := hbw1.size; simp at this; omega
    have q_a0 : w1.cell? ⟨w.heap.size, 0, none⟩ = some (.int .i64 x1) := oldc hbw1 ltT (by simp [go_sem])
    have q_a1 : w1.cell? ⟨w.heap.size, 1, none⟩ = some (u2) := oldc hbw1 ltT (by simp [go_sem])
    have l_b : w.heap.size + 1 < w1.heap.size := by have := hbw1.size; simp at this; omega
    have q_b0 : w1.cell? ⟨w.heap.size + 1, 0, none⟩ = some (.int .i64 y1) := oldc hbw1 ltT (by simp [go_sem])
    have q_b1 : w1.cell? ⟨w.heap.size + 1, 1, none⟩ = some (v2) := oldc hbw1 ltT (by simp [go_sem])
    clear hbw1 hpw1
    go_wp2
    go_ret
    exact ⟨ret_bool (by rw [HR.out]; rfl), hBw1⟩
set_option maxRecDepth 20000 in
set_option maxHeartbeats 4000000 in
theorem sameStepsS_b {z z' : Bool} {lo hi lo' hi' : Nat} (w : World) (u v : Value) (xs ys : List Stp) (h : Rd z lo hi w [u] xs) (h' : Rd z' lo' hi' w [v] ys) (r : Bool) (hr : r = decide (xs = ys)) :
    Calls Try.prog 68 #[u, v] w (PostB w r) := by
  subst hr
  obtain ⟨ao, n, cap, rfl, rfl, hnc, hcm, hnone⟩ := h.shape
  obtain ⟨ao', n', cap', rfl, rfl, hnc', hcm', hnone'⟩ := h'.shape
  unfold maxLen at *
  clear hnone hnone'
  by_cases hl : xs.length = ys.length
  · have HL := Lib.hid hl
    have hl1 : ¬ xs.length < ys.length := by omega
    have hl2 : ¬ ys.length < xs.length := by omega
    have hbne : (((xs.length : Int)) != (ys.length : Int)) = false := by simp [hl]
    clear hl
    go_enter Try.func68, Try.ntmps68
    go_wp2
    go_loopw [5, 13] (fun _ i wr => ∃ k : Nat, k ≤ xs.length ∧ i = .int .i64 k ∧ Hid (xs.take k = ys.take k) ∧ Below w.heap.size w wr) (fun _ i _ => xs.length - (intOf i).toNat)
    case atStart => exact ⟨0, Nat.zero_le _, rfl, rfl, Below.refl _ _⟩
    case round =>
      obtain ⟨k, hk, rfl, ht, hb⟩ := hrel
      have sW := hb.size
      by_cases hlt : k < xs.length
      · have hlt' : k < ys.length := by omega
        obtain ⟨b, off, ki, ag, rfl, hx, c0, c1, -, -, -, -, bl1, -⟩ := (h.below hb).stp_at hlt
        obtain ⟨b2, off2, ki2, ag2, rfl, hy, d0, d1, -, -, -, -, bl2, -⟩ := (h'.below hb).stp_at hlt'
        have hI : (k : Int) < (xs.length : Int) := by omega
        have hI' : (k : Int) < (ys.length : Int) := by omega
        clear h h'
        by_cases h1 : ((ki, ag) : Stp) = (ki2, ag2)
        · have HT := Lib.hid (show xs.take (k + 1) = ys.take (k + 1) by rw [take_snoc hx.out, take_snoc hy.out, ht.out, h1])
          simp only [Prod.mk.injEq] at h1
          obtain ⟨rfl, rfl⟩ := h1
          have hq : ∀ w : World, (binOp .neq 75 (.agg #[.int .i64 ki, .int .i64 ag]) (.agg #[.int .i64 ki, .int .i64 ag])).run Try.prog w = .ok (.bool false) w := fun w => by rw [neqStep]; simp
          have hgt : Try.prog.eqGuardType Try.prog.depth 75 = false := by kernel_rfl
          clear ht hx hy
          go_wp2_with fail
          go_quiet (fail)
          go_wp2
          go_roundw
          case rel => exact ⟨k + 1, by omega, by go_num, HT, bwT⟩
          case measure => simp [intOf]; omega
        · have HF := Lib.hid (show decide (xs = ys) = false by
            rw [decide_eq_false_iff_not]
            intro e3; subst e3
            exact h1 (Option.some.inj (hx.out.symm.trans hy.out)))
          simp only [Prod.mk.injEq] at h1
          have hq : ∀ w : World, (binOp .neq 75 (.agg #[.int .i64 ki, .int .i64 ag]) (.agg #[.int .i64 ki2, .int .i64 ag2])).run Try.prog w = .ok (.bool true) w := fun w => by rw [neqStep, ← Bool.decide_and, decide_eq_false h1]; rfl
          have hgt : Try.prog.eqGuardType Try.prog.depth 75 = false := by kernel_rfl
          clear ht hx hy h1
          go_wp2_with fail
          go_quiet (fail)
          go_wp2
          go_ret
          exact ⟨ret_bool HF.out.symm, bwT⟩
      · have HF : Hid (decide (xs = ys) = true) := by
          have e := ht.out
          rw [List.take_of_length_le (by omega), List.take_of_length_le (by omega)] at e
          exact decide_eq_true e
        clear h h' ht
        go_wp2
        go_ret
        exact ⟨ret_bool HF.out.symm, hb⟩
  · have HF : Hid (decide (xs = ys) = false) := by
      simp only [decide_eq_false_iff_not]
      intro e; subst e; exact hl rfl
    have hbne : (((xs.length : Int)) != (ys.length : Int)) = true := by simp; omega
    clear hl h h'
    go_enter Try.func68, Try.ntmps68
    go_wp2
    go_ret
    exact ⟨ret_bool HF.out.symm, Below.refl _ _⟩
set_option maxRecDepth 20000 in
set_option maxHeartbeats 4000000 in
theorem eqTypesS_b {z z' : Bool} {lo hi lo' hi' : Nat} (w : World) (u1 u2 v1 v2 : Value) (x y : Kin) (h : Rd z lo hi w [u1, u2] x) (h' : Rd z' lo' hi' w [v1, v2] y) (r : Bool) (hr : r = decide (x = y)) :
    Calls Try.prog 34 #[.agg #[u1, u2], .agg #[v1, v2]] w (PostB w r) := by
  obtain ⟨rfl, -, hx2⟩ := h.kin
  obtain ⟨rfl, -, hy2⟩ := h'.kin
  obtain ⟨x1, x2⟩ := x
  obtain ⟨y1, y2⟩ := y
  obtain ⟨r1, hlet_r1⟩ : ∃ r, r = decide (x1 = y1) := ⟨_, rfl⟩
  have H1 := Lib.hid hlet_r1
  clear hlet_r1
  obtain ⟨r2, hlet_r2⟩ : ∃ r, r = decide (x2 = y2) := ⟨_, rfl⟩
  have H2 := Lib.hid hlet_r2
  clear hlet_r2
  have HR := Lib.hid (show r = (r1 && r2) by rw [hr, H1.out, H2.out]; simp [Prod.mk.injEq])
  clear hr h h'
  dsimp only at hx2 hy2
  cases r1
  · have q : (x1 == y1) = false := by have := H1.out; simp at this ⊢; exact this
    clear hx2 hy2
    go_enter Try.func34, Try.ntmps34
    go_wp2
    go_ret
    exact ⟨ret_bool (by rw [HR.out]; rfl), bwT⟩
  · have q : (x1 == y1) = true := by have := H1.out; simp at this ⊢; exact this
    go_enter Try.func34, Try.ntmps34
    go_wp2_with fail
    refine (sameStepsS_b _ _ _ x2 y2 (hx2.below bwT) (hy2.below bwT) _ H2.out).mono ?_
    rintro e2 w2 ⟨rfl, hbw2⟩
    have hpw2 : Below w.heap.size w w2 := Below.after bwT hbw2 szT
    have sw2 := hpw2.size
    have hBw2 : Below w.heap.size w w2 := hpw2
    have l_a : w.heap.size < w2.heap.size := by have := hbw2.size; simp at this; omega
    have q_a0 : w2.cell? ⟨w.heap.size, 0, none⟩ = some (.int .i64 x1) := oldc hbw2 ltT (by simp [go_sem])
    have q_a1 : w2.cell? ⟨w.heap.size, 1, none⟩ = some (u2) := oldc hbw2 ltT (by simp [go_sem])
    have l_b : w.heap.size + 1 < w2.heap.size := by have := hbw2.size; simp at this; omega
    have q_b0 : w2.cell? ⟨w.heap.size + 1, 0, none⟩ = some (.int .i64 y1) := oldc hbw2 ltT (by simp [go_sem])
    have q_b1 : w2.cell? ⟨w.heap.size + 1, 1, none⟩ = some (v2) := oldc hbw2 ltT (by simp [go_sem])
    clear hbw2 hpw2
    go_wp2
    go_ret
    exact ⟨ret_bool (by rw [HR.out]; rfl), hBw2⟩
end Go.Proofs.Ytoipdgoejichbaa
