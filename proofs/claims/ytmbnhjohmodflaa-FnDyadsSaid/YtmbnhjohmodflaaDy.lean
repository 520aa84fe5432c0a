/- Contracts of the functions on dyads. -/
import Derived.Test.YtmbnhjohmodflaaPerm
namespace Go.Proofs.Ytmbnhjohmodflaa
set_option linter.unusedVariables false
set_option linter.unusedSimpArgs false
open Go.RowKit

/-- A valid dyad n / 2^e. -/
def vldB (n e : Int) : Bool := decide (0 ≤ n) && decide (n ≤ 1073741824) && decide (0 ≤ e) && decide (e ≤ 30) && (decide (e = 0) || decide (n % 2 = 1))

/-- n / 2^e, made as small as can be. -/
def redN : Nat → Int → Int → Int × Int
  | 0, n, e => (n, e)
  | k + 1, n, e => if 0 < e ∧ n % 2 = 0 then redN k (n / 2) (e - 1) else (n, e)
def red (n e : Int) : Int × Int := redN e.toNat n e
theorem red_step (n e : Int) (h : 0 < e) (h2 : n % 2 = 0) : red n e = red (n / 2) (e - 1) := by
  unfold red
  obtain ⟨k, hk⟩ : ∃ k, e.toNat = k + 1 := ⟨e.toNat - 1, by omega⟩
  have : (e - 1).toNat = k := by omega
  rw [hk, this, redN, if_pos ⟨h, h2⟩]
theorem red_stop (n e : Int) (h : ¬ (0 < e ∧ n % 2 = 0)) : red n e = (n, e) := by
  unfold red
  cases e.toNat with
  | zero => rfl
  | succ k => rw [redN, if_neg h]
theorem redN_bd : ∀ (k : Nat) (n e : Int), 0 ≤ n → 0 ≤ (redN k n e).1 ∧ (redN k n e).1 ≤ n ∧ (redN k n e).2 ≤ e ∧ (0 ≤ e → 0 ≤ (redN k n e).2)
  | 0, n, e, h => ⟨h, Int.le_refl _, Int.le_refl _, fun h => h⟩
  | k + 1, n, e, h => by
    rw [redN]
    by_cases c : 0 < e ∧ n % 2 = 0
    · rw [if_pos c]
      have := redN_bd k (n / 2) (e - 1) (by omega)
      exact ⟨this.1, by omega, by omega, fun h0 => this.2.2.2 (by omega)⟩
    · rw [if_neg c]; exact ⟨h, Int.le_refl _, Int.le_refl _, fun h => h⟩
theorem red_bd (n e : Int) (h : 0 ≤ n) : 0 ≤ (red n e).1 ∧ (red n e).1 ≤ n ∧ (red n e).2 ≤ e ∧ (0 ≤ e → 0 ≤ (red n e).2) := redN_bd _ n e h

/-- Dyads added. -/
def sumN (an ae bn be : Int) : Int := an * 2 ^ (be - ae).toNat + bn * 2 ^ (ae - be).toNat
def addR (an ae bn be : Int) : Int × Int := red (sumN an ae bn be) (max ae be)

theorem pow_bd {k : Nat} (h : k ≤ 30) : (1 : Int) ≤ 2 ^ k ∧ (2 : Int) ^ k ≤ 1073741824 := by
  have h1 : (1 : Nat) ≤ 2 ^ k := Nat.one_le_two_pow
  have h2 : (2 : Nat) ^ k ≤ 2 ^ 30 := Nat.pow_le_pow_right (by omega) h
  have e : ((2 ^ k : Nat) : Int) = (2 : Int) ^ k := by simp
  rw [← e]
  simp only [Nat.reducePow] at h2
  omega
theorem mulp_bd {n : Int} {k : Nat} (h0 : 0 ≤ n) (h1 : n ≤ 1073741824) (h : k ≤ 30) : 0 ≤ n * 2 ^ k ∧ n * 2 ^ k ≤ 1152921504606846976 := by
  obtain ⟨a, b⟩ := pow_bd h
  refine ⟨Int.mul_nonneg h0 (by omega), ?_⟩
  have := Int.mul_le_mul h1 b (by omega) (by omega)
  omega
theorem pow_step (n : Int) (k : Nat) : 2 * (n * 2 ^ k) = n * 2 ^ (k + 1) := by rw [Int.pow_succ, Int.mul_comm 2 (n * 2 ^ k), Int.mul_assoc]

set_option maxHeartbeats 1000000 in
theorem isDyad_any (n e : Int) (w : World) :
    Calls Try.prog 30 #[.agg #[.int .i64 n, .int .i64 e]] w (PostB w (vldB n e)) := by
  by_cases h1 : 0 ≤ n
  · by_cases h2 : n ≤ 1073741824
    · by_cases h3 : 0 ≤ e
      · by_cases h4 : e ≤ 30
        · by_cases h5 : e = 0
          · subst h5
            have HV := Lib.hid (show vldB n 0 = true by simp [vldB, h1, h2])
            rw [HV.out]
            go_enter Try.func30, Try.ntmps30
            go_wp2
            go_ret
            exact ⟨rfl, (by repeat' (first | (with_reducible exact Below.refl _ _) | (with_reducible assumption) | (with_reducible refine Below.alloc ?_ (by first | omega | (simp; omega) | simp) _) | (with_reducible refine Below.setCell ?_ (by first | omega | (simp; omega) | simp) _) | (with_reducible refine Below.drew ?_) | (with_reducible refine below_drewN ?_ _)))⟩
          · have hb5 : (e == 0) = false := by simp [h5]
            by_cases h6 : n % 2 = 1
            · have HV := Lib.hid (show vldB n e = true by simp [vldB, h1, h2, h3, h4, h6])
              rw [HV.out]
              have hb6 : (n % 2 == 1) = true := by simp [h6]
              clear h5 h6
              go_enter Try.func30, Try.ntmps30
              go_wp2
              go_ret
              exact ⟨rfl, (by repeat' (first | (with_reducible exact Below.refl _ _) | (with_reducible assumption) | (with_reducible refine Below.alloc ?_ (by first | omega | (simp; omega) | simp) _) | (with_reducible refine Below.setCell ?_ (by first | omega | (simp; omega) | simp) _) | (with_reducible refine Below.drew ?_) | (with_reducible refine below_drewN ?_ _)))⟩
            · have HV := Lib.hid (show vldB n e = false by simp [vldB, h5, h6])
              rw [HV.out]
              have hb6 : (n % 2 == 1) = false := by simp [h6]
              clear h5 h6
              go_enter Try.func30, Try.ntmps30
              go_wp2
              go_ret
              exact ⟨rfl, (by repeat' (first | (with_reducible exact Below.refl _ _) | (with_reducible assumption) | (with_reducible refine Below.alloc ?_ (by first | omega | (simp; omega) | simp) _) | (with_reducible refine Below.setCell ?_ (by first | omega | (simp; omega) | simp) _) | (with_reducible refine Below.drew ?_) | (with_reducible refine below_drewN ?_ _)))⟩
        · have HV := Lib.hid (show vldB n e = false by simp [vldB, h4])
          rw [HV.out]
          go_enter Try.func30, Try.ntmps30
          go_wp2
          go_ret
          exact ⟨rfl, (by repeat' (first | (with_reducible exact Below.refl _ _) | (with_reducible assumption) | (with_reducible refine Below.alloc ?_ (by first | omega | (simp; omega) | simp) _) | (with_reducible refine Below.setCell ?_ (by first | omega | (simp; omega) | simp) _) | (with_reducible refine Below.drew ?_) | (with_reducible refine below_drewN ?_ _)))⟩
      · have HV := Lib.hid (show vldB n e = false by simp [vldB, h3])
        rw [HV.out]
        go_enter Try.func30, Try.ntmps30
        go_wp2
        go_ret
        exact ⟨rfl, (by repeat' (first | (with_reducible exact Below.refl _ _) | (with_reducible assumption) | (with_reducible refine Below.alloc ?_ (by first | omega | (simp; omega) | simp) _) | (with_reducible refine Below.setCell ?_ (by first | omega | (simp; omega) | simp) _) | (with_reducible refine Below.drew ?_) | (with_reducible refine below_drewN ?_ _)))⟩
    · have HV := Lib.hid (show vldB n e = false by simp [vldB, h2])
      rw [HV.out]
      go_enter Try.func30, Try.ntmps30
      go_wp2
      go_ret
      exact ⟨rfl, (by repeat' (first | (with_reducible exact Below.refl _ _) | (with_reducible assumption) | (with_reducible refine Below.alloc ?_ (by first | omega | (simp; omega) | simp) _) | (with_reducible refine Below.setCell ?_ (by first | omega | (simp; omega) | simp) _) | (with_reducible refine Below.drew ?_) | (with_reducible refine below_drewN ?_ _)))⟩
  · have HV := Lib.hid (show vldB n e = false by simp [vldB, h1])
    rw [HV.out]
    go_enter Try.func30, Try.ntmps30
    go_wp2
    go_ret
    exact ⟨rfl, (by repeat' (first | (with_reducible exact Below.refl _ _) | (with_reducible assumption) | (with_reducible refine Below.alloc ?_ (by first | omega | (simp; omega) | simp) _) | (with_reducible refine Below.setCell ?_ (by first | omega | (simp; omega) | simp) _) | (with_reducible refine Below.drew ?_) | (with_reducible refine below_drewN ?_ _)))⟩
theorem isDyad_b (n e : Int) (w : World) (r : Bool) (hr : r = vldB n e) :
    Calls Try.prog 30 #[.agg #[.int .i64 n, .int .i64 e]] w (PostB w r) := hr ▸ isDyad_any n e w

set_option maxHeartbeats 1000000 in
theorem l8Valid_b (n e : Int) (w : World) (r : Bool) (hr : r = vldB n e) :
    Calls Try.prog 34 #[.agg #[.int .i64 n, .int .i64 e]] w (PostB w r) := by
  have HR := Lib.hid hr
  clear hr
  obtain ⟨r1, hr1⟩ : ∃ r, r = decide ((0 : Int) ≤ n ∧ n ≤ 1073741824) := ⟨_, rfl⟩
  obtain ⟨r2, hr2⟩ : ∃ r, r = decide ((0 : Int) ≤ e ∧ e ≤ 30) := ⟨_, rfl⟩
  have H1 := Lib.hid hr1
  have H2 := Lib.hid hr2
  clear hr1 hr2
  cases r1
  · have hv : r = false := by have := H1.out; rw [HR.out]; simp at this; simp [vldB]; omega
    subst hv
    go_enter Try.func34, Try.ntmps34
    go_wp2_with fail
    refine (l1In_b _ _ _ _ _ H1.out).mono ?_
    rintro e w1 ⟨rfl, hb1⟩
    have hB1 : Below w.heap.size w w1 := Below.after (by repeat' (first | (with_reducible exact Below.refl _ _) | (with_reducible assumption) | (with_reducible refine Below.alloc ?_ (by first | omega | (simp; omega) | simp) _) | (with_reducible refine Below.setCell ?_ (by first | omega | (simp; omega) | simp) _) | (with_reducible refine Below.drew ?_) | (with_reducible refine below_drewN ?_ _))) hb1 (by first | omega | (simp only [World.size_alloc, World.size_setCell, World.size_drew] at *; omega) | (simp; omega) | simp); have s1 := hb1.size; try simp only [World.size_alloc, World.size_setCell, World.size_drew] at s1
    go_wp2
    go_ret
    exact ⟨rfl, hB1⟩
  · have k1 : 0 ≤ n ∧ n ≤ 1073741824 := by have := H1.out; simpa using this
    obtain ⟨k1, k1'⟩ := k1
    cases r2
    · have hv : r = false := by have := H2.out; rw [HR.out]; simp at this; simp [vldB]; omega
      subst hv
      go_enter Try.func34, Try.ntmps34
      go_wp2_with fail
      refine (l1In_b _ _ _ _ _ H1.out).mono ?_
      rintro e w1 ⟨rfl, hb1⟩
      have hB1 : Below w.heap.size w w1 := Below.after (by repeat' (first | (with_reducible exact Below.refl _ _) | (with_reducible assumption) | (with_reducible refine Below.alloc ?_ (by first | omega | (simp; omega) | simp) _) | (with_reducible refine Below.setCell ?_ (by first | omega | (simp; omega) | simp) _) | (with_reducible refine Below.drew ?_) | (with_reducible refine below_drewN ?_ _))) hb1 (by first | omega | (simp only [World.size_alloc, World.size_setCell, World.size_drew] at *; omega) | (simp; omega) | simp); have s1 := hb1.size; try simp only [World.size_alloc, World.size_setCell, World.size_drew] at s1
      have q1 := oldc (b := w.heap.size) (o := 1) hb1 (by simp) (by simp; rfl)
      go_wp2_with fail
      refine (l1In_b _ _ _ _ _ H2.out).mono ?_
      rintro e w2 ⟨rfl, hb2⟩
      have hB2 : Below w.heap.size w w2 := hB1.trans (hb2.mono (by omega))
      go_wp2
      go_ret
      exact ⟨rfl, hB2⟩
    · have k2 : 0 ≤ e ∧ e ≤ 30 := by have := H2.out; simpa using this
      obtain ⟨k2, k2'⟩ := k2
      have hv : r = (decide (e = 0) || decide (n % 2 = 1)) := by rw [HR.out]; simp [vldB, k1, k1', k2, k2']
      have HV := Lib.hid hv
      clear hv
      by_cases h5 : e = 0
      · subst h5
        have hv : r = true := by rw [HV.out]; simp
        subst hv
        go_enter Try.func34, Try.ntmps34
        go_wp2_with fail
        refine (l1In_b _ _ _ _ _ H1.out).mono ?_
        rintro e w1 ⟨rfl, hb1⟩
        have hB1 : Below w.heap.size w w1 := Below.after (by repeat' (first | (with_reducible exact Below.refl _ _) | (with_reducible assumption) | (with_reducible refine Below.alloc ?_ (by first | omega | (simp; omega) | simp) _) | (with_reducible refine Below.setCell ?_ (by first | omega | (simp; omega) | simp) _) | (with_reducible refine Below.drew ?_) | (with_reducible refine below_drewN ?_ _))) hb1 (by first | omega | (simp only [World.size_alloc, World.size_setCell, World.size_drew] at *; omega) | (simp; omega) | simp); have s1 := hb1.size; try simp only [World.size_alloc, World.size_setCell, World.size_drew] at s1
        have q1 := oldc (b := w.heap.size) (o := 1) hb1 (by simp) (by simp; rfl)
        go_wp2_with fail
        refine (l1In_b _ _ _ _ _ H2.out).mono ?_
        rintro e w2 ⟨rfl, hb2⟩
        have q1 := oldc (b := w.heap.size) (o := 1) hb2 (by omega) q1
        have hB2 : Below w.heap.size w w2 := hB1.trans (hb2.mono (by omega))
        go_wp2
        go_ret
        exact ⟨rfl, hB2⟩
      · have hb5 : (e == 0) = false := by simp [h5]
        obtain ⟨r3, hr3⟩ : ∃ r, r = (n % 2 == 1) := ⟨_, rfl⟩
        have hv : r = r3 := by rw [HV.out, hr3]; simp [h5]; by_cases hh : n % 2 = 1 <;> simp [hh]
        subst hv
        have H3 : (n % 2 == 1) = r := hr3.symm
        clear h5 hr3
        go_enter Try.func34, Try.ntmps34
        go_wp2_with fail
        refine (l1In_b _ _ _ _ _ H1.out).mono ?_
        rintro e w1 ⟨rfl, hb1⟩
        have hB1 : Below w.heap.size w w1 := Below.after (by repeat' (first | (with_reducible exact Below.refl _ _) | (with_reducible assumption) | (with_reducible refine Below.alloc ?_ (by first | omega | (simp; omega) | simp) _) | (with_reducible refine Below.setCell ?_ (by first | omega | (simp; omega) | simp) _) | (with_reducible refine Below.drew ?_) | (with_reducible refine below_drewN ?_ _))) hb1 (by first | omega | (simp only [World.size_alloc, World.size_setCell, World.size_drew] at *; omega) | (simp; omega) | simp); have s1 := hb1.size; try simp only [World.size_alloc, World.size_setCell, World.size_drew] at s1
        have q0 := oldc (b := w.heap.size) (o := 0) hb1 (by simp) (by simp; rfl)
        have q1 := oldc (b := w.heap.size) (o := 1) hb1 (by simp) (by simp; rfl)
        go_wp2_with fail
        refine (l1In_b _ _ _ _ _ H2.out).mono ?_
        rintro e w2 ⟨rfl, hb2⟩
        have q0 := oldc (b := w.heap.size) (o := 0) hb2 (by omega) q0
        have q1 := oldc (b := w.heap.size) (o := 1) hb2 (by omega) q1
        have hB2 : Below w.heap.size w w2 := hB1.trans (hb2.mono (by omega))
        go_wp2
        go_ret
        exact ⟨rfl, hB2⟩

/-- A dyad comes back. -/
def PostD (w : World) (d : Int × Int) (e : Ending) (w' : World) : Prop := e = .returned (.agg #[.int .i64 d.1, .int .i64 d.2]) ∧ Below w.heap.size w w'
/-- A dyad comes back, and whether it is one. -/
def PostDB (w : World) (d : Int × Int) (b : Bool) (e : Ending) (w' : World) : Prop := e = .returned (.tuple #[.agg #[.int .i64 d.1, .int .i64 d.2], .bool b]) ∧ Below w.heap.size w w'

set_option maxHeartbeats 1000000 in
theorem l8Reduce_any (n e : Int) (w : World) (h0 : 0 ≤ n) (h1 : n ≤ 9223372036854775807) (he : -9223372036854775808 ≤ e) (he : e ≤ 9223372036854775807) :
    Calls Try.prog 32 #[.int .i64 n, .int .i64 e] w (PostD w (red n e)) := by
  go_enter Try.func32, Try.ntmps32
  go_wp2
  go_loop [0, 1] (fun a b => ∃ n' e' : Int, a = .int .i64 n' ∧ b = .int .i64 e' ∧ 0 ≤ n' ∧ n' ≤ 9223372036854775807 ∧ e' ≤ e ∧ Hid (red n' e' = red n e)) (fun _ b => (intOf b).toNat)
  case atStart => exact ⟨n, e, rfl, rfl, h0, h1, by omega, rfl⟩
  case round =>
    obtain ⟨n', e', rfl, rfl, h0', h1', h2', hr⟩ := hrel
    by_cases hc : 0 < e' ∧ n' % 2 = 0
    · obtain ⟨ha, hb⟩ := hc
      have HH : Hid (red (n' / 2) (e' - 1) = red n e) := by rw [← red_step _ _ ha hb]; exact hr.out
      clear hr
      go_wp2
      go_round
      case rel => exact ⟨n' / 2, e' - 1, rfl, rfl, by omega, by omega, by omega, HH⟩
      case measure => simp [intOf]; omega
    · have HH : Hid (red n e = (n', e')) := by rw [← hr.out]; exact red_stop _ _ hc
      clear hr
      go_wp2
      all_goals
        exact bodyPost_ret (v := .agg #[.int .i64 (red n e).1, .int .i64 (red n e).2]) (by rw [HH.out]; simp [results, go_sem]) rfl ⟨rfl, (by repeat' (first | (with_reducible exact Below.refl _ _) | (with_reducible assumption) | (with_reducible refine Below.alloc ?_ (by first | omega | (simp; omega) | simp) _) | (with_reducible refine Below.setCell ?_ (by first | omega | (simp; omega) | simp) _) | (with_reducible refine Below.drew ?_) | (with_reducible refine below_drewN ?_ _)))⟩

set_option maxHeartbeats 1000000 in
theorem dyadOf_any (n e : Int) (w : World) (h0 : 0 ≤ n) (h1 : n ≤ 9223372036854775807) (he : -9223372036854775808 ≤ e) (he : e ≤ 9223372036854775807) :
    Calls Try.prog 29 #[.int .i64 n, .int .i64 e] w (PostDB w (red n e) (vldB (red n e).1 (red n e).2)) := by
  go_enter Try.func29, Try.ntmps29
  go_wp2
  go_loop [0, 1] (fun a b => ∃ n' e' : Int, a = .int .i64 n' ∧ b = .int .i64 e' ∧ 0 ≤ n' ∧ n' ≤ 9223372036854775807 ∧ e' ≤ e ∧ Hid (red n' e' = red n e)) (fun _ b => (intOf b).toNat)
  case atStart => exact ⟨n, e, rfl, rfl, h0, h1, by omega, rfl⟩
  case round =>
    obtain ⟨n', e', rfl, rfl, h0', h1', h2', hr⟩ := hrel
    by_cases hc : 0 < e' ∧ n' % 2 = 0
    · obtain ⟨ha, hb⟩ := hc
      have HH : Hid (red (n' / 2) (e' - 1) = red n e) := by rw [← red_step _ _ ha hb]; exact hr.out
      clear hr
      go_wp2
      go_round
      case rel => exact ⟨n' / 2, e' - 1, rfl, rfl, by omega, by omega, by omega, HH⟩
      case measure => simp [intOf]; omega
    · have HH : Hid (red n e = (n', e')) := by rw [← hr.out]; exact red_stop _ _ hc
      obtain ⟨r, hv⟩ : ∃ r, r = vldB n' e' := ⟨_, rfl⟩
      have HV := Lib.hid hv
      clear hr hv
      go_wp2
      all_goals
        go_region_held3 (fun w' => w'.cell? ⟨w.heap.size + 1, 0, none⟩ = some (.int .i64 n') ∧ w'.cell? ⟨w.heap.size + 1, 1, none⟩ = some (.int .i64 e')) (go_keep) (first | (go_at_call 30; refine (isDyad_b _ _ _ _ HV.out).mono ?_; rintro r w' ⟨rfl, hb⟩; have hB := Below.after (show Below w.heap.size w _ from (by repeat' (first | (with_reducible exact Below.refl _ _) | (with_reducible assumption) | (with_reducible refine Below.alloc ?_ (by first | omega | (simp; omega) | simp) _) | (with_reducible refine Below.setCell ?_ (by first | omega | (simp; omega) | simp) _) | (with_reducible refine Below.drew ?_) | (with_reducible refine below_drewN ?_ _)))) hb (by first | omega | (simp only [World.size_alloc, World.size_setCell, World.size_drew] at *; omega) | (simp; omega) | simp); obtain ⟨hc, hf⟩ := bcell hb; have q0 := oldc (b := w.heap.size) (o := 0) hb (by simp; omega) (by simp; rfl); have q1 := oldc (b := w.heap.size) (o := 1) hb (by simp; omega) (by simp; rfl)))
        go_wp2
        exact bodyPost_ret (v := .tuple #[.agg #[.int .i64 (red n e).1, .int .i64 (red n e).2], .bool (vldB (red n e).1 (red n e).2)]) (by rw [HH.out, ← HV.out]; simp [results, go_sem, q0, q1]) rfl ⟨rfl, (by repeat' (first | (with_reducible exact Below.refl _ _) | (with_reducible assumption) | (with_reducible refine Below.alloc ?_ (by first | omega | (simp; omega) | simp) _) | (with_reducible refine Below.setCell ?_ (by first | omega | (simp; omega) | simp) _) | (with_reducible refine Below.drew ?_) | (with_reducible refine below_drewN ?_ _)))⟩
end Go.Proofs.Ytmbnhjohmodflaa
