/- Contracts of the tests of dyads. -/
import Derived.Test.YtcfljencchopkaaDoorTy
namespace Go.Proofs.YtcfljencchopkaaDoor
set_option linter.unusedVariables false
set_option linter.unusedSimpArgs false
open Go.RowKit

theorem l1In_any (x a b : Int) (w : World) :
    Calls Tryd.prog 11 #[.int .i64 x, .int .i64 a, .int .i64 b] w (PostB w (decide (a ≤ x ∧ x ≤ b))) := by
  by_cases h1 : a ≤ x
  · by_cases h2 : x ≤ b
    · have HF := Lib.hid (show decide (a ≤ x ∧ x ≤ b) = true by simp [h1, h2])
      rw [HF.out]
      go_enter Tryd.func11, Tryd.ntmps11
      go_wp2
      go_ret
      exact ⟨rfl, Below.refl _ _⟩
    · have HF := Lib.hid (show decide (a ≤ x ∧ x ≤ b) = false by simp [h2])
      rw [HF.out]
      go_enter Tryd.func11, Tryd.ntmps11
      go_wp2
      go_ret
      exact ⟨rfl, Below.refl _ _⟩
  · have HF := Lib.hid (show decide (a ≤ x ∧ x ≤ b) = false by simp [h1])
    rw [HF.out]
    go_enter Tryd.func11, Tryd.ntmps11
    go_wp2
    go_ret
    exact ⟨rfl, Below.refl _ _⟩
theorem l1In_b (x a b : Int) (w : World) (r : Bool) (h : r = decide (a ≤ x ∧ x ≤ b)) :
    Calls Tryd.prog 11 #[.int .i64 x, .int .i64 a, .int .i64 b] w (PostB w r) := h ▸ l1In_any x a b w

/-- A valid dyad n / 2^e. -/
def vldB (n e : Int) : Bool := decide (0 ≤ n) && decide (n ≤ 1073741824) && decide (0 ≤ e) && decide (e ≤ 30) && (decide (e = 0) || decide (n % 2 = 1))

theorem pow_bd {k : Nat} (h : k ≤ 30) : (1 : Int) ≤ 2 ^ k ∧ (2 : Int) ^ k ≤ 1073741824 := by
  have h1 : (1 : Nat) ≤ 2 ^ k := Nat.one_le_two_pow
  have h2 : (2 : Nat) ^ k ≤ 2 ^ 30 := Nat.pow_le_pow_right (by omega) h
  have e : ((2 ^ k : Nat) : Int) = (2 : Int) ^ k := by simp
  rw [← e]
  simp only [Nat.reducePow] at h2
  omega
set_option maxHeartbeats 1000000 in
theorem isDyad_any (n e : Int) (w : World) :
    Calls Tryd.prog 9 #[.agg #[.int .i64 n, .int .i64 e]] w (PostB w (vldB n e)) := by
  by_cases h1 : 0 ≤ n
  · by_cases h2 : n ≤ 1073741824
    · by_cases h3 : 0 ≤ e
      · by_cases h4 : e ≤ 30
        · by_cases h5 : e = 0
          · subst h5
            have HV := Lib.hid (show vldB n 0 = true by simp [vldB, h1, h2])
            rw [HV.out]
            go_enter Tryd.func9, Tryd.ntmps9
            go_wp2
            go_ret
            exact ⟨rfl, bwT⟩
          · have hb5 : (e == 0) = false := by simp [h5]
            by_cases h6 : n % 2 = 1
            · have HV := Lib.hid (show vldB n e = true by simp [vldB, h1, h2, h3, h4, h6])
              rw [HV.out]
              have hb6 : (n % 2 == 1) = true := by simp [h6]
              clear h5 h6
              go_enter Tryd.func9, Tryd.ntmps9
              go_wp2
              go_ret
              exact ⟨rfl, bwT⟩
            · have HV := Lib.hid (show vldB n e = false by simp [vldB, h5, h6])
              rw [HV.out]
              have hb6 : (n % 2 == 1) = false := by simp [h6]
              clear h5 h6
              go_enter Tryd.func9, Tryd.ntmps9
              go_wp2
              go_ret
              exact ⟨rfl, bwT⟩
        · have HV := Lib.hid (show vldB n e = false by simp [vldB, h4])
          rw [HV.out]
          go_enter Tryd.func9, Tryd.ntmps9
          go_wp2
          go_ret
          exact ⟨rfl, bwT⟩
      · have HV := Lib.hid (show vldB n e = false by simp [vldB, h3])
        rw [HV.out]
        go_enter Tryd.func9, Tryd.ntmps9
        go_wp2
        go_ret
        exact ⟨rfl, bwT⟩
    · have HV := Lib.hid (show vldB n e = false by simp [vldB, h2])
      rw [HV.out]
      go_enter Tryd.func9, Tryd.ntmps9
      go_wp2
      go_ret
      exact ⟨rfl, bwT⟩
  · have HV := Lib.hid (show vldB n e = false by simp [vldB, h1])
    rw [HV.out]
    go_enter Tryd.func9, Tryd.ntmps9
    go_wp2
    go_ret
    exact ⟨rfl, bwT⟩
theorem isDyad_b (n e : Int) (w : World) (r : Bool) (hr : r = vldB n e) :
    Calls Tryd.prog 9 #[.agg #[.int .i64 n, .int .i64 e]] w (PostB w r) := hr ▸ isDyad_any n e w
set_option maxHeartbeats 1000000 in
theorem l8Valid_b (n e : Int) (w : World) (r : Bool) (hr : r = vldB n e) :
    Calls Tryd.prog 7 #[.agg #[.int .i64 n, .int .i64 e]] w (PostB w r) := by
  have HR := Lib.hid hr
  clear hr
  obtain ⟨r1, hr1⟩ : ∃ r, r = decide ((0 : Int) ≤ n ∧ n ≤ 1073741824) := ⟨_, rfl⟩
  obtain ⟨r2, hr2⟩ : ∃ r, r = decide ((0 : Int) ≤ e ∧ e ≤ 30) := ⟨_, rfl⟩
  have H1 := Lib.hid hr1
  have H2 := Lib.hid hr2
  clear hr1 hr2
  cases r1
  · have hv : r = false := by have := H1.out; rw [HR.out]; simp at this; simp [vldB]; omega
    subst hv
    go_enter Tryd.func7, Tryd.ntmps7
    go_wp2_with fail
    refine (l1In_b _ _ _ _ _ H1.out).mono ?_
    rintro e w1 ⟨rfl, hb1⟩
    have hB1 : Below w.heap.size w w1 := Below.after bwT hb1 szT; have s1 := hb1.size; try simp only [World.size_alloc, World.size_setCell, World.size_drew] at s1
    go_wp2
    go_ret
    exact ⟨rfl, hB1⟩
  · have k1 : 0 ≤ n ∧ n ≤ 1073741824 := by have := H1.out; simpa using this
    obtain ⟨k1, k1'⟩ := k1
    cases r2
    · have hv : r = false := by have := H2.out; rw [HR.out]; simp at this; simp [vldB]; omega
      subst hv
      go_enter Tryd.func7, Tryd.ntmps7
      go_wp2_with fail
      refine (l1In_b _ _ _ _ _ H1.out).mono ?_
      rintro e w1 ⟨rfl, hb1⟩
      have hB1 : Below w.heap.size w w1 := Below.after bwT hb1 szT; have s1 := hb1.size; try simp only [World.size_alloc, World.size_setCell, World.size_drew] at s1
      have q1 := oldc (b := w.heap.size) (o := 1) hb1 (by simp) (by simp; rfl)
      go_wp2_with fail
      refine (l1In_b _ _ _ _ _ H2.out).mono ?_
      rintro e w2 ⟨rfl, hb2⟩
      have hB2 : Below w.heap.size w w2 := hB1.trans (hb2.mono (by omega))
      go_wp2
      go_ret
      exact ⟨rfl, hB2⟩
    · have k2 : 0 ≤ e ∧ e ≤ 30 := by have := H2.out; simpa using this
      obtain ⟨k2, k2'⟩ := k2
      have hv : r = (decide (e = 0) || decide (n % 2 = 1)) := by rw [HR.out]; simp [vldB, k1, k1', k2, k2']
      have HV := Lib.hid hv
      clear hv
      by_cases h5 : e = 0
      · subst h5
        have hv : r = true := by rw [HV.out]; simp
        subst hv
        go_enter Tryd.func7, Tryd.ntmps7
        go_wp2_with fail
        refine (l1In_b _ _ _ _ _ H1.out).mono ?_
        rintro e w1 ⟨rfl, hb1⟩
        have hB1 : Below w.heap.size w w1 := Below.after bwT hb1 szT; have s1 := hb1.size; try simp only [World.size_alloc, World.size_setCell, World.size_drew] at s1
        have q1 := oldc (b := w.heap.size) (o := 1) hb1 (by simp) (by simp; rfl)
        go_wp2_with fail
        refine (l1In_b _ _ _ _ _ H2.out).mono ?_
        rintro e w2 ⟨rfl, hb2⟩
        have q1 := oldc (b := w.heap.size) (o := 1) hb2 (by omega) q1
        have hB2 : Below w.heap.size w w2 := hB1.trans (hb2.mono (by omega))
        go_wp2
        go_ret
        exact ⟨rfl, hB2⟩
      · have hb5 : (e == 0) = false := by simp [h5]
        obtain ⟨r3, hr3⟩ : ∃ r, r = (n % 2 == 1) := ⟨_, rfl⟩
        have hv : r = r3 := by rw [HV.out, hr3]; simp [h5]; by_cases hh : n % 2 = 1 <;> simp [hh]
        subst hv
        have H3 : (n % 2 == 1) = r := hr3.symm
        clear h5 hr3
        go_enter Tryd.func7, Tryd.ntmps7
        go_wp2_with fail
        refine (l1In_b _ _ _ _ _ H1.out).mono ?_
        rintro e w1 ⟨rfl, hb1⟩
        have hB1 : Below w.heap.size w w1 := Below.after bwT hb1 szT; have s1 := hb1.size; try simp only [World.size_alloc, World.size_setCell, World.size_drew] at s1
        have q0 := oldc (b := w.heap.size) (o := 0) hb1 (by simp) (by simp; rfl)
        have q1 := oldc (b := w.heap.size) (o := 1) hb1 (by simp) (by simp; rfl)
        go_wp2_with fail
        refine (l1In_b _ _ _ _ _ H2.out).mono ?_
        rintro e w2 ⟨rfl, hb2⟩
        have q0 := oldc (b := w.heap.size) (o := 0) hb2 (by omega) q0
        have q1 := oldc (b := w.heap.size) (o := 1) hb2 (by omega) q1
        have hB2 : Below w.heap.size w w2 := hB1.trans (hb2.mono (by omega))
        go_wp2
        go_ret
        exact ⟨rfl, hB2⟩
end Go.Proofs.YtcfljencchopkaaDoor
