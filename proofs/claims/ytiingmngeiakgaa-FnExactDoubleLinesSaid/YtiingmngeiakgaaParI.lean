/- Contract of parentFits. -/
import Derived.Test.YtiingmngeiakgaaName
import Derived.Test.YtiingmngeiakgaaTyPerson
namespace Go.Proofs.Ytiingmngeiakgaa
set_option linter.unusedVariables false
set_option linter.unusedSimpArgs false
open Go.RowKit

set_option maxRecDepth 20000 in
set_option maxHeartbeats 4000000 in
theorem parI_b {z : Bool} {lo hi : Nat} (w : World) (v : Value) (ps : List Per) (h : Rd z lo hi w [v] ps) (k : Nat) (hP : PplTo ps k) {nm : ByteArray} {sx fa mo born di : Int} (hk : ps[k]? = some (nm, sx, fa, mo, born, di)) (q : Int) (sex late : Int) (hl0 : 0 ≤ late) (hl1 : late ≤ 1)
    (r : Bool) (hr : r = upOk ps k born q sex late) :
    Calls Try.prog 57 #[v, .int .i64 k, .int .i64 q, .int .i64 sex, .int .i64 late] w (PostB w r) := by
  obtain ⟨ao, n, cap, rfl, rfl, hnc, hcm, hnone⟩ := h.shape
  unfold maxLen at *
  have hkl : k < ps.length := (List.getElem?_eq_some_iff.1 hk).1
  have HR := Lib.hid hr
  clear hr
  by_cases h1 : q = -1
  · obtain rfl : r = true := by rw [HR.out, upOk]; simp [h1]
    subst h1
    clear h hP
    go_enter Try.func57, Try.ntmps57
    go_wp2
    go_ret
    exact ⟨rfl, bwT⟩
  have h1' : (q == -1) = false := by simpa using h1
  by_cases h2 : 0 ≤ q ∧ q < k
  · obtain ⟨m, rfl⟩ := Int.eq_ofNat_of_zero_le h2.1
    have hm : m < k := by omega
    obtain ⟨b, off, nm0, sx0, fa0, mo0, bo0, di0, rfl, hx, p0, p1, p2, p3, p4, p5, g0, g1, g2, g3, g4, g5, -, -, hbl, -⟩ := h.per_at (show m < ps.length by omega)
    obtain ⟨_, _, nm1, sx1, fa1, mo1, bo1, di1, ee, hy, -, -, -, -, c4, -, -, -, -, -, -, -, -, -, -, -⟩ := h.per_at hkl
    simp only [Option.some.injEq, Addr.mk.injEq, and_true] at ee
    obtain ⟨rfl, rfl⟩ := ee
    obtain ⟨rfl, rfl, rfl, rfl, rfl, rfl⟩ : nm = nm1 ∧ sx = sx1 ∧ fa = fa1 ∧ mo = mo1 ∧ born = bo1 ∧ di = di1 := by
      have := hk.symm.trans hy.out
      simpa using this
    obtain ⟨-, f2, f3, -⟩ := hP.at hm hx.out
    have HB := Lib.hid (show r = (decide (sx0 = sex) && (decide (bo0 < born) && (decide (di0 = -1) || decide (born ≤ di0 + late)))) by
      rw [HR.out, upOk, upC, Int.toNat_natCast, hx.out]
      have e1 : ¬ ((m : Nat) : Int) = -1 := by omega
      have e2 : (0 : Int) ≤ ((m : Nat) : Int) ∧ ((m : Nat) : Int) < (k : Int) := by omega
      simp only [e1, e2, decide_false, decide_true, and_self, Bool.false_or, Bool.true_and]
      rw [Bool.decide_or])
    have hI1 : ¬ ((m : Nat) : Int) < 0 := by omega
    have hI2 : ¬ ((k : Nat) : Int) ≤ ((m : Nat) : Int) := by omega
    have hI3 : ((m : Nat) : Int) < (ps.length : Int) := by omega
    have hI4 : ((k : Nat) : Int) < (ps.length : Int) := by omega
    have hwr : IntKind.i64.wrap (di0 + late) = di0 + late := IntWalk.i64_in _ (by omega)
    have nb1 : ¬ b = w.heap.size := by omega
    have nb2 : ¬ w.heap.size = b := by omega
    clear h hP hx hy hk HR h2 f2 f3
    by_cases q1 : sx0 = sex
    · have q1' : (sx0 == sex) = true := by simpa using q1
      by_cases q2 : bo0 < born
      · by_cases q3 : di0 = -1
        · have q3' : (di0 == -1) = true := by simpa using q3
          obtain rfl : r = true := by rw [HB.out]; simp [*]
          clear HB
          go_enter Try.func57, Try.ntmps57
          go_wp2_with fail
          go_quiet (fail)
          go_wp2
          go_ret
          exact ⟨rfl, bwT⟩
        · have q3' : (di0 == -1) = false := by simpa using q3
          by_cases q4 : born ≤ di0 + late
          · obtain rfl : r = true := by rw [HB.out]; simp [*]
            clear HB
            go_enter Try.func57, Try.ntmps57
            go_wp2_with fail
            go_quiet (fail)
            go_wp2
            go_ret
            exact ⟨rfl, bwT⟩
          · have q4' : decide (born ≤ di0 + late) = false := by simpa using q4
            obtain rfl : r = false := by rw [HB.out]; simp [q1, q2, q3, q4]
            clear HB
            go_enter Try.func57, Try.ntmps57
            go_wp2_with fail
            go_quiet (fail)
            go_wp2
            go_ret
            exact ⟨rfl, bwT⟩
      · have q2' : decide (bo0 < born) = false := by simpa using q2
        obtain rfl : r = false := by rw [HB.out]; simp [q1, q2]
        clear HB
        go_enter Try.func57, Try.ntmps57
        go_wp2_with fail
        go_quiet (fail)
        go_wp2
        go_ret
        exact ⟨rfl, bwT⟩
    · have q1' : (sx0 == sex) = false := by simpa using q1
      obtain rfl : r = false := by rw [HB.out]; simp [q1]
      clear HB
      go_enter Try.func57, Try.ntmps57
      go_wp2_with fail
      go_quiet (fail)
      go_wp2
      go_ret
      exact ⟨rfl, bwT⟩
  · obtain rfl : r = false := by rw [HR.out, upOk]; simp [h1]; omega
    clear h hP HR
    go_enter Try.func57, Try.ntmps57
    go_wp2
    all_goals first
      | (exfalso; omega)
      | (go_ret; exact ⟨rfl, bwT⟩)
end Go.Proofs.Ytiingmngeiakgaa
