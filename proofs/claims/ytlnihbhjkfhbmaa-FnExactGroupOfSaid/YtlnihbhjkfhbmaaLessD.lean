/- Contracts that say the end's world to the letter: lessInts, and the comparison that impl.group hands to the sort. -/
import Derived.Test.YtlnihbhjkfhbmaaLex
import Derived.Test.YtlnihbhjkfhbmaaRds
import Derived.Test.YtlnihbhjkfhbmaaSort
namespace Go.Proofs.Ytlnihbhjkfhbmaa
set_option linter.unusedVariables false
set_option linter.unusedSimpArgs false
open Go.RowKit

set_option maxHeartbeats 1000000 in
theorem lessInts_d {z z' : Bool} {lo hi lo' hi' : Nat} {w : World} {u v : Value} {xs ys : List Int} (h : Rd z lo hi w [u] xs) (h' : Rd z' lo' hi' w [v] ys) (r : Bool) (hr : r = lexB xs ys) :
    Calls Try.prog 35 #[u, v] w (PostD w r) := by
  obtain ⟨ao, n, cap, rfl, rfl, hnc, hcm, hnone⟩ := h.shape
  obtain ⟨ao', n', cap', rfl, rfl, hnc', hcm', hnone'⟩ := h'.shape
  unfold maxLen at *
  have HR := Lib.hid hr
  clear hr
  go_enter Try.func35, Try.ntmps35
  go_wp2
  go_loopw [5] (fun i wr => ∃ k : Nat, k ≤ xs.length ∧ k ≤ ys.length ∧ i = .int .i64 k ∧ Hid (r = lexB (xs.drop k) (ys.drop k)) ∧ Hid (∃ q, wr = w.drewN q)) (fun i _ => xs.length - (intOf i).toNat)
  case atStart => exact ⟨0, Nat.zero_le _, Nat.zero_le _, rfl, Lib.hid (by simpa using HR.out), Lib.hid ⟨0, rfl⟩⟩
  case round =>
    clear HR
    obtain ⟨k, hk, hk', rfl, ht, hqw⟩ := hrel
    have hb : Below w.heap.size w wr := by
      obtain ⟨q, rfl⟩ := hqw.out
      exact below_drewN (Below.refl _ _) _
    by_cases hlt : k < xs.length
    · by_cases hlt' : k < ys.length
      · obtain ⟨b, off, x, rfl, hx, hc, hx1, hx2, _⟩ := (h.below hb).int_at hlt
        obtain ⟨b', off', y, rfl, hy, hc', hy1, hy2, _⟩ := (h'.below hb).int_at hlt'
        have hI : (k : Int) < (xs.length : Int) := by omega
        have hI' : (k : Int) < (ys.length : Int) := by omega
        clear h h'
        by_cases hxy : x = y
        · subst hxy
          have HT : Hid (r = lexB (xs.drop (k + 1)) (ys.drop (k + 1))) := by rw [ht.out, lexB_step hx.out hy.out]; rfl
          clear ht hx hy
          go_wp2_with fail
          go_quiet (fail)
          go_wp2
          go_roundw
          case rel => exact ⟨k + 1, by omega, by omega, by go_num, HT, Lib.hid (drew_on hqw.out _)⟩
          case measure => simp [intOf]; omega
        · have hne : (x != y) = true := by simpa using hxy
          have HF : Hid (r = decide (x < y)) := by rw [ht.out, lexB_ne hx.out hy.out hxy]; rfl
          clear ht hx hy hxy
          go_wp2_with fail
          go_quiet (fail)
          go_wp2_with fail
          go_quiet (fail)
          go_wp2
          go_ret
          exact ⟨ret_bool HF.out.symm, by first | exact drew_on (drew_on hqw.out _) _ | exact drew_on hqw.out _⟩
      · have HF := Lib.hid (show r = decide (xs.length < ys.length) by
          rw [ht.out, lexB_end2 (by omega) hlt]; simp; omega)
        have hI : (k : Int) < (xs.length : Int) := by omega
        have hI' : ¬ (k : Int) < (ys.length : Int) := by omega
        clear h h' ht
        go_wp2
        go_ret
        exact ⟨ret_bool (by rw [HF.out]; try simp), hqw.out⟩
    · have HF := Lib.hid (show r = decide (xs.length < ys.length) by
        rw [ht.out, lexB_end1 (by omega) hk']
        have : k = xs.length := by omega
        rw [this])
      have hI : ¬ (k : Int) < (xs.length : Int) := by omega
      clear h h' ht
      go_wp2
      go_ret
      exact ⟨ret_bool (by rw [HF.out]; try simp), hqw.out⟩
set_option maxHeartbeats 1000000 in
theorem lessG_d {lo hi : Nat} {W : World} {v : Value} {B : Nat} {ys : Pms} (hB : W.cell? ⟨B, 0, none⟩ = some v) (h : Rd false lo hi W [v] ys) (i j : Nat) (hi' : i < ys.length) (hj : j < ys.length) (hl : ys.length < 4611686018427387904) (r : Bool) (hr : r = lexB ys[i] ys[j]) :
    Calls Try.prog 34 #[.int .i64 i, .int .i64 j, .pointer (some ⟨B, 0, none⟩)] W (PostD W r) := by
  obtain ⟨ao, n, cap, rfl, hn, -⟩ := h.shape
  subst hn
  obtain ⟨b, off, p, vp, e, hp, cp, hrp, -, -, hb⟩ := h.lists_at hi'
  subst e
  obtain ⟨b2, off2, q, vq, e, hq, cq, hrq, -, -, -⟩ := h.lists_at hj
  simp only [Option.some.injEq, Addr.mk.injEq, and_true] at e
  obtain ⟨rfl, rfl⟩ := e
  have e1 : ys[i] = p := by have := hp.out; rw [List.getElem?_eq_getElem hi'] at this; exact Option.some.inj this
  have e2 : ys[j] = q := by have := hq.out; rw [List.getElem?_eq_getElem hj] at this; exact Option.some.inj this
  rw [e1, e2] at hr
  have HR := Lib.hid hr
  have HP := Lib.hid hrp
  have HQ := Lib.hid hrq
  clear hr hrp hrq h hp hq e1 e2
  go_enter Try.func34, Try.ntmps34
  go_wp2_with fail
  go_quiet (first | (go_at_call 35; exact Calls.quiet_of (lessInts_d (HP.out.below (below_drewN (Below.refl _ _) _)) (HQ.out.below (below_drewN (Below.refl _ _) _)) r HR.out)))
  go_wp2
  go_ret
  exact ⟨rfl, _, rfl⟩
end Go.Proofs.Ytlnihbhjkfhbmaa
