/- Contracts of FormatDyad (impl, spec); the walk of the law FnExactFormatDyad. -/
import Derived.Test.YtcfljencchopkaaDoorNum
import Derived.Test.YtcfljencchopkaaDoorVld
import Derived.Test.YtcfljencchopkaaDoorShf
import Derived.Lib.AppendIntMem
namespace Go.Proofs.YtcfljencchopkaaDoor
set_option linter.unusedVariables false
set_option linter.unusedSimpArgs false
open Go.RowKit Go.Shelf

theorem tab_at {P : Program} {nm : String} {k : IntKind} {zs : List Int} {w w' : World} (h : Lib.TabBelow P w.heap.size w nm k zs) (hs : w.heap.size ≤ w'.heap.size) (hb : Below w.heap.size w w') : Lib.TabBelow P w'.heap.size w' nm k zs :=
  fun w'' h'' => h w'' (hb.trans (h''.mono hs))
theorem itoa_dec {n : Int} (h : 0 ≤ n) : (⟨(Lib.itoa n).toArray⟩ : ByteArray) = decB n := by
  unfold Lib.itoa decB
  rw [if_neg (by omega)]
theorem itoa_any (n : Int) (h0 : 0 ≤ n) (h1 : n ≤ 4611686018427387904) (w : World) (ht : Lib.TabIs Tryd.prog w "internal/strconv.uint64pow10" .u64 Lib.pow10Tab) (K : ByteArray) (hK : K = decB n) :
    Calls Tryd.prog 10 #[.int .i64 n] w (PostV w (.string K)) := by
  have h := Any.strconv_Itoa it171 n (by omega) (by omega) w ht
  change Calls Tryd.prog 10 _ _ _ at h
  refine h.mono ?_
  rintro e w' ⟨rfl, k, os, rfl⟩
  refine ⟨by rw [itoa_dec h0, hK], ⟨rfl, rfl, rfl, by simp, fun b hb => ?_⟩⟩
  rw [Sort.heap_grow_old _ _ (by simpa using hb)]
  rfl
def fmtD (n e : Int) : ByteArray := if vldB n e = true then (if e = 0 then decB n else decB n ++ ⟨#[47]⟩ ++ decB (2 ^ e.toNat)) else ⟨#[]⟩
theorem vldB_of {n e : Int} (h : vldB n e = true) : 0 ≤ n ∧ n ≤ 1073741824 ∧ 0 ≤ e ∧ e ≤ 30 := by simp [vldB] at h; omega
theorem decB_len {n : Int} (h1 : n ≤ 4611686018427387904) : (decB n).size ≤ 20 := by
  have := decB_size n.toNat (by omega)
  simpa [decB, ByteArray.size] using this
set_option maxHeartbeats 2000000 in
theorem fmtDI_any (n e : Int) (w : World) (ht : Lib.TabBelow Tryd.prog w.heap.size w "internal/strconv.uint64pow10" .u64 Lib.pow10Tab) (K : ByteArray) (hK : K = fmtD n e) :
    Calls Tryd.prog 6 #[.agg #[.int .i64 n, .int .i64 e]] w (PostV w (.string K)) := by
  obtain ⟨r, hr⟩ : ∃ r, r = vldB n e := ⟨_, rfl⟩
  have HR := Lib.hid hr
  have HK := Lib.hid hK
  clear hr hK
  go_enter Tryd.func6, Tryd.ntmps6
  go_wp2_with fail
  refine (isDyad_b n e _ r HR.out).mono ?_
  rintro e1 w1 ⟨rfl, hbw1⟩
  have hpw1 : Below w.heap.size w w1 := Below.after bwT hbw1 szT
  have sw1 := hpw1.size
  have hBw1 : Below w.heap.size w w1 := hpw1
  have l_a : w.heap.size < w1.heap.size := by have := hbw1.size; simp at this; omega
  have q_a0 : w1.cell? ⟨w.heap.size, 0, none⟩ = some (.int .i64 n) := oldc hbw1 ltT (by simp [go_sem])
  have q_a1 : w1.cell? ⟨w.heap.size, 1, none⟩ = some (.int .i64 e) := oldc hbw1 ltT (by simp [go_sem])
  clear hbw1 hpw1
  cases r
  · have HF := Lib.hid (show K = ⟨#[]⟩ by rw [HK.out]; unfold fmtD; rw [← HR.out]; rfl)
    go_wp2
    go_ret
    exact ⟨by rw [HF.out]; rfl, hBw1⟩
  · obtain ⟨v1, v2, v3, v4⟩ := vldB_of HR.out.symm
    by_cases he : e = 0
    · subst he
      have HF := Lib.hid (show K = decB n by rw [HK.out]; unfold fmtD; rw [← HR.out]; rfl)
      go_wp2_with fail
      refine (itoa_any n (by omega) (by omega) _ (ht _ bwT) K HF.out).mono ?_
      rintro e2 w2 ⟨rfl, hbw2⟩
      have hpw2 : Below w1.heap.size w1 w2 := Below.after bwT hbw2 szT
      have sw2 := hpw2.size
      have hBw2 : Below w.heap.size w w2 := Below.trans hBw1 (Below.mono hpw2 hBw1.size)
      have q_a0 := oldc hpw2 l_a q_a0
      have q_a1 := oldc hpw2 l_a q_a1
      have l_a := Nat.lt_of_lt_of_le l_a sw2
      clear hbw2 hpw2
      go_wp2
      go_ret
      exact ⟨rfl, hBw2⟩
    · obtain ⟨a, ha⟩ : ∃ a, a = decB n := ⟨_, rfl⟩
      obtain ⟨k, rfl⟩ := Int.eq_ofNat_of_zero_le v3
      have HF := Lib.hid (show K = decB n ++ ⟨#[47]⟩ ++ decB (2 ^ k) by rw [HK.out]; unfold fmtD; rw [← HR.out, if_neg he]; rfl)
      obtain ⟨b, hb⟩ : ∃ b, b = decB (2 ^ k) := ⟨_, rfl⟩
      have HA := Lib.hid ha
      have HB := Lib.hid hb
      have hlb := pow_bd (k := k) (by omega)
      have hsa : a.size ≤ 20 := by rw [ha]; exact decB_len (by omega)
      have hsb : b.size ≤ 20 := by rw [hb]; exact decB_len (by omega)
      clear ha hb
      have HW := Lib.hid (show IntKind.i64.wrap ((2 : Int) ^ k) = 2 ^ k from IntWalk.i64_in _ (by omega))
      have hs47 : (⟨#[47]⟩ : ByteArray).size = 1 := rfl
      have g1 : ¬ 9223372036854775807 < a.size + 1 := by omega
      have g2 : ¬ 9223372036854775807 < (a ++ ⟨#[47]⟩).size + b.size := by rw [ByteArray.size_append]; omega
      have g3 : ¬ 9223372036854775807 < a.size + 1 + b.size := by omega
      go_wp2_with fail
      go_region_held3 (fun w' => w'.cell? ⟨w.heap.size, 0, none⟩ = some (.int .i64 n) ∧ w'.cell? ⟨w.heap.size, 1, none⟩ = some (.int .i64 k)) (go_keep) (first
        | (go_at_call_of 10 (Value.int IntKind.i64 n); refine (itoa_any n (by omega) (by omega) _ (ht _ bwT) a HA.out).mono ?_; rintro e2 w2 ⟨rfl, hb2⟩; have hp2 : Below w1.heap.size w1 w2 := (show Below w1.heap.size w1 _ from bwT).trans hb2; have hB2 : Below w.heap.size w w2 := hBw1.trans (hp2.mono sw1); have q_a0 := oldc hp2 l_a q_a0; have q_a1 := oldc hp2 l_a q_a1; have s2 := hp2.size)
        | (go_at_call 10; refine (itoa_any (IntKind.i64.wrap (2 ^ k)) (by rw [HW.out]; omega) (by rw [HW.out]; omega) _ (ht _ (show Below w.heap.size w w2 from hB2)) b (by rw [HW.out]; exact HB.out)).mono ?_; rintro e3 w3 ⟨rfl, hb3⟩; have hB3 : Below w.heap.size w w3 := hB2.trans (hb3.mono hB2.size); have q_a0 := oldc hb3 (by omega) q_a0; have q_a1 := oldc hb3 (by omega) q_a1))
      go_wp2
      go_ret
      exact ⟨by rw [HF.out, ← HA.out, ← HB.out]; rfl, hB3⟩
set_option maxHeartbeats 2000000 in
theorem fmtDS_any (n e : Int) (w : World) (K : ByteArray) (hK : K = fmtD n e) :
    Calls Tryd.prog 4 #[.agg #[.int .i64 n, .int .i64 e]] w (PostV w (.string K)) := by
  obtain ⟨r, hr⟩ : ∃ r, r = vldB n e := ⟨_, rfl⟩
  have HR := Lib.hid hr
  have HK := Lib.hid hK
  clear hr hK
  go_enter Tryd.func4, Tryd.ntmps4
  go_wp2_with fail
  refine (l8Valid_b n e _ r HR.out).mono ?_
  rintro e3 w3 ⟨rfl, hbw3⟩
  have hpw3 : Below w.heap.size w w3 := Below.after bwT hbw3 szT
  have sw3 := hpw3.size
  have hBw3 : Below w.heap.size w w3 := hpw3
  have l_a : w.heap.size < w3.heap.size := by have := hbw3.size; simp at this; omega
  have q_a0 : w3.cell? ⟨w.heap.size, 0, none⟩ = some (.int .i64 n) := oldc hbw3 ltT (by simp [go_sem])
  have q_a1 : w3.cell? ⟨w.heap.size, 1, none⟩ = some (.int .i64 e) := oldc hbw3 ltT (by simp [go_sem])
  clear hbw3 hpw3
  cases r
  · have HF := Lib.hid (show K = ⟨#[]⟩ by rw [HK.out]; unfold fmtD; rw [← HR.out]; rfl)
    go_wp2
    go_ret
    exact ⟨by rw [HF.out]; rfl, hBw3⟩
  · obtain ⟨v1, v2, v3, v4⟩ := vldB_of HR.out.symm
    by_cases he : e = 0
    · subst he
      have HF := Lib.hid (show K = decB n by rw [HK.out]; unfold fmtD; rw [← HR.out]; rfl)
      go_wp2_with fail
      refine (l1Number_any n (by omega) (by omega) _ K HF.out).mono ?_
      rintro e4 w4 ⟨rfl, hbw4⟩
      have hpw4 : Below w3.heap.size w3 w4 := Below.after bwT hbw4 szT
      have sw4 := hpw4.size
      have hBw4 : Below w.heap.size w w4 := Below.trans hBw3 (Below.mono hpw4 hBw3.size)
      have q_a0 := oldc hpw4 l_a q_a0
      have q_a1 := oldc hpw4 l_a q_a1
      have l_a := Nat.lt_of_lt_of_le l_a sw4
      clear hbw4 hpw4
      go_wp2
      go_ret
      exact ⟨rfl, hBw4⟩
    · obtain ⟨a, ha⟩ : ∃ a, a = decB n := ⟨_, rfl⟩
      obtain ⟨k, rfl⟩ := Int.eq_ofNat_of_zero_le v3
      have HF := Lib.hid (show K = decB n ++ ⟨#[47]⟩ ++ decB (2 ^ k) by rw [HK.out]; unfold fmtD; rw [← HR.out, if_neg he]; rfl)
      obtain ⟨b, hb⟩ : ∃ b, b = decB (2 ^ k) := ⟨_, rfl⟩
      have HA := Lib.hid ha
      have HB := Lib.hid hb
      have hlb := pow_bd (k := k) (by omega)
      have hsa : a.size ≤ 20 := by rw [ha]; exact decB_len (by omega)
      have hsb : b.size ≤ 20 := by rw [hb]; exact decB_len (by omega)
      clear ha hb
      have hs47 : (⟨#[47]⟩ : ByteArray).size = 1 := rfl
      have g1 : ¬ 9223372036854775807 < a.size + 1 := by omega
      have g2 : ¬ 9223372036854775807 < (a ++ ⟨#[47]⟩).size + b.size := by rw [ByteArray.size_append]; omega
      have g3 : ¬ 9223372036854775807 < a.size + 1 + b.size := by omega
      go_wp2_with fail
      go_loopw [3, 4] (fun s3 s4 wr => ∃ j : Nat, j ≤ k ∧ s3 = .int .i64 (2 ^ j) ∧ s4 = .int .i64 j ∧ w3 = wr) (fun _ s4 _ => k - (intOf s4).toNat)
      case atStart => exact ⟨0, Nat.zero_le _, by simp, rfl, rfl⟩
      case round =>
        obtain ⟨j, hj, rfl, rfl, rfl⟩ := hrel
        by_cases hlt : j < k
        · have hI : (j : Int) < (k : Int) := by omega
          have hpj := pow_bd (k := j) (by omega)
          have hmul : (2 : Int) * 2 ^ j = 2 ^ (j + 1) := by rw [Int.pow_succ, Int.mul_comm]
          have hpj1 := pow_bd (k := j + 1) (by omega)
          go_wp2
          go_roundw
          case rel => exact ⟨j + 1, by omega, by first | rfl | rw [hmul], by go_num, by first | rfl | trivial⟩
          case measure => simp [intOf]; omega
        · obtain rfl : j = k := by omega
          have nI : ¬ (j : Int) < (j : Int) := by omega
          go_wp2_with fail
          refine (l1Number_any n (by omega) (by omega) _ a HA.out).mono ?_
          rintro e5 w5 ⟨rfl, hbw5⟩
          have hpw5 : Below w3.heap.size w3 w5 := Below.after bwT hbw5 szT
          have sw5 := hpw5.size
          have hBw5 : Below w.heap.size w w5 := Below.trans hBw3 (Below.mono hpw5 hBw3.size)
          have q_a0 := oldc hpw5 l_a q_a0
          have q_a1 := oldc hpw5 l_a q_a1
          have l_a := Nat.lt_of_lt_of_le l_a sw5
          clear hbw5 hpw5
          go_wp2_with fail
          refine (l1Number_any (2 ^ j) (by omega) (by omega) _ b HB.out).mono ?_
          rintro e6 w6 ⟨rfl, hbw6⟩
          have hpw6 : Below w5.heap.size w5 w6 := Below.after bwT hbw6 szT
          have sw6 := hpw6.size
          have hBw6 : Below w.heap.size w w6 := Below.trans hBw5 (Below.mono hpw6 hBw5.size)
          have q_a0 := oldc hpw6 l_a q_a0
          have q_a1 := oldc hpw6 l_a q_a1
          have l_a := Nat.lt_of_lt_of_le l_a sw6
          clear hbw6 hpw6
          go_wp2
          go_ret
          exact ⟨by rw [HF.out, ← HA.out, ← HB.out]; rfl, hBw6⟩
set_option maxHeartbeats 1000000 in
theorem toDyad_any (n e : Int) (w : World) :
    Calls Tryd.prog 5 #[.agg #[.int .i64 n, .int .i64 e]] w (PostV w (.agg #[.int .i64 n, .int .i64 e])) := by
  go_enter Tryd.func5, Tryd.ntmps5
  go_wp2
  exact bodyPost_ret (v := .agg #[.int .i64 n, .int .i64 e]) (by simp [results, go_sem]) rfl ⟨rfl, bwT⟩
set_option maxHeartbeats 1000000 in
theorem walk_FnExactFormatDyad (w : World) (c0 c1 : Value) (x : Int × Int) (h : Rd false 0 w.heap.size w [c0, c1] x) (ht : Lib.TabIs Tryd.prog w "internal/strconv.uint64pow10" .u64 Lib.pow10Tab) :
    Calls Tryd.prog 3 #[.agg #[c0, c1]] w (PostB w true) := by
  obtain ⟨n, e⟩ := x
  obtain ⟨rfl, rfl⟩ : c0 = .int .i64 n ∧ c1 = .int .i64 e := by
    obtain ⟨fp, ⟨k1, k2, f1, f2, e, _, ⟨rfl, _, _⟩, ⟨rfl, _, _⟩⟩, _⟩ := h
    simp at e; exact e
  have hT := Lib.tabBelow_of_tabIs ht
  obtain ⟨K, hK⟩ : ∃ K, K = fmtD n e := ⟨_, rfl⟩
  have HK := Lib.hid hK
  have hkk : (K != K) = false := by simp
  clear hK h ht
  go_enter Tryd.func3, Tryd.ntmps3
  go_wp2_with fail
  refine (toDyad_any n e _).mono ?_
  rintro e7 w7 ⟨rfl, hbw7⟩
  have hpw7 : Below w.heap.size w w7 := Below.after bwT hbw7 szT
  have sw7 := hpw7.size
  have hBw7 : Below w.heap.size w w7 := hpw7
  have l_a : w.heap.size < w7.heap.size := by have := hbw7.size; simp at this; omega
  have q_a0 : w7.cell? ⟨w.heap.size, 0, none⟩ = some (.int .i64 n) := oldc hbw7 ltT (by simp [go_sem])
  have q_a1 : w7.cell? ⟨w.heap.size, 1, none⟩ = some (.int .i64 e) := oldc hbw7 ltT (by simp [go_sem])
  clear hbw7 hpw7
  go_wp2_with fail
  refine (fmtDS_any n e _ K HK.out).mono ?_
  rintro e8 w8 ⟨rfl, hbw8⟩
  have hpw8 : Below w7.heap.size w7 w8 := Below.after bwT hbw8 szT
  have sw8 := hpw8.size
  have hBw8 : Below w.heap.size w w8 := Below.trans hBw7 (Below.mono hpw8 hBw7.size)
  have q_a0 := oldc hpw8 l_a q_a0
  have q_a1 := oldc hpw8 l_a q_a1
  have l_a := Nat.lt_of_lt_of_le l_a sw8
  clear hbw8 hpw8
  go_wp2_with fail
  refine (toDyad_any n e _).mono ?_
  rintro e9 w9 ⟨rfl, hbw9⟩
  have hpw9 : Below w8.heap.size w8 w9 := Below.after bwT hbw9 szT
  have sw9 := hpw9.size
  have hBw9 : Below w.heap.size w w9 := Below.trans hBw8 (Below.mono hpw9 hBw8.size)
  have q_a0 := oldc hpw9 l_a q_a0
  have q_a1 := oldc hpw9 l_a q_a1
  have l_a := Nat.lt_of_lt_of_le l_a sw9
  clear hbw9 hpw9
  go_wp2_with fail
  refine (fmtDI_any n e _ (tab_at hT (by have := hBw9.size; omega) bwT) K HK.out).mono ?_
  rintro e10 w10 ⟨rfl, hbw10⟩
  have hpw10 : Below w9.heap.size w9 w10 := Below.after bwT hbw10 szT
  have sw10 := hpw10.size
  have hBw10 : Below w.heap.size w w10 := Below.trans hBw9 (Below.mono hpw10 hBw9.size)
  have q_a0 := oldc hpw10 l_a q_a0
  have q_a1 := oldc hpw10 l_a q_a1
  have l_a := Nat.lt_of_lt_of_le l_a sw10
  clear hbw10 hpw10
  go_wp2
  go_ret
  exact ⟨rfl, hBw10⟩
end Go.Proofs.YtcfljencchopkaaDoor
