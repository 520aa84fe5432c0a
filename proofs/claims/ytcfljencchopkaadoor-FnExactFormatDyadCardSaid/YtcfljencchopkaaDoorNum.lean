/- Decimal texts of numbers: the contract of l1Number (spec); of strconv.Itoa (impl). -/
import Derived.Test.YtcfljencchopkaaDoorStr
import Derived.Lib.ItoaNum
import Derived.Laws.IdiomStrings
namespace Go.Proofs.YtcfljencchopkaaDoor
set_option linter.unusedVariables false
set_option linter.unusedSimpArgs false
open Go.RowKit

def decB (n : Int) : ByteArray := ⟨(Lib.decDigits n.toNat).toArray⟩
def digs (m : Nat) : List UInt8 := if m = 0 then [] else Lib.decDigits m
def digB (m : Int) : UInt8 := UInt8.ofNat (48 + m.toNat % 10)
theorem digs_step (m : Nat) : digs (m / 10) ++ [UInt8.ofNat (48 + m % 10)] = Lib.decDigits m := by
  unfold digs
  by_cases h : m < 10
  · rw [if_pos (by omega), Lib.decDigits, dif_pos h, Nat.mod_eq_of_lt h]; rfl
  · rw [if_neg (by omega), Lib.decDigits.eq_def m, dif_neg h]
theorem digB_nat {m : Int} (h : 0 ≤ m) : ((digB m).toNat : Int) = 48 + m % 10 := by
  unfold digB
  have h1 : (48 + m.toNat % 10) % 256 = 48 + m.toNat % 10 := Nat.mod_eq_of_lt (by omega)
  rw [UInt8.toNat_ofNat', h1]
  omega
theorem decB_size : ∀ (n : Nat), n < 10 ^ 20 → (Lib.decDigits n).length ≤ 20 := by
  have key : ∀ (k n : Nat), n < 10 ^ k → 0 < k → (Lib.decDigits n).length ≤ k := by
    intro k
    induction k with
    | zero => intro n _ h; omega
    | succ k ih =>
      intro n h _
      rw [Lib.decDigits]
      split
      · simp
      · rename_i h10
        rw [List.length_append, List.length_singleton]
        have hk : 0 < k := by
          rcases Nat.eq_zero_or_pos k with h0 | h0
          · subst h0; simp at h; omega
          · exact h0
        have := ih (n / 10) (by rw [Nat.pow_succ] at h; omega) hk
        omega
  exact fun n h => key 20 n h (by omega)
theorem conv1 (W : World) (d : UInt8) (ty : TypeId) : (convert 31 9 (.slice (some ⟨W.heap.size, 0, none⟩) 1 1)).run Tryd.prog (W.alloc (.cells #[.int .u8 d.toNat] ty)) = .ok (.string ⟨#[d]⟩) (W.alloc (.cells #[.int .u8 d.toNat] ty)) := by
  have := run_convert_bytes_back (P := Tryd.prog) (W.alloc (.cells #[.int .u8 d.toNat] ty)) 31 9 5 ⟨W.heap.size, 0, none⟩ 1 [d] Tryd.underlying31 Tryd.underlying5 Tryd.underlying9 (fun j hj => by
    match j, hj with
    | 0, _ => simp [go_sem]
    | j + 1, hj => simp at hj)
  simpa using this
set_option maxHeartbeats 2000000 in
theorem l1Number_any (n : Int) (h0 : 0 ≤ n) (h1 : n ≤ 4611686018427387904) (w : World) (K : ByteArray) (hK : K = decB n) :
    Calls Tryd.prog 8 #[.int .i64 n] w (PostV w (.string K)) := by
  have HK := Lib.hid hK
  clear hK
  have h48 : IntKind.u8.wrap (48 + n % 10) = 48 + n % 10 := by
    unfold IntKind.wrap
    simp [IntKind.signed, IntKind.bits]
    omega
  have kc := conv1 w (digB n) 5
  rw [digB_nat h0] at kc
  go_enter Tryd.func8, Tryd.ntmps8
  go_wp2
  go_loopw [0, 3] (fun s0 s3 wr => ∃ (m : Int) (out : List UInt8), s0 = .int .i64 m ∧ s3 = .string ⟨out.toArray⟩ ∧ 0 ≤ m ∧ m ≤ 4611686018427387904 ∧ Hid (digs m.toNat ++ out = Lib.decDigits n.toNat) ∧ Below w.heap.size w wr) (fun s0 _ _ => (intOf s0).toNat)
  case atStart =>
    refine ⟨n / 10, [digB n], rfl, rfl, by omega, by omega, Lib.hid ?_, bwT⟩
    rw [show (n / 10).toNat = n.toNat / 10 by omega]
    exact digs_step n.toNat
  case round =>
    clear kc h48
    obtain ⟨m, out, rfl, rfl, hm0, hm1, hd, hb⟩ := hrel
    have sW := hb.size
    have hol : out.length ≤ 20 := by
      have h2 := congrArg List.length hd.out
      have h3 := decB_size n.toNat (by omega)
      rw [List.length_append] at h2
      omega
    by_cases hm : 0 < m
    · have h48 : IntKind.u8.wrap (48 + m % 10) = 48 + m % 10 := by
        unfold IntKind.wrap
        simp [IntKind.signed, IntKind.bits]
        omega
      have kc := conv1 wr (digB m) 5
      rw [digB_nat hm0] at kc
      have HN := Lib.hid (show digs (m / 10).toNat ++ (digB m :: out) = Lib.decDigits n.toNat by
        rw [← hd.out, show (m / 10).toNat = m.toNat / 10 by omega, show digs m.toNat = Lib.decDigits m.toNat from if_neg (by omega), ← digs_step m.toNat]
        simp [digB])
      have hcc : (⟨#[digB m]⟩ : ByteArray) ++ ⟨out.toArray⟩ = ⟨(digB m :: out).toArray⟩ := by
        apply ByteArray.ext; simp
      have hsz : (⟨#[digB m]⟩ : ByteArray).size = 1 := rfl
      have hsz2 : (⟨out.toArray⟩ : ByteArray).size = out.length := by simp [ByteArray.size]
      have hg : ¬ 9223372036854775807 < 1 + out.length := by omega
      clear hd
      go_wp2
      go_roundw
      case rel => exact ⟨m / 10, digB m :: out, rfl, rfl, by omega, by omega, HN, bwT⟩
      case measure => simp [intOf]; omega
    · have HF := Lib.hid (show K = ⟨out.toArray⟩ by
        rw [HK.out]
        unfold decB
        rw [← hd.out, show digs m.toNat = [] from if_pos (by omega)]; rfl)
      clear hd
      go_wp2
      go_ret
      exact ⟨by rw [HF.out]; rfl, hb⟩
end Go.Proofs.YtcfljencchopkaaDoor
