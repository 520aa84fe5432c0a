/- Contracts of the laws' marks of texts: the text is a plain function of the number. -/
import Derived.Test.YtiingmngeiakgaaStr
import Derived.Laws.IdiomStrings
import Derived.Test.YtiingmngeiakgaaInts
namespace Go.Proofs.Ytiingmngeiakgaa
set_option linter.unusedVariables false
set_option linter.unusedSimpArgs false
open Go.RowKit

def dg1 (t : Nat) : ByteArray := ⟨#[48 + UInt8.ofNat (t % 10)]⟩
def dg : Nat → Nat → ByteArray → ByteArray
  | 0, _, x => x
  | f + 1, t, x => if t = 0 then x else dg f (t / 10) (dg1 t ++ x)
theorem dg_zero (f : Nat) (x : ByteArray) : dg f 0 x = x := by cases f <;> simp [dg]
theorem dg_fuel : ∀ (f g t : Nat) (x : ByteArray), t ≤ f → t ≤ g → dg f t x = dg g t x
  | 0, g, t, x, h, _ => by obtain rfl : t = 0 := by omega
                           rw [dg_zero, dg_zero]
  | f, 0, t, x, _, h => by obtain rfl : t = 0 := by omega
                           rw [dg_zero, dg_zero]
  | f + 1, g + 1, t, x, h1, h2 => by
    rw [dg, dg]
    split
    · rfl
    · exact dg_fuel f g (t / 10) _ (by omega) (by omega)
theorem dg_size : ∀ (f t : Nat) (x : ByteArray), (dg f t x).size ≤ x.size + t
  | 0, t, x => by simp [dg]
  | f + 1, t, x => by
    rw [dg]
    split
    · omega
    · have := dg_size f (t / 10) (dg1 t ++ x)
      have e : (dg1 t ++ x).size = 1 + x.size := by rw [ByteArray.size_append]; rfl
      omega
def markTxt (k : Nat) : ByteArray := if k = 0 then ⟨#[109, 48]⟩ else (⟨#[109]⟩ : ByteArray) ++ dg k k ⟨#[]⟩
theorem markTxt_size (k : Nat) : (markTxt k).size ≤ k + 2 := by
  unfold markTxt
  split
  · show 2 ≤ _; omega
  · rw [ByteArray.size_append]
    have := dg_size k k ⟨#[]⟩
    have e : (⟨#[]⟩ : ByteArray).size = 0 := rfl
    have e2 : (⟨#[109]⟩ : ByteArray).size = 1 := rfl
    omega

theorem conv_dg (w : World) (d : Int) (h0 : 0 ≤ d) (h1 : d ≤ 255) :
    (convert 39 9 (.slice (some ⟨w.heap.size, 0, none⟩) 1 1)).run Try.prog (w.alloc (.cells #[.int .u8 d] 5)) = .ok (.string ⟨#[UInt8.ofNat d.toNat]⟩) (w.alloc (.cells #[.int .u8 d] 5)) := by
  have h := run_convert_bytes_back (P := Try.prog) (w.alloc (.cells #[.int .u8 d] 5)) 39 9 5 ⟨w.heap.size, 0, none⟩ 1 [UInt8.ofNat d.toNat] Try.underlying39 Try.underlying5 Try.underlying9 (fun j hj => by
    simp only [List.length_cons, List.length_nil] at hj
    obtain rfl : j = 0 := by omega
    have e : ((UInt8.ofNat d.toNat).toNat : Int) = d := by simp; omega
    simp only [List.getElem_cons_zero, e]
    simp [go_sem])
  exact h
set_option maxRecDepth 20000 in
set_option maxHeartbeats 1000000 in
theorem markText_any (w : World) (k : Nat) (h1 : k ≤ 1073741824) :
    Calls Try.prog 63 #[.int .i64 k] w (PostV w (.string (markTxt k))) := by
  obtain ⟨R, hR⟩ : ∃ R, R = markTxt k := ⟨_, rfl⟩
  rw [← hR]
  have HR := Lib.hid hR
  clear hR
  by_cases hk : k = 0
  · subst hk
    go_enter Try.func63, Try.ntmps63
    go_wp2
    go_ret
    exact ⟨congrArg (fun s => Ending.returned (.string s)) HR.out.symm, bwT⟩
  · have hk1 : ¬ (k : Int) ≤ 0 := by omega
    go_enter Try.func63, Try.ntmps63
    go_wp2
    go_loopw [0, 3] (fun q s wr => ∃ (t : Nat) (x : ByteArray), q = .int .i64 t ∧ s = .string x ∧ t ≤ k ∧ x.size + t ≤ k ∧ Hid (dg t t x = dg k k ⟨#[]⟩) ∧ Below w.heap.size w wr) (fun q _ _ => (intOf q).toNat)
    case atStart => exact ⟨k, ⟨#[]⟩, rfl, rfl, Nat.le_refl _, (by have : (⟨#[]⟩ : ByteArray).size = 0 := rfl; omega), rfl, bwT⟩
    case round =>
      rename_i wr
      obtain ⟨t, x, rfl, rfl, ht0, hx, hd, hb⟩ := hrel
      have sW := hb.size
      by_cases hlt : 0 < t
      · have hI : (0 : Int) < (t : Int) := by omega
        have kc := conv_dg wr (48 + (t : Int) % 10) (by omega) (by omega)
        have HD := Lib.hid (show dg (t / 10) (t / 10) (dg1 t ++ x) = dg k k ⟨#[]⟩ by
          rw [← hd.out]
          obtain ⟨t', rfl⟩ : ∃ t', t = t' + 1 := ⟨t - 1, by omega⟩
          conv => rhs; rw [dg]
          rw [if_neg (by omega)]
          exact dg_fuel _ _ _ _ (by omega) (by omega))
        have hsz : (dg1 t ++ x).size = 1 + x.size := by rw [ByteArray.size_append]; rfl
        have HZ := Lib.hid hsz
        clear hsz hd
        go_wp2
        go_roundw
        case rel => exact ⟨t / 10, dg1 t ++ x, by go_num, rfl, by omega, by have := HZ.out; omega, HD, bwT⟩
        case measure => simp [intOf]; omega
      · have hI : ¬ (0 : Int) < (t : Int) := by omega
        have HF := Lib.hid (show (⟨#[109]⟩ : ByteArray) ++ x = R by
          have h := hd.out
          rw [show t = 0 by omega, dg_zero] at h
          rw [HR.out, h, markTxt, if_neg hk])
        clear hd HR
        go_wp2
        go_ret
        exact ⟨congrArg (fun s => Ending.returned (.string s)) HF.out, hb⟩
theorem markText_int (w : World) (q : Int) (h0 : 0 ≤ q) (h1 : q ≤ 1073741824) :
    Calls Try.prog 63 #[.int .i64 q] w (PostV w (.string (markTxt q.toNat))) := by
  obtain ⟨m, rfl⟩ := Int.eq_ofNat_of_zero_le h0
  exact markText_any w m (by omega)
end Go.Proofs.Ytiingmngeiakgaa
