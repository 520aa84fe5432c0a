/- Contracts of IsName, l1In. -/
import Derived.Test.YtdpkldapobbnpaaGreatDoorBase
namespace Go.Proofs.YtdpkldapobbnpaaGreatDoor
set_option linter.unusedVariables false
set_option linter.unusedSimpArgs false
open Go.RowKit
theorem letters_step {s : ByteArray} {k : Nat} (h : k < s.size) : letters (s.data.toList.drop k) = (decide (97 ≤ (s[k]'h).toNat ∧ (s[k]'h).toNat ≤ 122) && letters (s.data.toList.drop (k + 1))) := by
 have h' : k < s.data.toList.length := by simpa using h
 rw [List.drop_eq_getElem_cons h']
 simp [letters]
 rfl
theorem letters_end {s : ByteArray} {k : Nat} (h : s.size ≤ k) : letters (s.data.toList.drop k) = true := by
 rw [List.drop_eq_nil_of_le (by simpa using h)]; rfl
set_option maxHeartbeats 1000000 in
theorem isNameI_b (w : World) (s : ByteArray) (hs : s.size ≤ maxLen) (r : Bool) (hr : r = nameOk s) :
  Calls Tryz.prog 67 #[.string s] w (PostB w r) := by
 unfold maxLen at hs
 have HR := Lib.hid hr
 clear hr
 by_cases h1 : 1 ≤ s.size
 ·by_cases h2 : s.size ≤ 12
  ·have h1' : ¬ (s.size : Int) < 1 := by omega
   have h2' : ¬ (12 : Int) < (s.size : Int) := by omega
   have HL := Lib.hid (show r = letters (s.data.toList.drop 0) by rw [HR.out, nameOk]; simp [h1, h2])
   go_enter Tryz.func67, Tryz.ntmps67
   go_wp2
   go_loopw [3] (fun s3 wr => ∃ k : Nat, k ≤ s.size ∧ s3 = .int .i64 k ∧ Hid (r = letters (s.data.toList.drop k)) ∧ Below w.heap.size w wr) (fun s3 _ => s.size - (intOf s3).toNat)
   case atStart => exact ⟨0, Nat.zero_le _, rfl, HL, Below.refl _ _⟩
   case round =>
    obtain ⟨k, hk, rfl, ht, hb⟩ := hrel
    by_cases hlt : k < s.size
    ·have hI : (k : Int) < (s.size : Int) := by omega
     have HT := Lib.hid (letters_step hlt)
     have HFail := Lib.hid (show ¬ (97 ≤ ((s[k]'hlt).toNat : Int) ∧ ((s[k]'hlt).toNat : Int) ≤ 122) → false = r by
      intro e
      have e2 : ¬ (97 ≤ (s[k]'hlt).toNat ∧ (s[k]'hlt).toNat ≤ 122) := by omega
      rw [ht.out, HT.out]; simp [e2])
     have HOk := Lib.hid (show (97 ≤ ((s[k]'hlt).toNat : Int) ∧ ((s[k]'hlt).toNat : Int) ≤ 122) → r = letters (s.data.toList.drop (k + 1)) by
      intro e
      have e2 : 97 ≤ (s[k]'hlt).toNat ∧ (s[k]'hlt).toNat ≤ 122 := by omega
      rw [ht.out, HT.out]; simp [e2])
     clear ht HT
     go_wp2
     all_goals first
      | (go_roundw
         case rel => exact ⟨k + 1, by omega, by go_num, Lib.hid (HOk.out (by omega)), hb⟩
         case measure => simp [intOf]; omega)
      | (go_ret; exact ⟨ret_bool (HFail.out (by omega)), hb⟩)
    ·have HF := Lib.hid (show true = r by rw [ht.out, letters_end (by omega)])
     have hI : ¬ (k : Int) < (s.size : Int) := by omega
     go_wp2
     go_ret
     exact ⟨ret_bool HF.out, hb⟩
  ·have HF := Lib.hid (show false = r by rw [HR.out, nameOk]; simp [h2])
   have h1' : ¬ (s.size : Int) < 1 := by omega
   have h2' : (12 : Int) < (s.size : Int) := by omega
   go_enter Tryz.func67, Tryz.ntmps67
   go_wp2
   go_ret
   exact ⟨ret_bool HF.out, bwT⟩
 ·have HF := Lib.hid (show false = r by rw [HR.out, nameOk]; simp [h1])
  have h1' : (s.size : Int) < 1 := by omega
  go_enter Tryz.func67, Tryz.ntmps67
  go_wp2
  go_ret
  exact ⟨ret_bool HF.out, bwT⟩
set_option maxHeartbeats 1000000 in
theorem isNameS_b (w : World) (s : ByteArray) (hs : s.size ≤ maxLen) (r : Bool) (hr : r = nameOk s) :
  Calls Tryz.prog 56 #[.string s] w (PostB w r) := by
 unfold maxLen at hs
 obtain ⟨r2, hlet_r2⟩ : ∃ r, r = decide (1 ≤ s.size ∧ s.size ≤ 12) := ⟨_, rfl⟩
 have H2 := Lib.hid hlet_r2
 clear hlet_r2
 obtain ⟨r1, hlet_r1⟩ : ∃ r, r = letters s.data.toList := ⟨_, rfl⟩
 have H1 := Lib.hid hlet_r1
 clear hlet_r1
 have HR := Lib.hid (show r = (r2 && r1) by rw [hr, nameOk, H1.out, H2.out])
 clear hr
 go_enter Tryz.func56, Tryz.ntmps56
 go_wp2
 go_loopw [3] (fun s3 wr => ∃ k : Nat, k ≤ s.size ∧ s3 = .int .i64 k ∧ Hid (r1 = letters (s.data.toList.drop k)) ∧ Below w.heap.size w wr) (fun s3 _ => s.size - (intOf s3).toNat)
 case atStart => exact ⟨0, Nat.zero_le _, rfl, H1, Below.refl _ _⟩
 case round =>
  obtain ⟨k, hk, rfl, ht, hb⟩ := hrel
  by_cases hlt : k < s.size
  ·have hI : (k : Int) < (s.size : Int) := by omega
   have HT := Lib.hid (letters_step hlt)
   have HFail := Lib.hid (show ¬ (97 ≤ ((s[k]'hlt).toNat : Int) ∧ ((s[k]'hlt).toNat : Int) ≤ 122) → false = r by
    intro e
    have e2 : ¬ (97 ≤ (s[k]'hlt).toNat ∧ (s[k]'hlt).toNat ≤ 122) := by omega
    rw [HR.out, ht.out, HT.out]; simp [e2])
   have HOk := Lib.hid (show (97 ≤ ((s[k]'hlt).toNat : Int) ∧ ((s[k]'hlt).toNat : Int) ≤ 122) → r1 = letters (s.data.toList.drop (k + 1)) by
    intro e
    have e2 : 97 ≤ (s[k]'hlt).toNat ∧ (s[k]'hlt).toNat ≤ 122 := by omega
    rw [ht.out, HT.out]; simp [e2])
   clear ht HT
   go_wp2
   all_goals first
    | (go_roundw
       case rel => exact ⟨k + 1, by omega, by go_num, Lib.hid (HOk.out (by omega)), hb⟩
       case measure => simp [intOf]; omega)
    | (go_ret; exact ⟨ret_bool (HFail.out (by omega)), hb⟩)
  ·have HT := Lib.hid (show r1 = true by rw [ht.out, letters_end (by omega)])
   have hI : ¬ (k : Int) < (s.size : Int) := by omega
   have H3 := Lib.hid (show r2 = decide ((1 : Int) ≤ (s.size : Int) ∧ (s.size : Int) ≤ 12) by rw [H2.out]; congr 1; apply propext; omega)
   go_wp2_with fail
   refine (l1In_b _ _ _ _ r2 H3.out).mono ?_
   rintro e w1 ⟨rfl, hb1⟩
   have hB1 : Below w.heap.size w w1 := Below.after hb hb1 hb.size
   go_wp2
   go_ret
   exact ⟨ret_bool (by rw [HR.out, HT.out]; simp), hB1⟩
end Go.Proofs.YtdpkldapobbnpaaGreatDoor
