/- Plain: how types are written. -/
import Derived.Test.YtdpkldapobbnpaaGreatDoorRulM
namespace Go.Proofs.YtdpkldapobbnpaaGreatDoor
set_option linter.unusedVariables false
set_option linter.unusedSimpArgs false
open Go.RowKit
def ltrs : ByteArray := ⟨#[70, 77, 66, 90, 83, 68, 72, 87]⟩
def aTxt (a : Int) : ByteArray := if a = 1 then ⟨#[101]⟩ else if a = 2 then ⟨#[121]⟩ else ⟨#[]⟩
def kTxt (k : Int) : ByteArray := ltrs.extract (k - 1).toNat k.toNat
def stTxt (s : Stp) : ByteArray := aTxt s.2 ++ kTxt s.1
def stepsT (l : List Stp) : ByteArray := l.foldl (fun o s => o ++ stTxt s) ⟨#[]⟩
def egoTxt (e : Int) : ByteArray := if e = 1 then ⟨#[109, 58]⟩ else if e = 2 then ⟨#[119, 58]⟩ else ⟨#[]⟩
def dotT (s : ByteArray) : ByteArray := if s = ⟨#[]⟩ then ⟨#[46]⟩ else s
def kinTxt (t : Kin) : ByteArray := if isKin t = true then egoTxt t.1 ++ dotT (stepsT t.2) else ⟨#[]⟩
theorem kTxt_at {k : Int} (h : 1 ≤ k ∧ k ≤ 8) : (⟨#[70, 77, 66, 90, 83, 68, 72, 87]⟩ : ByteArray).extract (k.toNat - 1) k.toNat = kTxt k ∧ (kTxt k).size = 1 := by
 have hk : k = 1 ∨ k = 2 ∨ k = 3 ∨ k = 4 ∨ k = 5 ∨ k = 6 ∨ k = 7 ∨ k = 8 := by omega
 rcases hk with rfl | rfl | rfl | rfl | rfl | rfl | rfl | rfl <;> exact ⟨rfl, rfl⟩
theorem aTxt_size (a : Int) : (aTxt a).size ≤ 1 := by
 unfold aTxt
 split
 ·exact Nat.le_refl _
 ·split
  ·exact Nat.le_refl _
  ·exact Nat.zero_le _
theorem stepsT_snoc (l : List Stp) (s : Stp) : stepsT (l ++ [s]) = stepsT l ++ stTxt s := by
 unfold stepsT; rw [List.foldl_append]; rfl
theorem stTxt_size {s : Stp} (h : 1 ≤ s.1 ∧ s.1 ≤ 8) : (stTxt s).size ≤ 2 := by
 have h2 := (kTxt_at h).2
 have h3 := aTxt_size s.2
 unfold stTxt
 rw [ByteArray.size_append, h2]
 omega
theorem foldT_size : ∀ (l : List Stp) (o : ByteArray), SOk l → (l.foldl (fun o s => o ++ stTxt s) o).size ≤ o.size + 2 * l.length
 | [], o, _ => Nat.le_refl _
 | s :: l, o, h => by
   have h1 := foldT_size l (o ++ stTxt s) h.cons
   have h2 := stTxt_size (h s (by simp)).1
   rw [ByteArray.size_append] at h1
   simp only [List.foldl_cons, List.length_cons]
   omega
theorem stepsT_size (l : List Stp) (h : SOk l) : (stepsT l).size ≤ 2 * l.length := by
 have := foldT_size l ⟨#[]⟩ h
 have h0 : (⟨#[]⟩ : ByteArray).size = 0 := rfl
 unfold stepsT
 omega
theorem egoTxt_size (e : Int) : (egoTxt e).size ≤ 2 := by
 unfold egoTxt
 split
 ·exact Nat.le_refl _
 ·split
  ·exact Nat.le_refl _
  ·exact Nat.zero_le _
theorem dotT_size (s : ByteArray) : (dotT s).size ≤ s.size + 1 := by
 unfold dotT
 split
 ·exact Nat.le_add_left 1 _
 ·exact Nat.le_succ _
theorem kinTxt_size (t : Kin) : (kinTxt t).size ≤ 20 := by
 unfold kinTxt
 split
 ·rename_i h
  have hk := isKin_facts h
  have h1 := egoTxt_size t.1
  have h2 := dotT_size (stepsT t.2)
  have h3 := stepsT_size t.2 hk.2.2.2
  rw [ByteArray.size_append]
  omega
 ·exact Nat.zero_le _
theorem ne_text {s : ByteArray} (h : ¬ s = ⟨#[]⟩) : s.toList.isEmpty = false := by
 cases e : s.toList with
 | nil => exact absurd (by rw [ByteArray.toList_eq] at e; exact ByteArray.ext (by simpa using e)) h
 | cons a l => rfl
end Go.Proofs.YtdpkldapobbnpaaGreatDoor
