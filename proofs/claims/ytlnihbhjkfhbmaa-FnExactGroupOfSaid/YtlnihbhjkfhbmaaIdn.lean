/- The identity; the contract of identity (impl). -/
import Derived.Test.YtlnihbhjkfhbmaaPerm2
namespace Go.Proofs.Ytlnihbhjkfhbmaa
set_option linter.unusedVariables false
set_option linter.unusedSimpArgs false
open Go.RowKit

def idL (n : Nat) : List Int := (List.range n).map fun (i : Nat) => (i : Int)
theorem idL_succ (k : Nat) : idL (k + 1) = idL k ++ [(k : Int)] := by simp [idL, List.range_succ]
theorem idL_len (k : Nat) : (idL k).length = k := by simp [idL]

set_option maxHeartbeats 1000000 in
theorem identity_any (w : World) (n : Nat) (hn : n ≤ 1048576) :
    Calls Try.prog 30 #[.int .i64 n] w (PostOw w (idL n)) := by
  go_enter Try.func30, Try.ntmps30
  go_wp2
  go_loopw [3, 4, 6] (fun o _ i wr => ∃ k : Nat, k ≤ n ∧ i = .int .i64 k ∧ GL true w.heap.size w.heap.size wr.heap.size wr 3 o (idL k) ∧ Below w.heap.size w wr) (fun _ _ i _ => n - (intOf i).toNat)
  case atStart => exact ⟨0, Nat.zero_le _, rfl, GL.start _ _ _ _ _ _, Below.refl _ _⟩
  case round =>
    rename_i wr
    obtain ⟨k, hk, rfl, hG, hb⟩ := hrel
    have sW := hb.size
    by_cases hlt : k < n
    · have hI : (k : Int) < (n : Int) := by omega
      have hlc : (idL k).length ≤ 1048576 := by rw [idL_len]; omega
      go_wp2_with (at_builtin; refine wpList_push rfl rfl slInt (by show (0 : Nat) < 1; omega) (hG.alloc _) rfl (ad := ⟨wr.heap.size, 0, none⟩) rfl (cs := [.int .i64 k]) (y := (k : Int)) (lx := wr.heap.size) (hx' := wr.heap.size) ?c1 (It.flat (z := true) (w0 := wr) (fp := []) ⟨rfl, ⟨by omega, by omega⟩, rfl⟩) sW (.inl (Nat.le_refl _)) (by unfold maxLen; omega) (by omega) ?c2 ?_)
      case c1 =>
        intro j c hj
        match j, hj with
        | 0, hj => simp at hj; subst hj; simp [Addr.add]
      case c2 => simp; omega
      intro v' w1 hG1 _ hb1
      rw [← idL_succ] at hG1
      have HG := Lib.hid hG1
      have hB1 : Below w.heap.size w w1 := Below.trans (hb.alloc sW _) hb1
      clear hG hG1 hb1
      go_wp2
      go_roundw
      case rel => exact ⟨k + 1, by omega, by go_num, HG.out, hB1⟩
      case measure => simp [intOf]; omega
    · have hkn : k = n := by omega
      have HO := Lib.hid (hG.ow (l0 := w.heap.size) (Nat.le_refl _) (Nat.le_refl _))
      clear hG
      subst hkn
      go_wp2
      go_ret
      exact ⟨_, rfl, HO.out, hb⟩
end Go.Proofs.Ytlnihbhjkfhbmaa
