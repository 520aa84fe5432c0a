/- Contracts of the laws' helpers on slices of numbers: copy, compare, mark, held. -/
import Derived.Test.YtiingmngeiakgaaTy
namespace Go.Proofs.Ytiingmngeiakgaa
set_option linter.unusedVariables false
set_option linter.unusedSimpArgs false
open Go.RowKit

theorem take_rep_snoc {α : Type} {xs : List α} {k : Nat} {x y0 : α} (hx : xs[k]? = some x) : (xs.take k ++ List.replicate (xs.length - k) y0).set k x = xs.take (k + 1) ++ List.replicate (xs.length - (k + 1)) y0 := by
  have hk : k < xs.length := (List.getElem?_eq_some_iff.1 hx).1
  rw [take_snoc hx, List.set_append_right _ _ (by simp; omega)]
  have e : xs.length - k = (xs.length - (k + 1)) + 1 := by omega
  have e2 : k - (List.take k xs).length = 0 := by simp; omega
  rw [e2, e, List.replicate_succ, List.set_cons_zero]
  simp


set_option maxHeartbeats 1000000 in
theorem eqIntS_any {z z' : Bool} {lo hi lo' hi' : Nat} (w : World) (u v : Value) (xs ys : List Int) (h : Rd z lo hi w [u] xs) (h' : Rd z' lo' hi' w [v] ys) :
    Calls Try.prog 35 #[u, v] w (PostB w (decide (xs = ys))) := by
  obtain ⟨ao, n, cap, rfl, rfl, hnc, hcm, hnone⟩ := h.shape
  obtain ⟨ao', n', cap', rfl, rfl, hnc', hcm', hnone'⟩ := h'.shape
  unfold maxLen at *
  by_cases hl : xs.length = ys.length
  · have HL := Lib.hid hl
    have hl1 : ¬ xs.length < ys.length := by omega
    have hl2 : ¬ ys.length < xs.length := by omega
    have hbne : (((xs.length : Int)) != (ys.length : Int)) = false := by simp [hl]
    clear hl
    go_enter Try.func35, Try.ntmps35
    go_wp2
    go_loopw [5] (fun i wr => ∃ k : Nat, k ≤ xs.length ∧ i = .int .i64 k ∧ Hid (xs.take k = ys.take k) ∧ Below w.heap.size w wr) (fun i _ => xs.length - (intOf i).toNat)
    case atStart => exact ⟨0, Nat.zero_le _, rfl, rfl, Below.refl _ _⟩
    case round =>
      obtain ⟨k, hk, rfl, ht, hb⟩ := hrel
      by_cases hlt : k < xs.length
      · obtain ⟨b, off, x, rfl, hx, hc, hx1, hx2, _⟩ := (h.below hb).int_at hlt
        obtain ⟨b', off', y, rfl, hy, hc', hy1, hy2, _⟩ := (h'.below hb).int_at (show k < ys.length by omega)
        have hlt' : k < ys.length := by omega
        have hI : (k : Int) < (xs.length : Int) := by omega
        have hI' : (k : Int) < (ys.length : Int) := by omega
        clear h h'
        by_cases hxy : x = y
        · subst hxy
          have HT : Hid (xs.take (k + 1) = ys.take (k + 1)) := by rw [take_snoc hx.out, take_snoc hy.out, ht.out]; rfl
          clear ht hx hy
          go_wp2_with fail
          go_quiet (fail)
          go_wp2
          go_roundw
          case rel => exact ⟨k + 1, by omega, by go_num, HT, below_drewN hb _⟩
          case measure => simp [intOf]; omega
        · have hne : (x != y) = true := by simpa using hxy
          have HF : Hid (decide (xs = ys) = false) := by
            simp only [decide_eq_false_iff_not]
            intro e; subst e
            have := hx.out.symm.trans hy.out
            simp at this; exact hxy this
          clear ht hx hy hxy
          go_wp2_with fail
          go_quiet (fail)
          go_wp2
          go_ret
          exact ⟨ret_bool HF.out.symm, below_drewN hb _⟩
      · have HF : Hid (decide (xs = ys) = true) := by
          have e := ht.out
          rw [List.take_of_length_le (by omega), List.take_of_length_le (by omega)] at e
          exact decide_eq_true e
        clear h h' ht
        go_wp2
        go_ret
        exact ⟨ret_bool HF.out.symm, hb⟩
  · have HF : Hid (decide (xs = ys) = false) := by
      simp only [decide_eq_false_iff_not]
      intro e; subst e; exact hl rfl
    have hbne : (((xs.length : Int)) != (ys.length : Int)) = true := by simp; omega
    clear hl h h'
    go_enter Try.func35, Try.ntmps35
    go_wp2
    go_ret
    exact ⟨ret_bool HF.out.symm, Below.refl _ _⟩

/-- The marks that are laid from k on. -/
def marks (k : Int) (n : Nat) : List Int := (List.range n).map fun i => k + (i : Nat)
theorem marks_len (k : Int) (n : Nat) : (marks k n).length = n := by simp [marks]
theorem marks_at {k : Int} {n i : Nat} {x : Int} (h : (marks k n)[i]? = some x) : x = k + i := by
  simp only [marks, List.getElem?_map, List.getElem?_range, Option.map_eq_some_iff] at h
  obtain ⟨a, ha, rfl⟩ := h
  have : a = i := by
    rw [List.getElem?_eq_some_iff] at ha
    obtain ⟨_, ha⟩ := ha
    simpa using ha.symm
  rw [this]
theorem marks_step {k : Int} {xs : List Int} {i : Nat} {x : Int} (hx : xs[i]? = some x) : (marks k i ++ xs.drop i).set i (k + i) = marks k (i + 1) ++ xs.drop (i + 1) := by
  rw [drop_cons hx, List.set_append_right _ _ (by simp [marks_len])]
  simp [marks, List.range_succ]

/-- Cells are marked; nothing else has turned. -/
def PostMark {α : Type} [Rep α] (fp : List Nat) (w : World) (cs : List Value) (y : α) (n : Int) (e : Ending) (w' : World) : Prop :=
  e = .returned (.int .i64 n) ∧ Rep.rep true w' cs y fp ∧ OffF fp w w'

set_option maxHeartbeats 1000000 in
theorem markIntS_any (w : World) (v : Value) (xs : List Int) (fp : List Nat) (h : Rep.rep true w [v] xs fp) (k : Int) (hk0 : 0 ≤ k) (hk1 : k + xs.length ≤ 4611686018427387904) :
    Calls Try.prog 40 #[v, .int .i64 k] w (PostMark fp w [v] (marks k xs.length) (k + xs.length)) := by
  have hR : Rd true 0 w.heap.size w [v] xs := ⟨fp, h, fun b hb => ⟨Nat.zero_le _, Rep.lt h b hb⟩⟩
  obtain ⟨ao, n, cap, rfl, rfl, hnc, hcm, hnone⟩ := hR.shape
  clear hR
  unfold maxLen at *
  go_enter Try.func40, Try.ntmps40
  go_wp2
  go_loopw [1, 5] (fun q i wr => ∃ j : Nat, j ≤ xs.length ∧ i = .int .i64 j ∧ q = .int .i64 (k + j) ∧ Rep.rep true wr [.slice ao xs.length cap] (marks k j ++ xs.drop j) fp ∧ OffF fp w wr) (fun _ i _ => xs.length - (intOf i).toNat)
  case atStart => exact ⟨0, Nat.zero_le _, rfl, by simp, by simpa [marks] using h, OffF.refl _ _⟩
  case round =>
    obtain ⟨j, hj, rfl, rfl, hr, ho⟩ := hrel
    clear h
    by_cases hlt : j < xs.length
    · obtain ⟨b, off, x, rfl, hx, hc, hx1, hx2, hm, hb, hf⟩ := rep_int_at hr hlt
      have hx' : (marks k j ++ xs.drop j)[j]? = some x := hx.out
      have hx0 : xs[j]? = some x := by
        rw [List.getElem?_append_right (by simp [marks_len]), marks_len, List.getElem?_drop] at hx'
        simpa using hx'
      have hset := rep_int_set hr hx' ⟨hx1, hx2⟩ (y := k + j) ⟨by omega, by omega⟩
      rw [marks_step hx0] at hset
      have HS := Lib.hid hset
      have hfz := hf rfl (off + j)
      have HB := Lib.hid (ho.setCell (p := ⟨b, off + j, none⟩) hm.out (.int .i64 (k + j)))
      clear hset hr hf hx' hx0 ho hx hm
      go_wp2
      go_roundw
      case rel => exact ⟨j + 1, by omega, by go_num, by go_num, HS.out, HB.out⟩
      case measure => simp [intOf]; omega
    · have e : j = xs.length := by omega
      subst e
      have HS := Lib.hid hr
      clear hr
      go_wp2
      go_ret
      exact ⟨rfl, by simpa using HS.out, ho⟩

set_option maxHeartbeats 1000000 in
theorem heldIntS_any {z : Bool} {lo hi : Nat} (w : World) (v : Value) (m : Nat) (k : Int) (h : Rd z lo hi w [v] (marks k m)) (hk0 : 0 ≤ k) (hk1 : k + m ≤ 4611686018427387904) :
    Calls Try.prog 41 #[v, .int .i64 k] w (PostI w (k + m)) := by
  obtain ⟨ao, n, cap, rfl, hl, hnc, hcm, hnone⟩ := h.shape
  rw [marks_len] at hl
  subst hl
  unfold maxLen at *
  go_enter Try.func41, Try.ntmps41
  go_wp2
  go_loopw [1, 5] (fun q i wr => ∃ j : Nat, j ≤ m ∧ i = .int .i64 j ∧ q = .int .i64 (k + j) ∧ Below w.heap.size w wr) (fun _ i _ => m - (intOf i).toNat)
  case atStart => exact ⟨0, Nat.zero_le _, rfl, by simp, Below.refl _ _⟩
  case round =>
    obtain ⟨j, hj, rfl, rfl, hb⟩ := hrel
    by_cases hlt : j < m
    · obtain ⟨b, off, x, rfl, hx, hc, hx1, hx2, _⟩ := (h.below hb).int_at hlt
      have hx' := marks_at hx.out
      subst hx'
      have hI : (j : Int) < (m : Int) := by omega
      have hne : ((k + (j : Int)) != (k + (j : Int))) = false := by simp
      clear h hx
      go_wp2
      go_roundw
      case rel => exact ⟨j + 1, by omega, by go_num, by go_num, hb⟩
      case measure => simp [intOf]; omega
    · have e : j = m := by omega
      subst e
      clear h
      go_wp2
      go_ret
      exact ⟨rfl, hb⟩

end Go.Proofs.Ytiingmngeiakgaa
