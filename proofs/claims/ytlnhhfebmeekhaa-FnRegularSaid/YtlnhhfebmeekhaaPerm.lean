/- Contracts of the functions on permutations. -/
import Derived.Test.YtlnhhfebmeekhaaZ10B
namespace Go.Proofs.Ytlnhhfebmeekhaa
set_option linter.unusedVariables false
set_option linter.unusedSimpArgs false
open Go.RowKit

theorem l1In_any (x a b : Int) (w : World) :
    Calls Try.prog 34 #[.int .i64 x, .int .i64 a, .int .i64 b] w (PostB w (decide (a ≤ x ∧ x ≤ b))) := by
  by_cases h1 : a ≤ x
  · by_cases h2 : x ≤ b
    · have HF := Lib.hid (show decide (a ≤ x ∧ x ≤ b) = true by simp [h1, h2])
      rw [HF.out]
      go_enter Try.func34, Try.ntmps34
      go_wp2
      go_ret
      exact ⟨rfl, Below.refl _ _⟩
    · have HF := Lib.hid (show decide (a ≤ x ∧ x ≤ b) = false by simp [h2])
      rw [HF.out]
      go_enter Try.func34, Try.ntmps34
      go_wp2
      go_ret
      exact ⟨rfl, Below.refl _ _⟩
  · have HF := Lib.hid (show decide (a ≤ x ∧ x ≤ b) = false by simp [h1])
    rw [HF.out]
    go_enter Try.func34, Try.ntmps34
    go_wp2
    go_ret
    exact ⟨rfl, Below.refl _ _⟩
theorem l1In_b (x a b : Int) (w : World) (r : Bool) (h : r = decide (a ≤ x ∧ x ≤ b)) :
    Calls Try.prog 34 #[.int .i64 x, .int .i64 a, .int .i64 b] w (PostB w r) := h ▸ l1In_any x a b w

theorem permGo_no1 {n : Nat} {s : List Bool} {x : Int} {xs : List Int} (h : x < 0) : permGo n s (x :: xs) = false := by rw [permGo, if_neg]; omega
theorem permGo_no2 {n : Nat} {s : List Bool} {x : Int} {xs : List Int} (h : n ≤ x) : permGo n s (x :: xs) = false := by rw [permGo, if_neg]; omega
theorem permGo_no3 {n : Nat} {s : List Bool} {m : Nat} {xs : List Int} (h : s[m]? = some true) : permGo n s (m :: xs) = false := by
  rw [permGo, if_neg]; intro hh; have := hh.2.2; simp [List.getD_eq_getElem?_getD, h] at this
theorem permGo_yes {n : Nat} {s : List Bool} {m : Nat} {xs : List Int} (hm : m < n) (h : s[m]? = some false) : permGo n s (m :: xs) = permGo n (s.set m true) xs := by
  rw [permGo, if_pos]
  · simp
  · simp [List.getD_eq_getElem?_getD, h]; omega

set_option maxHeartbeats 2000000 in
theorem isPermI_any {z : Bool} {lo hi : Nat} (w : World) (v : Value) (xs : List Int) (h : Rd z lo hi w [v] xs) (hl : xs.length ≤ 1048576) :
    Calls Try.prog 52 #[v] w (PostB w (isPerm xs)) := by
  obtain ⟨ao, n, cap, rfl, rfl, hnc, hcm, hnone⟩ := h.shape
  go_enter Try.func52, Try.ntmps52
  go_wp2_with (at_make; refine wpList_mk (α := Bool) rfl rfl slBool (y0 := false) (fun _ => ⟨rfl, rfl⟩) rfl rfl rfl rfl (by omega) (by unfold maxLen; omega) ?_; intro w1 how hb1 hlt)
  go_loopw [5, 11] (fun q i wr => ∃ k : Nat, k ≤ xs.length ∧ i = .int .i64 k ∧ ∃ s : List Bool, Ow w.heap.size (w.heap.size + 1) wr [.slice (some ⟨w.heap.size, 0, none⟩) xs.length xs.length] s ∧ Hid (permGo xs.length s (xs.drop k) = isPerm xs) ∧ Below w.heap.size w wr) (fun _ i _ => xs.length - (intOf i).toNat)
  case atStart => exact ⟨0, Nat.zero_le _, rfl, _, how, rfl, hb1⟩
  case round =>
    obtain ⟨k, hk, rfl, s, how', hp, hb⟩ := hrel
    clear how hb1 hlt
    by_cases hlt : k < xs.length
    · obtain ⟨b, off, x, rfl, hx, hc, hx1, hx2, _⟩ := (h.below hb).int_at hlt
      have hp' := hp.out
      rw [drop_cons hx.out] at hp'
      have HP := Lib.hid hp'
      clear hp hp' hx h
      by_cases h0 : x < 0
      · have HF := Lib.hid (HP.out.symm.trans (permGo_no1 h0))
        rw [HF.out]
        clear how' HP
        go_wp2
        go_ret
        exact ⟨rfl, hb⟩
      · obtain ⟨m, rfl⟩ := Int.eq_ofNat_of_zero_le (Int.not_lt.1 h0)
        by_cases hn : xs.length ≤ m
        · have HF := Lib.hid (HP.out.symm.trans (permGo_no2 (by omega)))
          rw [HF.out]
          clear how' HP
          go_wp2
          go_ret
          exact ⟨rfl, hb⟩
        · obtain ⟨y, hy, hcy, hfy, _⟩ := how'.bool_at0 (i := m) (by omega)
          have hmI : (m : Int) < xs.length := by omega
          cases y with
          | true =>
            have HF := Lib.hid (HP.out.symm.trans (permGo_no3 hy.out))
            rw [HF.out]
            clear how' HP hy
            go_wp2
            go_ret
            exact ⟨rfl, hb⟩
          | false =>
            have HS := Lib.hid (how'.bool_set0 (i := m) (by omega) true)
            have HN := Lib.hid ((permGo_yes (by omega) hy.out).symm.trans HP.out)
            clear how' HP hy
            go_wp2
            go_roundw
            case rel => exact ⟨k + 1, by omega, by go_num, _, HS.out, HN.out, hb.setCell (Nat.le_refl _) _⟩
            case measure => simp [intOf]; omega
    · have HF := Lib.hid (show isPerm xs = true by rw [← hp.out, List.drop_eq_nil_of_le (by omega)]; rfl)
      clear how' hp h
      go_wp2
      go_ret
      exact ⟨ret_bool HF.out.symm, hb⟩
theorem isPermI_b {z : Bool} {lo hi : Nat} (w : World) (v : Value) (xs : List Int) (h : Rd z lo hi w [v] xs) (hl : xs.length ≤ 1048576) (r : Bool) (hr : r = isPerm xs) :
    Calls Try.prog 52 #[v] w (PostB w r) := hr ▸ isPermI_any w v xs h hl

/-- A slice and true come back, or nothing and false. -/
def PostOk {α : Type} [Rep α] (w : World) (r : Option α) (e : Ending) (w' : World) : Prop :=
  (match r with
   | some x => ∃ u, e = .returned (.tuple #[u, .bool true]) ∧ Ow w.heap.size w'.heap.size w' [u] x
   | none => e = .returned (.tuple #[.slice none 0 0, .bool false])) ∧ Below w.heap.size w w'

theorem invGo_no1 {n : Nat} {s : List Int} {k : Nat} {x : Int} {xs : List Int} (h : x < 0) : invGo n s k (x :: xs) = none := by rw [invGo, if_neg]; omega
theorem invGo_no2 {n : Nat} {s : List Int} {k : Nat} {x : Int} {xs : List Int} (h : n ≤ x) : invGo n s k (x :: xs) = none := by rw [invGo, if_neg]; omega
theorem invGo_no3 {n : Nat} {s : List Int} {k m : Nat} {y : Int} {xs : List Int} (h : s[m]? = some y) (hy : 0 ≤ y) : invGo n s k (m :: xs) = none := by
  rw [invGo, if_neg]; intro hh; have := hh.2.2; simp [List.getD_eq_getElem?_getD, h] at this; omega
theorem invGo_yes {n : Nat} {s : List Int} {k m : Nat} {y : Int} {xs : List Int} (hm : m < n) (h : s[m]? = some y) (hy : y < 0) : invGo n s k (m :: xs) = invGo n (s.set m k) (k + 1) xs := by
  rw [invGo, if_pos]
  · simp
  · simp [List.getD_eq_getElem?_getD, h]; omega

theorem rep_set_snoc {α : Type} {n k : Nat} {a b : α} (h : k < n) : (List.replicate k a ++ List.replicate (n - k) b).set k a = List.replicate (k + 1) a ++ List.replicate (n - (k + 1)) b := by
  rw [List.set_append_right _ _ (by simp)]
  have e : n - k = (n - (k + 1)) + 1 := by omega
  rw [e, List.replicate_succ]
  simp [List.replicate_succ']

set_option maxHeartbeats 2000000 in
theorem l1Inverse_any {z : Bool} {lo hi : Nat} (w : World) (v : Value) (xs : List Int) (n : Nat) (h : Rd z lo hi w [v] xs) (hl : xs.length ≤ 1048576) (hn : n ≤ 1048576) :
    Calls Try.prog 124 #[v, .int .i64 n] w (PostOk w (l1Inv xs n)) := by
  obtain ⟨ao, n', cap, rfl, rfl, hnc, hcm, hnone⟩ := h.shape
  go_enter Try.func124, Try.ntmps124
  go_wp2_with (at_make; refine wpList_mk (α := Int) (n := n) rfl rfl slInt (y0 := 0) (fun _ => ⟨rfl, by unfold I64; omega, rfl⟩) rfl rfl rfl rfl (by omega) (by unfold maxLen; omega) ?_; intro w1 how hb1 hlt)
  go_loopw [7, 14] (fun q i wr => ∃ k : Nat, k ≤ n ∧ i = .int .i64 k ∧ Ow w.heap.size (w.heap.size + 1) wr [.slice (some ⟨w.heap.size, 0, none⟩) n n] (List.replicate k (-1 : Int) ++ List.replicate (n - k) 0) ∧ Below w.heap.size w wr) (fun _ i _ => n - (intOf i).toNat)
  case atStart => exact ⟨0, Nat.zero_le _, rfl, by simpa using how, hb1⟩
  case round =>
    obtain ⟨k, hk, rfl, how', hb⟩ := hrel
    clear how hb1 hlt
    by_cases hlt : k < n
    · obtain ⟨y, hy, hcy, _, _, hfy, _⟩ := how'.int_at0 hlt
      have hset := how'.int_set0 hlt (y := -1) ⟨by omega, by omega⟩
      rw [rep_set_snoc hlt] at hset
      have HS := Lib.hid hset
      clear hset how' hy h
      go_wp2
      go_roundw
      case rel => exact ⟨k + 1, by omega, by go_num, HS.out, hb.setCell (Nat.le_refl _) _⟩
      case measure => simp [intOf]; omega
    · have e : k = n := by omega
      subst e
      by_cases hln : xs.length = k
      · have HLN := Lib.hid hln
        have hbne : ((xs.length : Int) != (k : Int)) = false := by simp [hln]
        have hl1 : xs.length ≤ k := by omega
        have hl2 : k ≤ xs.length := by omega
        have HE := Lib.hid (show l1Inv xs k = invGo k (List.replicate k (-1)) 0 xs from if_pos hln)
        clear hln
        have how2 := how'
        simp only [Nat.sub_self, List.replicate_zero, List.append_nil] at how2
        have HOW := Lib.hid how2
        clear how' how2
        go_wp2
        go_loopw [8, 9, 27] (fun q r i wr => ∃ j : Nat, j ≤ xs.length ∧ i = .int .i64 j ∧ ∃ s : List Int, Ow w.heap.size (w.heap.size + 1) wr [.slice (some ⟨w.heap.size, 0, none⟩) k k] s ∧ Hid (invGo k s j (xs.drop j) = l1Inv xs k) ∧ Below w.heap.size w wr) (fun _ _ i _ => xs.length - (intOf i).toNat)
        case atStart => exact ⟨0, Nat.zero_le _, rfl, _, HOW.out, HE.out.symm, hb⟩
        case round =>
          obtain ⟨j, hj, rfl, s, how', hp, hb⟩ := hrel
          clear HOW HE
          by_cases hlt : j < xs.length
          · obtain ⟨b, off, x, rfl, hx, hc, hx1, hx2, _⟩ := (h.below hb).int_at hlt
            have hp' := hp.out
            rw [drop_cons hx.out] at hp'
            have HP := Lib.hid hp'
            clear hp hp' hx h
            by_cases h0 : x < 0
            · have HF := Lib.hid (HP.out.symm.trans (invGo_no1 h0))
              rw [HF.out]
              clear how' HP
              go_wp2
              go_ret2
              exact ⟨rfl, hb⟩
            · obtain ⟨m, rfl⟩ := Int.eq_ofNat_of_zero_le (Int.not_lt.1 h0)
              by_cases hn' : k ≤ m
              · have HF := Lib.hid (HP.out.symm.trans (invGo_no2 (by omega)))
                rw [HF.out]
                clear how' HP
                go_wp2
                go_ret2
                exact ⟨rfl, hb⟩
              · obtain ⟨y, hy, hcy, hy1, hy2, hfy, _⟩ := how'.int_at0 (i := m) (by omega)
                have hmI : (m : Int) < k := by omega
                by_cases hy0 : 0 ≤ y
                · have HF := Lib.hid (HP.out.symm.trans (invGo_no3 hy.out hy0))
                  rw [HF.out]
                  clear how' HP hy
                  go_wp2
                  go_ret2
                  exact ⟨rfl, hb⟩
                · have HS := Lib.hid (how'.int_set0 (i := m) (by omega) (y := j) ⟨by omega, by omega⟩)
                  have HN := Lib.hid ((invGo_yes (by omega) hy.out (by omega)).symm.trans HP.out)
                  clear how' HP hy
                  go_wp2
                  go_roundw
                  case rel => exact ⟨j + 1, by omega, by go_num, _, HS.out, HN.out, hb.setCell (Nat.le_refl _) _⟩
                  case measure => simp [intOf]; omega
          · have HF := Lib.hid (show l1Inv xs k = some s by rw [← hp.out, List.drop_eq_nil_of_le (by omega)]; rfl)
            have HO := Lib.hid how'.top
            clear how' hp h
            go_wp2
            go_ret2
            refine ⟨?_, hb⟩
            rw [HF.out]
            exact ⟨_, rfl, HO.out⟩
      · have hbne : ((xs.length : Int) != (k : Int)) = true := by simp; omega
        have HE := Lib.hid (show l1Inv xs k = none from if_neg hln)
        clear how' h hln
        go_wp2
        go_ret2
        refine ⟨?_, hb⟩
        rw [HE.out]
        rfl
end Go.Proofs.Ytlnhhfebmeekhaa
