/- Contracts: lists compared. -/
import Derived.Test.YtlnhhfebmeekhaaPerm
namespace Go.Proofs.Ytlnhhfebmeekhaa
set_option linter.unusedVariables false
set_option linter.unusedSimpArgs false
open Go.RowKit

def lexB : List Int → List Int → Bool
  | [], ys => decide (0 < ys.length)
  | _ :: _, [] => false
  | x :: xs, y :: ys => if x = y then lexB xs ys else decide (x < y)

theorem lexB_step {a b : List Int} {k : Nat} {x : Int} (h : a[k]? = some x) (h' : b[k]? = some x) : lexB (a.drop k) (b.drop k) = lexB (a.drop (k + 1)) (b.drop (k + 1)) := by
  rw [drop_cons h, drop_cons h', lexB, if_pos rfl]
theorem lexB_ne {a b : List Int} {k : Nat} {x y : Int} (h : a[k]? = some x) (h' : b[k]? = some y) (hxy : x ≠ y) : lexB (a.drop k) (b.drop k) = decide (x < y) := by
  rw [drop_cons h, drop_cons h', lexB, if_neg hxy]
theorem lexB_end1 {a b : List Int} {k : Nat} (h : a.length ≤ k) (hk : k ≤ b.length) : lexB (a.drop k) (b.drop k) = decide (k < b.length) := by
  rw [List.drop_eq_nil_of_le h, lexB]; simp [List.length_drop]; omega
theorem lexB_end2 {a b : List Int} {k : Nat} (h : b.length ≤ k) (hk : k < a.length) : lexB (a.drop k) (b.drop k) = false := by
  rw [List.drop_eq_nil_of_le h, List.drop_eq_getElem_cons hk, lexB]
theorem lexB_self : ∀ a : List Int, lexB a a = false
  | [] => by simp [lexB]
  | x :: xs => by rw [lexB, if_pos rfl]; exact lexB_self xs
theorem lexB_tri : ∀ a b : List Int, lexB a b = false → lexB b a = false → a = b
  | [], [], _, _ => rfl
  | [], _ :: _, h, _ => by simp [lexB] at h
  | _ :: _, [], _, h => by simp [lexB] at h
  | x :: xs, y :: ys, h, h' => by
    rw [lexB] at h h'
    by_cases e : x = y
    · subst e
      rw [if_pos rfl] at h h'
      rw [lexB_tri xs ys h h']
    · rw [if_neg e] at h; rw [if_neg (Ne.symm e)] at h'
      simp at h h'; omega
theorem eq_lex (a b : List Int) : decide (a = b) = (!lexB a b && !lexB b a) := by
  by_cases e : a = b
  · subst e; simp [lexB_self]
  · simp only [e, decide_false]
    cases h1 : lexB a b
    · cases h2 : lexB b a
      · exact absurd (lexB_tri _ _ h1 h2) e
      · rfl
    · rfl

section
variable {z z' : Bool} {lo hi lo' hi' : Nat} (w : World) (u v : Value) (xs ys : List Int)
set_option maxHeartbeats 1000000 in
theorem lessInts_b (h : Rd z lo hi w [u] xs) (h' : Rd z' lo' hi' w [v] ys) (r : Bool) (hr : r = lexB xs ys) :
    Calls Try.prog 81 #[u, v] w (PostB w r) := by
  obtain ⟨ao, n, cap, rfl, rfl, hnc, hcm, hnone⟩ := h.shape
  obtain ⟨ao', n', cap', rfl, rfl, hnc', hcm', hnone'⟩ := h'.shape
  unfold maxLen at *
  have HR := Lib.hid hr
  clear hr
  go_enter Try.func81, Try.ntmps81
  go_wp2
  go_loopw [5] (fun i wr => ∃ k : Nat, k ≤ xs.length ∧ k ≤ ys.length ∧ i = .int .i64 k ∧ Hid (r = lexB (xs.drop k) (ys.drop k)) ∧ Below w.heap.size w wr) (fun i _ => xs.length - (intOf i).toNat)
  case atStart => exact ⟨0, Nat.zero_le _, Nat.zero_le _, rfl, Lib.hid (by simpa using HR.out), Below.refl _ _⟩
  case round =>
    clear HR
    obtain ⟨k, hk, hk', rfl, ht, hb⟩ := hrel
    by_cases hlt : k < xs.length
    · by_cases hlt' : k < ys.length
      · obtain ⟨b, off, x, rfl, hx, hc, hx1, hx2, _⟩ := (h.below hb).int_at hlt
        obtain ⟨b', off', y, rfl, hy, hc', hy1, hy2, _⟩ := (h'.below hb).int_at hlt'
        have hI : (k : Int) < (xs.length : Int) := by omega
        have hI' : (k : Int) < (ys.length : Int) := by omega
        clear h h'
        by_cases hxy : x = y
        · subst hxy
          have HT : Hid (r = lexB (xs.drop (k + 1)) (ys.drop (k + 1))) := by rw [ht.out, lexB_step hx.out hy.out]; rfl
          clear ht hx hy
          go_wp2_with fail
          go_quiet (fail)
          go_wp2
          go_roundw
          case rel => exact ⟨k + 1, by omega, by omega, by go_num, HT, below_drewN hb _⟩
          case measure => simp [intOf]; omega
        · have hne : (x != y) = true := by simpa using hxy
          have HF : Hid (r = decide (x < y)) := by rw [ht.out, lexB_ne hx.out hy.out hxy]; rfl
          clear ht hx hy hxy
          go_wp2_with fail
          go_quiet (fail)
          go_wp2_with fail
          go_quiet (fail)
          go_wp2
          go_ret
          exact ⟨ret_bool HF.out.symm, bwT⟩
      · have HF := Lib.hid (show r = decide (xs.length < ys.length) by
          rw [ht.out, lexB_end2 (by omega) hlt]; simp; omega)
        have hI : (k : Int) < (xs.length : Int) := by omega
        have hI' : ¬ (k : Int) < (ys.length : Int) := by omega
        clear h h' ht
        go_wp2
        go_ret
        exact ⟨ret_bool (by rw [HF.out]; try simp), hb⟩
    · have HF := Lib.hid (show r = decide (xs.length < ys.length) by
        rw [ht.out, lexB_end1 (by omega) hk']
        have : k = xs.length := by omega
        rw [this])
      have hI : ¬ (k : Int) < (xs.length : Int) := by omega
      clear h h' ht
      go_wp2
      go_ret
      exact ⟨ret_bool (by rw [HF.out]; try simp), hb⟩

set_option maxHeartbeats 1000000 in
theorem l6Less_b (h : Rd z lo hi w [u] xs) (h' : Rd z' lo' hi' w [v] ys) (r : Bool) (hr : r = lexB xs ys) :
    Calls Try.prog 102 #[u, v] w (PostB w r) := by
  obtain ⟨ao, n, cap, rfl, rfl, hnc, hcm, hnone⟩ := h.shape
  obtain ⟨ao', n', cap', rfl, rfl, hnc', hcm', hnone'⟩ := h'.shape
  unfold maxLen at *
  have HR := Lib.hid hr
  clear hr
  go_enter Try.func102, Try.ntmps102
  go_wp2
  go_loopw [5, 8] (fun _ i wr => ∃ k : Nat, k ≤ xs.length ∧ k ≤ ys.length ∧ i = .int .i64 k ∧ Hid (r = lexB (xs.drop k) (ys.drop k)) ∧ Below w.heap.size w wr) (fun _ i _ => xs.length - (intOf i).toNat)
  case atStart => exact ⟨0, Nat.zero_le _, Nat.zero_le _, rfl, Lib.hid (by simpa using HR.out), Below.refl _ _⟩
  case round =>
    clear HR
    obtain ⟨k, hk, hk', rfl, ht, hb⟩ := hrel
    by_cases hlt : k < xs.length
    · have hI : (k : Int) < (xs.length : Int) := by omega
      by_cases hlt' : k < ys.length
      · obtain ⟨b, off, x, rfl, hx, hc, hx1, hx2, _⟩ := (h.below hb).int_at hlt
        obtain ⟨b', off', y, rfl, hy, hc', hy1, hy2, _⟩ := (h'.below hb).int_at hlt'
        have hI' : (k : Int) < (ys.length : Int) := by omega
        have hIe : ((k : Int) == (ys.length : Int)) = false := by simp; omega
        clear h h'
        by_cases hxy : x = y
        · subst hxy
          have HT : Hid (r = lexB (xs.drop (k + 1)) (ys.drop (k + 1))) := by rw [ht.out, lexB_step hx.out hy.out]; rfl
          clear ht hx hy
          go_wp2_with fail
          go_quiet (fail)
          go_wp2
          go_roundw
          case rel => exact ⟨k + 1, by omega, by omega, by go_num, HT, below_drewN hb _⟩
          case measure => simp [intOf]; omega
        · have hne : (x != y) = true := by simpa using hxy
          have HF : Hid (r = decide (x < y)) := by rw [ht.out, lexB_ne hx.out hy.out hxy]; rfl
          clear ht hx hy hxy
          go_wp2_with fail
          go_quiet (fail)
          go_wp2_with fail
          go_quiet (fail)
          go_wp2
          go_ret
          exact ⟨ret_bool HF.out.symm, bwT⟩
      · have HF := Lib.hid (show r = false by
          rw [ht.out, lexB_end2 (by omega) hlt])
        have hIe : ((k : Int) == (ys.length : Int)) = true := by simp; omega
        clear h h' ht
        go_wp2
        go_ret
        exact ⟨ret_bool (by rw [HF.out]), hb⟩
    · have HF := Lib.hid (show r = decide (xs.length < ys.length) by
        rw [ht.out, lexB_end1 (by omega) hk']
        have : k = xs.length := by omega
        rw [this])
      have hI : ¬ (k : Int) < (xs.length : Int) := by omega
      clear h h' ht
      go_wp2
      go_ret
      exact ⟨ret_bool (by rw [HF.out]; try simp), hb⟩

set_option maxHeartbeats 1000000 in
theorem l6Equal_b (h : Rd z lo hi w [u] xs) (h' : Rd z' lo' hi' w [v] ys) (r : Bool) (hr : r = decide (xs = ys)) :
    Calls Try.prog 103 #[u, v] w (PostB w r) := by
  obtain ⟨r1, hr1⟩ : ∃ r, r = lexB xs ys := ⟨_, rfl⟩
  obtain ⟨r2, hr2⟩ : ∃ r, r = lexB ys xs := ⟨_, rfl⟩
  have H1 := Lib.hid hr1
  have H2 := Lib.hid hr2
  have HR := Lib.hid (show r = (!r1 && !r2) by rw [hr, eq_lex, hr1, hr2])
  clear hr hr1 hr2
  go_enter Try.func103, Try.ntmps103
  go_wp2_with fail
  refine (l6Less_b _ _ _ _ _ (h.below bwT) (h'.below bwT) _ H1.out).mono ?_
  rintro e w1 ⟨rfl, hb1⟩
  cases r1
  · go_wp2_with fail
    refine (l6Less_b _ _ _ _ _ (h'.below bwT) (h.below bwT) _ H2.out).mono ?_
    rintro e w2 ⟨rfl, hb2⟩
    have hB2 : Below w.heap.size w w2 := Below.after hb1 hb2 hb1.size
    go_wp2
    go_ret
    exact ⟨ret_bool (by rw [HR.out]; simp), hB2⟩
  · go_wp2
    go_ret
    exact ⟨ret_bool (by rw [HR.out]; rfl), hb1⟩

set_option maxHeartbeats 1000000 in
theorem sameInts_b (h : Rd z lo hi w [u] xs) (h' : Rd z' lo' hi' w [v] ys) (r : Bool) (hr : r = decide (xs = ys)) :
    Calls Try.prog 75 #[u, v] w (PostB w r) := by
  subst hr
  obtain ⟨ao, n, cap, rfl, rfl, hnc, hcm, hnone⟩ := h.shape
  obtain ⟨ao', n', cap', rfl, rfl, hnc', hcm', hnone'⟩ := h'.shape
  unfold maxLen at *
  by_cases hl : xs.length = ys.length
  · have HL := Lib.hid hl
    have hl1 : ¬ xs.length < ys.length := by omega
    have hl2 : ¬ ys.length < xs.length := by omega
    have hbne : (((xs.length : Int)) != (ys.length : Int)) = false := by simp [hl]
    clear hl
    go_enter Try.func75, Try.ntmps75
    go_wp2
    go_loopw [5, 13] (fun _ i wr => ∃ k : Nat, k ≤ xs.length ∧ i = .int .i64 k ∧ Hid (xs.take k = ys.take k) ∧ Below w.heap.size w wr) (fun _ i _ => xs.length - (intOf i).toNat)
    case atStart => exact ⟨0, Nat.zero_le _, rfl, rfl, Below.refl _ _⟩
    case round =>
      obtain ⟨k, hk, rfl, ht, hb⟩ := hrel
      by_cases hlt : k < xs.length
      · obtain ⟨b, off, x, rfl, hx, hc, hx1, hx2, _⟩ := (h.below hb).int_at hlt
        obtain ⟨b', off', y, rfl, hy, hc', hy1, hy2, _⟩ := (h'.below hb).int_at (show k < ys.length by omega)
        have hlt' : k < ys.length := by omega
        have hI : (k : Int) < (xs.length : Int) := by omega
        have hI' : (k : Int) < (ys.length : Int) := by omega
        clear h h'
        by_cases hxy : x = y
        · subst hxy
          have HT : Hid (xs.take (k + 1) = ys.take (k + 1)) := by rw [take_snoc hx.out, take_snoc hy.out, ht.out]; rfl
          clear ht hx hy
          go_wp2_with fail
          go_quiet (fail)
          go_wp2
          go_roundw
          case rel => exact ⟨k + 1, by omega, by go_num, HT, below_drewN hb _⟩
          case measure => simp [intOf]; omega
        · have hne : (x != y) = true := by simpa using hxy
          have HF : Hid (decide (xs = ys) = false) := by
            simp only [decide_eq_false_iff_not]
            intro e; subst e
            have := hx.out.symm.trans hy.out
            simp at this; exact hxy this
          clear ht hx hy hxy
          go_wp2_with fail
          go_quiet (fail)
          go_wp2
          go_ret
          exact ⟨ret_bool HF.out.symm, below_drewN hb _⟩
      · have HF : Hid (decide (xs = ys) = true) := by
          have e := ht.out
          rw [List.take_of_length_le (by omega), List.take_of_length_le (by omega)] at e
          exact decide_eq_true e
        clear h h' ht
        go_wp2
        go_ret
        exact ⟨ret_bool HF.out.symm, hb⟩
  · have HF : Hid (decide (xs = ys) = false) := by
      simp only [decide_eq_false_iff_not]
      intro e; subst e; exact hl rfl
    have hbne : (((xs.length : Int)) != (ys.length : Int)) = true := by simp; omega
    clear hl h h'
    go_enter Try.func75, Try.ntmps75
    go_wp2
    go_ret
    exact ⟨ret_bool HF.out.symm, Below.refl _ _⟩

set_option maxHeartbeats 1000000 in
theorem hasInt_b (h : Rd z lo hi w [u] xs) (x : Int) (r : Bool) (hr : r = xs.contains x) :
    Calls Try.prog 74 #[u, .int .i64 x] w (PostB w r) := by
  obtain ⟨ao, n, cap, rfl, rfl, hnc, hcm, hnone⟩ := h.shape
  unfold maxLen at *
  have HR := Lib.hid hr
  clear hr
  go_enter Try.func74, Try.ntmps74
  go_wp2
  go_loopw [6, 9] (fun _ i wr => ∃ k : Nat, k ≤ xs.length ∧ i = .int .i64 k ∧ Hid (r = (xs.drop k).contains x) ∧ Below w.heap.size w wr) (fun _ i _ => xs.length - (intOf i).toNat)
  case atStart => exact ⟨0, Nat.zero_le _, rfl, Lib.hid (by simpa using HR.out), Below.refl _ _⟩
  case round =>
    clear HR
    obtain ⟨k, hk, rfl, ht, hb⟩ := hrel
    by_cases hlt : k < xs.length
    · obtain ⟨b, off, y, rfl, hx, hc, hx1, hx2, _⟩ := (h.below hb).int_at hlt
      have hI : (k : Int) < (xs.length : Int) := by omega
      clear h
      by_cases hxy : y = x
      · subst hxy
        have HT : Hid (r = true) := by rw [ht.out, drop_cons hx.out]; simp [Hid]
        clear ht hx
        go_wp2
        go_ret
        exact ⟨ret_bool HT.out.symm, hb⟩
      · have hne : (y == x) = false := by simpa using hxy
        have HT : Hid (r = (xs.drop (k + 1)).contains x) := by
          rw [ht.out, drop_cons hx.out]
          simp only [List.contains_cons, Hid]
          rw [show (x == y) = false by simpa using Ne.symm hxy]; simp
        clear ht hx hxy
        go_wp2
        go_roundw
        case rel => exact ⟨k + 1, by omega, by go_num, HT, hb⟩
        case measure => simp [intOf]; omega
    · have HF : Hid (r = false) := by rw [ht.out, List.drop_eq_nil_of_le (by omega)]; rfl
      clear h ht
      go_wp2
      go_ret
      exact ⟨ret_bool HF.out.symm, hb⟩
end
end Go.Proofs.Ytlnhhfebmeekhaa
