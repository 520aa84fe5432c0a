/- Contracts of the sample systems. -/
import Derived.Test.YtlnhhfebmeekhaaPerm2
namespace Go.Proofs.Ytlnhhfebmeekhaa
set_option linter.unusedVariables false
set_option linter.unusedSimpArgs false
open Go.RowKit

theorem zip_lit {z : Bool} {w : World} : ∀ (xs : List Int), (∀ x ∈ xs, I64 x) → Zip (Rep.rep z w) (xs.map fun x => [Value.int .i64 x]) xs (xs.map fun _ => [])
  | [], _ => trivial
  | x :: xs, h => ⟨⟨rfl, h x (by simp), rfl⟩, zip_lit xs fun y hy => h y (by simp [hy])⟩
theorem flat_lit : ∀ (xs : List Int), (xs.map fun x => [Value.int .i64 x]).flatten = xs.map (Value.int .i64)
  | [] => rfl
  | x :: xs => by simp [flat_lit xs]
theorem nil_lit : ∀ (xs : List Int), (xs.map fun _ => ([] : List Nat)).flatten = []
  | [] => rfl
  | x :: xs => by simp [nil_lit xs]

/-- A slice of numbers that is written out. -/
theorem Ow.ints_lit0 (w : World) (E : TypeId) (xs : List Int) (h : ∀ x ∈ xs, I64 x) (hl : xs.length ≤ maxLen) :
    Ow w.heap.size (w.heap.size + 1) (w.alloc (.cells (xs.map (Value.int .i64)).toArray E)) [.slice (some ⟨w.heap.size, 0, none⟩) xs.length xs.length] xs := by
  refine ⟨[w.heap.size], ⟨_, rfl, _, _, _, rfl, rfl, Nat.le_refl _, hl, (fun h => by cases h), .inr ⟨w.heap.size, 0, _, _, rfl, by simp, by rw [nil_lit], zip_lit xs h, ?_, ?_⟩⟩, fun b hb => by simp at hb; omega, by simp⟩
  · intro j c hj
    rw [flat_lit] at hj
    simp only [Nat.zero_add]
    rw [World.cell?_alloc_new]
    simpa using hj
  · intro _ o
    simp [go_sem]

theorem Ow.ints_lit (w : World) (E : TypeId) (xs : List Int) (h : ∀ x ∈ xs, I64 x) (hl : xs.length ≤ maxLen) {b n : Nat} {cs : Array Value} (hb : w.heap.size = b) (hn : xs.length = n) (hc : (xs.map (Value.int .i64)).toArray = cs) :
    Ow b (b + 1) (w.alloc (.cells cs E)) [.slice (some ⟨b, 0, none⟩) n n] xs := by
  subst hb hn hc; exact Ow.ints_lit0 w E xs h hl

def sampC (s : List UInt8) : Cls :=
  if s = [107, 97, 114, 105, 101, 114, 97] then ([1, 0, 3, 2], [3, 2, 1, 0])
  else if s = [99, 105, 114, 99, 108, 101] then ([1, 2, 3, 0], [0, 1, 2, 3])
  else if s = [109, 111, 105, 101, 116, 105, 101, 115] then ([1, 0], [0, 1])
  else ([], [])

theorem Ow.nil2s (lo hi : Nat) (w : World) : Ow lo hi w [.slice none 0 0, .slice none 0 0] (([], []) : Cls) := by
  refine ⟨[], ⟨[.slice none 0 0], [.slice none 0 0], [], [], rfl, rfl, ?_, ?_⟩, fun b hb => (by cases hb), List.nodup_nil⟩ <;> exact ⟨_, rfl, none, 0, 0, rfl, rfl, Nat.le_refl _, by simp [maxLen], fun _ => rfl, .inl ⟨rfl, rfl⟩⟩

set_option maxHeartbeats 2000000 in
theorem sampS_any (s : ByteArray) (w : World) : Calls Try.prog 84 #[.string s] w (PostOw2 w (sampC s.toList)) := by
  cases h1 : (s.toList == [107, 97, 114, 105, 101, 114, 97])
  · cases h2 : (s.toList == [99, 105, 114, 99, 108, 101])
    · cases h3 : (s.toList == [109, 111, 105, 101, 116, 105, 101, 115])
      · have HE := Lib.hid (show sampC s.toList = ([], []) by
          have k1 := beq_eq_false_iff_ne.1 h1
          have k2 := beq_eq_false_iff_ne.1 h2
          have k3 := beq_eq_false_iff_ne.1 h3
          rw [sampC, if_neg k1, if_neg k2, if_neg k3])
        go_enter Try.func84, Try.ntmps84
        go_wp2
        exact bodyPost_ret (v := .agg #[.slice none 0 0, .slice none 0 0]) (by simp [results, go_sem]) rfl ⟨_, _, rfl, (by rw [HE.out]; exact Ow.nil2s _ _ _), bwT⟩
      · have HE := Lib.hid (show sampC s.toList = ([1, 0], [0, 1]) by
          have k1 := beq_eq_false_iff_ne.1 h1
          have k2 := beq_eq_false_iff_ne.1 h2
          rw [sampC, if_neg k1, if_neg k2, if_pos (beq_iff_eq.1 h3)])
        go_enter Try.func84, Try.ntmps84
        go_wp2
        exact bodyPost_ret (v := .agg #[.slice (some ⟨w.heap.size + 1, 0, none⟩) 2 2, .slice (some ⟨w.heap.size + 1 + 1, 0, none⟩) 2 2]) (by simp [results, go_sem]) rfl ⟨_, _, rfl, (by rw [HE.out]; exact (Ow.pair (l := w.heap.size) (h := w.heap.size + 1 + 1 + 1) ((Ow.ints_lit (w.alloc (.cells #[.slice (some ⟨w.heap.size + 1, 0, none⟩) 2 2, .slice (some ⟨w.heap.size + 1 + 1, 0, none⟩) 2 2] 30)) 3 [1, 0] (cs := #[.int .i64 1, .int .i64 0]) (by unfold I64; simp) (by simp [maxLen]) (by simp) rfl rfl).keep znT) (Ow.ints_lit ((w.alloc (.cells #[.slice (some ⟨w.heap.size + 1, 0, none⟩) 2 2, .slice (some ⟨w.heap.size + 1 + 1, 0, none⟩) 2 2] 30)).alloc (.cells #[.int .i64 1, .int .i64 0] 3)) 3 [0, 1] (cs := #[.int .i64 0, .int .i64 1]) (by unfold I64; simp) (by simp [maxLen]) (by simp) rfl rfl) (.inl (by omega)) (by omega) (by omega) (by omega) (by omega)).top), bwT⟩
    · have HE := Lib.hid (show sampC s.toList = ([1, 2, 3, 0], [0, 1, 2, 3]) by
        have k1 := beq_eq_false_iff_ne.1 h1
        rw [sampC, if_neg k1, if_pos (beq_iff_eq.1 h2)])
      go_enter Try.func84, Try.ntmps84
      go_wp2
      exact bodyPost_ret (v := .agg #[.slice (some ⟨w.heap.size + 1, 0, none⟩) 4 4, .slice (some ⟨w.heap.size + 1 + 1, 0, none⟩) 4 4]) (by simp [results, go_sem]) rfl ⟨_, _, rfl, (by rw [HE.out]; exact (Ow.pair (l := w.heap.size) (h := w.heap.size + 1 + 1 + 1) ((Ow.ints_lit (w.alloc (.cells #[.slice (some ⟨w.heap.size + 1, 0, none⟩) 4 4, .slice (some ⟨w.heap.size + 1 + 1, 0, none⟩) 4 4] 30)) 3 [1, 2, 3, 0] (cs := #[.int .i64 1, .int .i64 2, .int .i64 3, .int .i64 0]) (by unfold I64; simp) (by simp [maxLen]) (by simp) rfl rfl).keep znT) (Ow.ints_lit ((w.alloc (.cells #[.slice (some ⟨w.heap.size + 1, 0, none⟩) 4 4, .slice (some ⟨w.heap.size + 1 + 1, 0, none⟩) 4 4] 30)).alloc (.cells #[.int .i64 1, .int .i64 2, .int .i64 3, .int .i64 0] 3)) 3 [0, 1, 2, 3] (cs := #[.int .i64 0, .int .i64 1, .int .i64 2, .int .i64 3]) (by unfold I64; simp) (by simp [maxLen]) (by simp) rfl rfl) (.inl (by omega)) (by omega) (by omega) (by omega) (by omega)).top), bwT⟩
  · have HE := Lib.hid (show sampC s.toList = ([1, 0, 3, 2], [3, 2, 1, 0]) by rw [sampC, if_pos (beq_iff_eq.1 h1)])
    go_enter Try.func84, Try.ntmps84
    go_wp2
    exact bodyPost_ret (v := .agg #[.slice (some ⟨w.heap.size + 1, 0, none⟩) 4 4, .slice (some ⟨w.heap.size + 1 + 1, 0, none⟩) 4 4]) (by simp [results, go_sem]) rfl ⟨_, _, rfl, (by rw [HE.out]; exact (Ow.pair (l := w.heap.size) (h := w.heap.size + 1 + 1 + 1) ((Ow.ints_lit (w.alloc (.cells #[.slice (some ⟨w.heap.size + 1, 0, none⟩) 4 4, .slice (some ⟨w.heap.size + 1 + 1, 0, none⟩) 4 4] 30)) 3 [1, 0, 3, 2] (cs := #[.int .i64 1, .int .i64 0, .int .i64 3, .int .i64 2]) (by unfold I64; simp) (by simp [maxLen]) (by simp) rfl rfl).keep znT) (Ow.ints_lit ((w.alloc (.cells #[.slice (some ⟨w.heap.size + 1, 0, none⟩) 4 4, .slice (some ⟨w.heap.size + 1 + 1, 0, none⟩) 4 4] 30)).alloc (.cells #[.int .i64 1, .int .i64 0, .int .i64 3, .int .i64 2] 3)) 3 [3, 2, 1, 0] (cs := #[.int .i64 3, .int .i64 2, .int .i64 1, .int .i64 0]) (by unfold I64; simp) (by simp [maxLen]) (by simp) rfl rfl) (.inl (by omega)) (by omega) (by omega) (by omega) (by omega)).top), bwT⟩


theorem sampC_len (s : List UInt8) : (sampC s).1.length ≤ 4 ∧ (sampC s).2.length ≤ 4 := by
  unfold sampC
  repeat' split
  all_goals simp
end Go.Proofs.Ytlnhhfebmeekhaa
