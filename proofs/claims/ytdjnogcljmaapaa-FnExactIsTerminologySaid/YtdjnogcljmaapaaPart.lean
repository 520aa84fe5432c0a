/- Ours: a part of a list that is read: its head, its rest. -/
import Derived.Test.YtdjnogcljmaapaaKinS
namespace Go.Proofs.Ytdjnogcljmaapaa
set_option linter.unusedVariables false
set_option linter.unusedSimpArgs false
open Go.RowKit

section
variable {α : Type} [Rep α] {z : Bool} {lo hi : Nat} {w : World}
theorem Rd.takeS {ao : Option Addr} {n cap : Nat} {xs : List α} (h : Rd z lo hi w [.slice ao n cap] xs) {i : Nat} (hi' : i ≤ n) : Rd z lo hi w [.slice ao i cap] (xs.take i) := by
  obtain ⟨fp, ⟨v1, hv1, ao', n', cap', rfl, e1, e2, e3, e4, hr⟩, hz⟩ := h
  simp at hv1; obtain ⟨rfl, rfl, rfl⟩ := hv1
  rcases Nat.eq_zero_or_pos i with h0 | h0
  · subst h0
    exact ⟨[], ⟨_, rfl, ao, 0, cap, rfl, by simp, Nat.zero_le _, e3, e4, .inl ⟨rfl, rfl⟩⟩, fun b hb => by cases hb⟩
  · rcases hr with ⟨h1, _⟩ | ⟨b, off, css, fps, rfl, hb, rfl, hzip, hc, hf⟩
    · omega
    · refine ⟨b :: (fps.take i).flatten, ⟨_, rfl, _, i, cap, rfl, by rw [List.length_take]; omega, by omega, e3, e4, .inr ⟨b, off, css.take i, fps.take i, rfl, hb, rfl, hzip.take i, fun j c hj => hc j c ?_, hf⟩⟩, fun k hk => hz k ?_⟩
      · have hl := (List.getElem?_eq_some_iff.1 hj).1
        rw [← List.take_append_drop i css, List.flatten_append, List.getElem?_append_left hl]; exact hj
      · rcases List.mem_cons.1 hk with rfl | hk
        · simp
        · refine List.mem_cons_of_mem _ ?_
          rw [← List.take_append_drop i fps, List.flatten_append]
          exact List.mem_append_left _ hk
theorem Rd.dropS {b off n cap : Nat} {xs : List α} (h : Rd z lo hi w [.slice (some ⟨b, off, none⟩) n cap] xs) {i : Nat} (hi' : i ≤ n) : Rd z lo hi w [.slice (some ⟨b, off + i * Rep.sz α, none⟩) (n - i) (cap - i)] (xs.drop i) := by
  obtain ⟨fp, ⟨v1, hv1, ao', n', cap', rfl, e1, e2, e3, e4, hr⟩, hz⟩ := h
  simp at hv1; obtain ⟨rfl, rfl, rfl⟩ := hv1
  rcases Nat.eq_zero_or_pos (n - i) with h0 | h0
  · rw [h0]
    exact ⟨[], ⟨_, rfl, _, 0, cap - i, rfl, by rw [List.length_drop]; omega, Nat.zero_le _, by omega, (fun h => by cases h), .inl ⟨rfl, rfl⟩⟩, fun b hb => by cases hb⟩
  · rcases hr with ⟨h1, _⟩ | ⟨b', off', css, fps, hb', hb, rfl, hzip, hc, hf⟩
    · omega
    · simp only [Option.some.injEq, Addr.mk.injEq, and_true] at hb'
      obtain ⟨rfl, rfl⟩ := hb'
      have hlt : (css.take i).flatten.length = i * Rep.sz α := by
        rw [length_flat (s := Rep.sz α) (fun d hd => hzip.sizes d (List.mem_of_mem_take hd)), List.length_take, hzip.lens.1]
        congr 1; omega
      refine ⟨b :: (fps.drop i).flatten, ⟨_, rfl, _, n - i, cap - i, rfl, by rw [List.length_drop]; omega, by omega, by omega, (fun h => by cases h), .inr ⟨b, off + i * Rep.sz α, css.drop i, fps.drop i, rfl, hb, rfl, hzip.drop i, fun j c hj => ?_, hf⟩⟩, fun k hk => hz k ?_⟩
      · rw [Nat.add_assoc]
        refine hc _ c ?_
        rw [← List.take_append_drop i css, List.flatten_append, List.getElem?_append_right (by omega), hlt, Nat.add_sub_cancel_left]; exact hj
      · rcases List.mem_cons.1 hk with rfl | hk
        · simp
        · refine List.mem_cons_of_mem _ ?_
          rw [← List.take_append_drop i fps, List.flatten_append]
          exact List.mem_append_right _ hk
theorem Rd.nilS (ao : Option Addr) (h : z = z) : Rd z lo hi w [.slice (ao) 0 0] ([] : List α) :=
  ⟨[], ⟨_, rfl, ao, 0, 0, rfl, rfl, Nat.le_refl _, by simp [maxLen], (fun _ => rfl), .inl ⟨rfl, rfl⟩⟩, fun b hb => by cases hb⟩
end
end Go.Proofs.Ytdjnogcljmaapaa
