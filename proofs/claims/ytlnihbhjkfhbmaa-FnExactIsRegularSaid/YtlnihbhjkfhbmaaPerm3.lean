/- Contracts of the functions on permutations, third part: permutations joined; valid systems of classes. -/
import Derived.Test.YtlnihbhjkfhbmaaPerm2
namespace Go.Proofs.Ytlnihbhjkfhbmaa
set_option linter.unusedVariables false
set_option linter.unusedSimpArgs false
open Go.RowKit

section
variable {z z' : Bool} {lo hi lo' hi' : Nat} (w : World) (u v : Value) (p q : List Int)


end

theorem compP_len (p q : List Int) {n : Nat} (h : p.length ≤ n) : (compP p q).length ≤ n := by
  unfold compP; split
  · rw [comp_len]; exact h
  · simp

/-- A valid system. -/
def isCls (c : Cls) : Bool := decide (1 ≤ c.1.length ∧ c.1.length ≤ 8 ∧ c.2.length = c.1.length) && isPerm c.1 && isPerm c.2

section
variable {z z' : Bool} {lo hi lo' hi' : Nat} (w : World) (u v : Value) (c : Cls)
set_option maxHeartbeats 2000000 in
theorem isClsI_b (h : Rd z lo hi w [u, v] c) (r : Bool) (hr : r = isCls c) :
    Calls Try.prog 20 #[.agg #[u, v]] w (PostB w r) := by
  obtain ⟨p, q⟩ := c
  obtain ⟨hp, hq⟩ := h.two rfl
  clear h
  dsimp only at hp hq
  obtain ⟨ao, n, cap, rfl, hn, hnc, hcm, hnone⟩ := hp.shape
  subst hn
  obtain ⟨ao', n', cap', rfl, hn', hnc', hcm', hnone'⟩ := hq.shape
  subst hn'
  unfold maxLen at *
  have HC := Lib.hid hr
  clear hr
  by_cases h1 : 1 ≤ p.length
  · by_cases h2 : p.length ≤ 8
    · by_cases h3 : q.length = p.length
      · have hbeq : ((q.length : Int) == (p.length : Int)) = true := by simp [h3]
        have hle : q.length ≤ 8 := by omega
        have HL := Lib.hid h3
        clear h3
        obtain ⟨r1, hr1⟩ : ∃ r, r = isPerm p := ⟨_, rfl⟩
        obtain ⟨r2, hr2⟩ : ∃ r, r = isPerm q := ⟨_, rfl⟩
        have H1 := Lib.hid hr1
        have H2 := Lib.hid hr2
        have HCE := Lib.hid (show r = (r1 && r2) by rw [HC.out, isCls, hr1, hr2]; simp [h1, h2, HL.out])
        clear hr1 hr2
        cases r1
        · obtain rfl : r = false := by rw [HCE.out]; rfl
          go_enter Try.func20, Try.ntmps20
          go_wp2_with fail
          refine (isPermI_b _ _ _ (hp.below (by go_grown)) (by omega) _ H1.out).mono ?_
          rintro e w1 ⟨rfl, hb1⟩
          have hB1 : Below w.heap.size w w1 := Below.after bwT hb1 szT; have s1 := hb1.size; obtain ⟨hc1, hf1⟩ := bcell hb1; try simp only [World.size_alloc, World.size_setCell, World.size_drew] at s1 hc1 hf1
          clear hb1
          go_wp2
          go_ret
          exact ⟨rfl, hB1⟩
        · obtain rfl : r = r2 := by rw [HCE.out]; simp
          go_enter Try.func20, Try.ntmps20
          go_wp2_with fail
          refine (isPermI_b _ _ _ (hp.below (by go_grown)) (by omega) _ H1.out).mono ?_
          rintro e w1 ⟨rfl, hb1⟩
          have hB1 : Below w.heap.size w w1 := Below.after bwT hb1 szT; have s1 := hb1.size; obtain ⟨hc1, hf1⟩ := bcell hb1; try simp only [World.size_alloc, World.size_setCell, World.size_drew] at s1 hc1 hf1
          have l0 : w.heap.size < w1.heap.size := by omega
          clear hb1
          go_wp2_with fail
          refine (isPermI_b _ _ _ (hq.below hB1) (by omega) _ H2.out).mono ?_
          rintro e w2 ⟨rfl, hb2⟩
          have hB2 : Below w.heap.size w w2 := hB1.trans (hb2.mono (by omega))
          go_wp2
          go_ret
          exact ⟨rfl, hB2⟩
      · obtain rfl : r = false := by rw [HC.out, isCls]; simp [h3]
        have hbeq : ((q.length : Int) == (p.length : Int)) = false := by simp; omega
        clear h3 hp hq
        go_enter Try.func20, Try.ntmps20
        go_wp2
        go_ret
        exact ⟨rfl, bwT⟩
    · obtain rfl : r = false := by rw [HC.out, isCls]; simp [h2]
      clear hp hq
      go_enter Try.func20, Try.ntmps20
      go_wp2
      go_ret
      exact ⟨rfl, bwT⟩
  · obtain rfl : r = false := by rw [HC.out, isCls]; simp [h1]
    clear hp hq
    go_enter Try.func20, Try.ntmps20
    go_wp2
    go_ret
    exact ⟨rfl, bwT⟩

set_option maxHeartbeats 2000000 in
theorem isClsS_b (h : Rd z lo hi w [u, v] c) (hl1 : c.1.length ≤ 1048576) (r : Bool) (hr : r = isCls c) :
    Calls Try.prog 17 #[.agg #[u, v]] w (PostB w r) := by
  obtain ⟨p, q⟩ := c
  obtain ⟨hp, hq⟩ := h.two rfl
  clear h
  dsimp only at hp hq hl1
  obtain ⟨ao, n, cap, rfl, hn, hnc, hcm, hnone⟩ := hp.shape
  subst hn
  obtain ⟨ao', n', cap', rfl, hn', hnc', hcm', hnone'⟩ := hq.shape
  subst hn'
  unfold maxLen at *
  have HC := Lib.hid hr
  clear hr
  obtain ⟨r0, hr0⟩ : ∃ r, r = decide ((1 : Int) ≤ p.length ∧ (p.length : Int) ≤ 8) := ⟨_, rfl⟩
  have H0 := Lib.hid hr0
  clear hr0
  cases r0
  · obtain rfl : r = false := by
      have := H0.out
      rw [HC.out, isCls]
      simp at this ⊢
      omega
    go_enter Try.func17, Try.ntmps17
    go_wp2_with fail
    refine (l1In_b _ _ _ _ _ H0.out).mono ?_
    rintro e w1 ⟨rfl, hb1⟩
    have hB1 : Below w.heap.size w w1 := Below.after bwT hb1 szT; have s1 := hb1.size; obtain ⟨hc1, hf1⟩ := bcell hb1; try simp only [World.size_alloc, World.size_setCell, World.size_drew] at s1 hc1 hf1
    go_wp2
    go_ret
    exact ⟨rfl, hB1⟩
  · obtain ⟨h1, h2⟩ : 1 ≤ p.length ∧ p.length ≤ 8 := by have := H0.out; simp at this; omega
    by_cases h3 : q.length = p.length
    · have hbeq : ((p.length : Int) == (q.length : Int)) = true := by simp [h3]
      have hle : q.length ≤ 8 := by omega
      obtain ⟨r1, hr1⟩ : ∃ r, r = isPerm p := ⟨_, rfl⟩
      obtain ⟨r2, hr2⟩ : ∃ r, r = isPerm q := ⟨_, rfl⟩
      have H1 := Lib.hid hr1
      have H2 := Lib.hid hr2
      have HCE := Lib.hid (show r = (r1 && r2) by rw [HC.out, isCls, hr1, hr2]; simp [h1, h2, h3])
      clear hr1 hr2 h3
      cases r1
      · obtain rfl : r = false := by rw [HCE.out]; rfl
        go_enter Try.func17, Try.ntmps17
        go_wp2_with fail
        refine (l1In_b _ _ _ _ _ H0.out).mono ?_
        rintro e w1 ⟨rfl, hb1⟩
        have hB1 : Below w.heap.size w w1 := Below.after bwT hb1 szT; have s1 := hb1.size; obtain ⟨hc1, hf1⟩ := bcell hb1; try simp only [World.size_alloc, World.size_setCell, World.size_drew] at s1 hc1 hf1
        have l0 : w.heap.size < w1.heap.size := by omega
        clear hb1
        go_wp2_with fail
        refine (isPermS_b _ _ _ (hp.below hB1) (by omega) _ H1.out).mono ?_
        rintro e w2 ⟨rfl, hb2⟩
        have hB2 : Below w.heap.size w w2 := hB1.trans (hb2.mono (by omega))
        go_wp2
        go_ret
        exact ⟨rfl, hB2⟩
      · obtain rfl : r = r2 := by rw [HCE.out]; simp
        go_enter Try.func17, Try.ntmps17
        go_wp2_with fail
        refine (l1In_b _ _ _ _ _ H0.out).mono ?_
        rintro e w1 ⟨rfl, hb1⟩
        have hB1 : Below w.heap.size w w1 := Below.after bwT hb1 szT; have s1 := hb1.size; obtain ⟨hc1, hf1⟩ := bcell hb1; try simp only [World.size_alloc, World.size_setCell, World.size_drew] at s1 hc1 hf1
        have l0 : w.heap.size < w1.heap.size := by omega
        clear hb1
        go_wp2_with fail
        refine (isPermS_b _ _ _ (hp.below hB1) (by omega) _ H1.out).mono ?_
        rintro e w2 ⟨rfl, hb2⟩
        have hB2 : Below w.heap.size w w2 := hB1.trans (hb2.mono (by omega))
        have s2 := hb2.size
        obtain ⟨hc2, hf2⟩ := bcell hb2
        have l2 : w.heap.size < w2.heap.size := by omega
        go_wp2_with fail
        refine (isPermS_b _ _ _ (hq.below hB2) (by omega) _ H2.out).mono ?_
        rintro e w3 ⟨rfl, hb3⟩
        have hB3 : Below w.heap.size w w3 := hB2.trans (hb3.mono (by omega))
        go_wp2
        go_ret
        exact ⟨rfl, hB3⟩
    · obtain rfl : r = false := by rw [HC.out, isCls]; simp [h3]
      have hbeq : ((p.length : Int) == (q.length : Int)) = false := by simp; omega
      clear h3 hp hq
      go_enter Try.func17, Try.ntmps17
      go_wp2_with fail
      refine (l1In_b _ _ _ _ _ H0.out).mono ?_
      rintro e w1 ⟨rfl, hb1⟩
      have hB1 : Below w.heap.size w w1 := Below.after bwT hb1 szT; have s1 := hb1.size; obtain ⟨hc1, hf1⟩ := bcell hb1; try simp only [World.size_alloc, World.size_setCell, World.size_drew] at s1 hc1 hf1
      have l0 : w.heap.size < w1.heap.size := by omega
      clear hb1
      go_wp2
      go_ret
      exact ⟨rfl, hB1⟩
end
/-- One value that is owned and new comes back, and a bool. -/
def PostOwB {α : Type} [Rep α] (w : World) (x : α) (b : Bool) (e : Ending) (w' : World) : Prop := ∃ u, e = .returned (.tuple #[u, .bool b]) ∧ Ow w.heap.size w'.heap.size w' [u] x ∧ Below w.heap.size w w'
end Go.Proofs.Ytlnihbhjkfhbmaa
