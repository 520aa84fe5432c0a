/- Contracts of the functions on permutations, third part: permutations joined; valid systems of classes. -/
import Derived.Test.YtjpdfofhnnifpaaPerm2
namespace Go.Proofs.Ytjpdfofhnnifpaa
set_option linter.unusedVariables false
set_option linter.unusedSimpArgs false
open Go.RowKit

section
variable {z z' : Bool} {lo hi lo' hi' : Nat} (w : World) (u v : Value) (p q : List Int)

set_option maxHeartbeats 2000000 in
theorem composeI_any (h : Rd z lo hi w [u] p) (h' : Rd z' lo' hi' w [v] q) (hp : p.length ≤ 1048576) (hq : q.length ≤ 1048576) :
    Calls Try.prog 22 #[u, v] w (PostOw w (compP p q)) := by
  obtain ⟨ao, n, cap, rfl, hn, hnc, hcm, hnone⟩ := h.shape
  subst hn
  obtain ⟨ao', n', cap', rfl, hn', hnc', hcm', hnone'⟩ := h'.shape
  subst hn'
  obtain ⟨r, hr⟩ : ∃ r, r = isPerm p := ⟨_, rfl⟩
  obtain ⟨s, hs⟩ : ∃ r, r = isPerm q := ⟨_, rfl⟩
  have HR := Lib.hid hr
  have HS := Lib.hid hs
  clear hr hs
  cases r
  · have HE := Lib.hid (show compP p q = [] by rw [compP, if_neg]; rw [← HR.out]; simp)
    rw [HE.out]
    go_enter Try.func22, Try.ntmps22
    go_wp2_with fail
    refine (isPermI_b _ _ _ h hp _ HR.out).mono ?_
    rintro e w1 ⟨rfl, hb1⟩
    go_wp2
    go_ret
    exact ⟨_, rfl, Ow.nil _ _ _, hb1⟩
  · cases s
    · have HE := Lib.hid (show compP p q = [] by rw [compP, if_neg]; rw [← HS.out]; simp)
      rw [HE.out]
      go_enter Try.func22, Try.ntmps22
      go_wp2_with fail
      refine (isPermI_b _ _ _ h hp _ HR.out).mono ?_
      rintro e w1 ⟨rfl, hb1⟩
      have s1 := hb1.size
      go_wp2_with fail
      refine (isPermI_b _ _ _ (h'.below hb1) hq _ HS.out).mono ?_
      rintro e w2 ⟨rfl, hb2⟩
      go_wp2
      go_ret
      exact ⟨_, rfl, Ow.nil _ _ _, hb1.trans (hb2.mono s1)⟩
    · by_cases hl : p.length = q.length
      · have HE := Lib.hid (show compP p q = comp p q by rw [compP, if_pos]; exact ⟨HR.out.symm, HS.out.symm, hl⟩)
        rw [HE.out]
        have HRG := Lib.hid (show InRange q.length p by rw [← hl]; exact isPerm_range HR.out.symm)
        have hbne : ((p.length : Int) != (q.length : Int)) = false := by simp [hl]
        clear hl
        go_enter Try.func22, Try.ntmps22
        go_wp2_with fail
        refine (isPermI_b _ _ _ h hp _ HR.out).mono ?_
        rintro e w1 ⟨rfl, hb1⟩
        have s1 := hb1.size
        go_wp2_with fail
        refine (isPermI_b _ _ _ (h'.below hb1) hq _ HS.out).mono ?_
        rintro e w2 ⟨rfl, hb2⟩
        have hB2 := hb1.trans (hb2.mono s1)
        have s2 := hb2.size
        go_wp2_with fail
        refine (composedI_any _ _ _ _ _ (h.below hB2) (h'.below hB2) hp HRG.out).mono ?_
        rintro e w3 ⟨o, rfl, ho, hb3⟩
        have HO := Lib.hid (ho.mono (show w.heap.size ≤ w2.heap.size by omega) (Nat.le_refl _))
        clear ho h h'
        go_wp2
        go_ret
        exact ⟨_, rfl, HO.out, hB2.trans (hb3.mono (by omega))⟩
      · have HE := Lib.hid (show compP p q = [] by rw [compP, if_neg]; exact fun h => hl h.2.2)
        rw [HE.out]
        have hbne : ((p.length : Int) != (q.length : Int)) = true := by simp; omega
        clear hl
        go_enter Try.func22, Try.ntmps22
        go_wp2_with fail
        refine (isPermI_b _ _ _ h hp _ HR.out).mono ?_
        rintro e w1 ⟨rfl, hb1⟩
        have s1 := hb1.size
        go_wp2_with fail
        refine (isPermI_b _ _ _ (h'.below hb1) hq _ HS.out).mono ?_
        rintro e w2 ⟨rfl, hb2⟩
        go_wp2
        go_ret
        exact ⟨_, rfl, Ow.nil _ _ _, hb1.trans (hb2.mono s1)⟩

set_option maxHeartbeats 2000000 in
theorem composeS_any (h : Rd z lo hi w [u] p) (h' : Rd z' lo' hi' w [v] q) (hp : p.length ≤ 1048576) (hq : q.length ≤ 1048576) :
    Calls Try.prog 20 #[u, v] w (PostOw w (compP p q)) := by
  obtain ⟨ao, n, cap, rfl, hn, hnc, hcm, hnone⟩ := h.shape
  subst hn
  obtain ⟨ao', n', cap', rfl, hn', hnc', hcm', hnone'⟩ := h'.shape
  subst hn'
  obtain ⟨r, hr⟩ : ∃ r, r = isPerm p := ⟨_, rfl⟩
  obtain ⟨s, hs⟩ : ∃ r, r = isPerm q := ⟨_, rfl⟩
  have HR := Lib.hid hr
  have HS := Lib.hid hs
  clear hr hs
  by_cases hl : p.length = q.length
  · have hbne : ((p.length : Int) != (q.length : Int)) = false := by simp [hl]
    have HL := Lib.hid hl
    clear hl
    cases r
    · have HE := Lib.hid (show compP p q = [] by rw [compP, if_neg]; rw [← HR.out]; simp)
      rw [HE.out]
      go_enter Try.func20, Try.ntmps20
      go_wp2_with fail
      refine (isPermS_b _ _ _ h hp _ HR.out).mono ?_
      rintro e w1 ⟨rfl, hb1⟩
      go_wp2
      go_ret
      exact ⟨_, rfl, Ow.nil _ _ _, hb1⟩
    · cases s
      · have HE := Lib.hid (show compP p q = [] by rw [compP, if_neg]; rw [← HS.out]; simp)
        rw [HE.out]
        go_enter Try.func20, Try.ntmps20
        go_wp2_with fail
        refine (isPermS_b _ _ _ h hp _ HR.out).mono ?_
        rintro e w1 ⟨rfl, hb1⟩
        have s1 := hb1.size
        go_wp2_with fail
        refine (isPermS_b _ _ _ (h'.below hb1) hq _ HS.out).mono ?_
        rintro e w2 ⟨rfl, hb2⟩
        go_wp2
        go_ret
        exact ⟨_, rfl, Ow.nil _ _ _, hb1.trans (hb2.mono s1)⟩
      · have HE := Lib.hid (show compP p q = comp p q by rw [compP, if_pos]; exact ⟨HR.out.symm, HS.out.symm, HL.out⟩)
        rw [HE.out]
        have HRG := Lib.hid (show InRange q.length p by rw [← HL.out]; exact isPerm_range HR.out.symm)
        go_enter Try.func20, Try.ntmps20
        go_wp2_with fail
        refine (isPermS_b _ _ _ h hp _ HR.out).mono ?_
        rintro e w1 ⟨rfl, hb1⟩
        have s1 := hb1.size
        go_wp2_with fail
        refine (isPermS_b _ _ _ (h'.below hb1) hq _ HS.out).mono ?_
        rintro e w2 ⟨rfl, hb2⟩
        have hB2 := hb1.trans (hb2.mono s1)
        have s2 := hb2.size
        go_wp2_with fail
        refine (composedS_any _ _ _ _ _ (h.below hB2) (h'.below hB2) hp HRG.out).mono ?_
        rintro e w3 ⟨o, rfl, ho, hb3⟩
        have HO := Lib.hid (ho.mono (show w.heap.size ≤ w2.heap.size by omega) (Nat.le_refl _))
        clear ho h h'
        go_wp2
        go_ret
        exact ⟨_, rfl, HO.out, hB2.trans (hb3.mono (by omega))⟩
  · have HE := Lib.hid (show compP p q = [] by rw [compP, if_neg]; exact fun h => hl h.2.2)
    rw [HE.out]
    have hbne : ((p.length : Int) != (q.length : Int)) = true := by simp; omega
    clear hl h h'
    go_enter Try.func20, Try.ntmps20
    go_wp2
    go_ret
    exact ⟨_, rfl, Ow.nil _ _ _, Below.refl _ _⟩
end

theorem compP_len (p q : List Int) {n : Nat} (h : p.length ≤ n) : (compP p q).length ≤ n := by
  unfold compP; split
  · rw [comp_len]; exact h
  · simp

/-- A valid system. -/
def isCls (c : Cls) : Bool := decide (1 ≤ c.1.length ∧ c.1.length ≤ 8 ∧ c.2.length = c.1.length) && isPerm c.1 && isPerm c.2

section
variable {z z' : Bool} {lo hi lo' hi' : Nat} (w : World) (u v : Value) (c : Cls)
set_option maxHeartbeats 2000000 in
theorem isClsI_b (h : Rd z lo hi w [u, v] c) (r : Bool) (hr : r = isCls c) :
    Calls Try.prog 18 #[.agg #[u, v]] w (PostB w r) := by
  obtain ⟨p, q⟩ := c
  obtain ⟨hp, hq⟩ := h.two rfl
  clear h
  dsimp only at hp hq
  obtain ⟨ao, n, cap, rfl, hn, hnc, hcm, hnone⟩ := hp.shape
  subst hn
  obtain ⟨ao', n', cap', rfl, hn', hnc', hcm', hnone'⟩ := hq.shape
  subst hn'
  unfold maxLen at *
  have HC := Lib.hid hr
  clear hr
  by_cases h1 : 1 ≤ p.length
  · by_cases h2 : p.length ≤ 8
    · by_cases h3 : q.length = p.length
      · have hbeq : ((q.length : Int) == (p.length : Int)) = true := by simp [h3]
        have hle : q.length ≤ 8 := by omega
        have HL := Lib.hid h3
        clear h3
        obtain ⟨r1, hr1⟩ : ∃ r, r = isPerm p := ⟨_, rfl⟩
        obtain ⟨r2, hr2⟩ : ∃ r, r = isPerm q := ⟨_, rfl⟩
        have H1 := Lib.hid hr1
        have H2 := Lib.hid hr2
        have HCE := Lib.hid (show r = (r1 && r2) by rw [HC.out, isCls, hr1, hr2]; simp [h1, h2, HL.out])
        clear hr1 hr2
        cases r1
        · obtain rfl : r = false := by rw [HCE.out]; rfl
          go_enter Try.func18, Try.ntmps18
          go_wp2_with fail
          refine (isPermI_b _ _ _ (hp.below (by go_grown)) (by omega) _ H1.out).mono ?_
          rintro e w1 ⟨rfl, hb1⟩
          have hB1 : Below w.heap.size w w1 := Below.after (by repeat' (first | (with_reducible exact Below.refl _ _) | (with_reducible assumption) | (with_reducible refine Below.alloc ?_ (by first | omega | (simp; omega) | simp) _) | (with_reducible refine Below.setCell ?_ (by first | omega | (simp; omega) | simp) _) | (with_reducible refine Below.drew ?_) | (with_reducible refine below_drewN ?_ _))) hb1 (by first | omega | (simp only [World.size_alloc, World.size_setCell, World.size_drew] at *; omega) | (simp; omega) | simp); have s1 := hb1.size; obtain ⟨hc1, hf1⟩ := bcell hb1; try simp only [World.size_alloc, World.size_setCell, World.size_drew] at s1 hc1 hf1
          clear hb1
          go_wp2
          go_ret
          exact ⟨rfl, hB1⟩
        · obtain rfl : r = r2 := by rw [HCE.out]; simp
          go_enter Try.func18, Try.ntmps18
          go_wp2_with fail
          refine (isPermI_b _ _ _ (hp.below (by go_grown)) (by omega) _ H1.out).mono ?_
          rintro e w1 ⟨rfl, hb1⟩
          have hB1 : Below w.heap.size w w1 := Below.after (by repeat' (first | (with_reducible exact Below.refl _ _) | (with_reducible assumption) | (with_reducible refine Below.alloc ?_ (by first | omega | (simp; omega) | simp) _) | (with_reducible refine Below.setCell ?_ (by first | omega | (simp; omega) | simp) _) | (with_reducible refine Below.drew ?_) | (with_reducible refine below_drewN ?_ _))) hb1 (by first | omega | (simp only [World.size_alloc, World.size_setCell, World.size_drew] at *; omega) | (simp; omega) | simp); have s1 := hb1.size; obtain ⟨hc1, hf1⟩ := bcell hb1; try simp only [World.size_alloc, World.size_setCell, World.size_drew] at s1 hc1 hf1
          have l0 : w.heap.size < w1.heap.size := by omega
          clear hb1
          go_wp2_with fail
          refine (isPermI_b _ _ _ (hq.below hB1) (by omega) _ H2.out).mono ?_
          rintro e w2 ⟨rfl, hb2⟩
          have hB2 : Below w.heap.size w w2 := hB1.trans (hb2.mono (by omega))
          go_wp2
          go_ret
          exact ⟨rfl, hB2⟩
      · obtain rfl : r = false := by rw [HC.out, isCls]; simp [h3]
        have hbeq : ((q.length : Int) == (p.length : Int)) = false := by simp; omega
        clear h3 hp hq
        go_enter Try.func18, Try.ntmps18
        go_wp2
        go_ret
        exact ⟨rfl, (by repeat' (first | (with_reducible exact Below.refl _ _) | (with_reducible assumption) | (with_reducible refine Below.alloc ?_ (by first | omega | (simp; omega) | simp) _) | (with_reducible refine Below.setCell ?_ (by first | omega | (simp; omega) | simp) _) | (with_reducible refine Below.drew ?_) | (with_reducible refine below_drewN ?_ _)))⟩
    · obtain rfl : r = false := by rw [HC.out, isCls]; simp [h2]
      clear hp hq
      go_enter Try.func18, Try.ntmps18
      go_wp2
      go_ret
      exact ⟨rfl, (by repeat' (first | (with_reducible exact Below.refl _ _) | (with_reducible assumption) | (with_reducible refine Below.alloc ?_ (by first | omega | (simp; omega) | simp) _) | (with_reducible refine Below.setCell ?_ (by first | omega | (simp; omega) | simp) _) | (with_reducible refine Below.drew ?_) | (with_reducible refine below_drewN ?_ _)))⟩
  · obtain rfl : r = false := by rw [HC.out, isCls]; simp [h1]
    clear hp hq
    go_enter Try.func18, Try.ntmps18
    go_wp2
    go_ret
    exact ⟨rfl, (by repeat' (first | (with_reducible exact Below.refl _ _) | (with_reducible assumption) | (with_reducible refine Below.alloc ?_ (by first | omega | (simp; omega) | simp) _) | (with_reducible refine Below.setCell ?_ (by first | omega | (simp; omega) | simp) _) | (with_reducible refine Below.drew ?_) | (with_reducible refine below_drewN ?_ _)))⟩

set_option maxHeartbeats 2000000 in
theorem isClsS_b (h : Rd z lo hi w [u, v] c) (hl1 : c.1.length ≤ 1048576) (r : Bool) (hr : r = isCls c) :
    Calls Try.prog 16 #[.agg #[u, v]] w (PostB w r) := by
  obtain ⟨p, q⟩ := c
  obtain ⟨hp, hq⟩ := h.two rfl
  clear h
  dsimp only at hp hq hl1
  obtain ⟨ao, n, cap, rfl, hn, hnc, hcm, hnone⟩ := hp.shape
  subst hn
  obtain ⟨ao', n', cap', rfl, hn', hnc', hcm', hnone'⟩ := hq.shape
  subst hn'
  unfold maxLen at *
  have HC := Lib.hid hr
  clear hr
  obtain ⟨r0, hr0⟩ : ∃ r, r = decide ((1 : Int) ≤ p.length ∧ (p.length : Int) ≤ 8) := ⟨_, rfl⟩
  have H0 := Lib.hid hr0
  clear hr0
  cases r0
  · obtain rfl : r = false := by
      have := H0.out
      rw [HC.out, isCls]
      simp at this ⊢
      omega
    go_enter Try.func16, Try.ntmps16
    go_wp2_with fail
    refine (l1In_b _ _ _ _ _ H0.out).mono ?_
    rintro e w1 ⟨rfl, hb1⟩
    have hB1 : Below w.heap.size w w1 := Below.after (by repeat' (first | (with_reducible exact Below.refl _ _) | (with_reducible assumption) | (with_reducible refine Below.alloc ?_ (by first | omega | (simp; omega) | simp) _) | (with_reducible refine Below.setCell ?_ (by first | omega | (simp; omega) | simp) _) | (with_reducible refine Below.drew ?_) | (with_reducible refine below_drewN ?_ _))) hb1 (by first | omega | (simp only [World.size_alloc, World.size_setCell, World.size_drew] at *; omega) | (simp; omega) | simp); have s1 := hb1.size; obtain ⟨hc1, hf1⟩ := bcell hb1; try simp only [World.size_alloc, World.size_setCell, World.size_drew] at s1 hc1 hf1
    go_wp2
    go_ret
    exact ⟨rfl, hB1⟩
  · obtain ⟨h1, h2⟩ : 1 ≤ p.length ∧ p.length ≤ 8 := by have := H0.out; simp at this; omega
    by_cases h3 : q.length = p.length
    · have hbeq : ((p.length : Int) == (q.length : Int)) = true := by simp [h3]
      have hle : q.length ≤ 8 := by omega
      obtain ⟨r1, hr1⟩ : ∃ r, r = isPerm p := ⟨_, rfl⟩
      obtain ⟨r2, hr2⟩ : ∃ r, r = isPerm q := ⟨_, rfl⟩
      have H1 := Lib.hid hr1
      have H2 := Lib.hid hr2
      have HCE := Lib.hid (show r = (r1 && r2) by rw [HC.out, isCls, hr1, hr2]; simp [h1, h2, h3])
      clear hr1 hr2 h3
      cases r1
      · obtain rfl : r = false := by rw [HCE.out]; rfl
        go_enter Try.func16, Try.ntmps16
        go_wp2_with fail
        refine (l1In_b _ _ _ _ _ H0.out).mono ?_
        rintro e w1 ⟨rfl, hb1⟩
        have hB1 : Below w.heap.size w w1 := Below.after (by repeat' (first | (with_reducible exact Below.refl _ _) | (with_reducible assumption) | (with_reducible refine Below.alloc ?_ (by first | omega | (simp; omega) | simp) _) | (with_reducible refine Below.setCell ?_ (by first | omega | (simp; omega) | simp) _) | (with_reducible refine Below.drew ?_) | (with_reducible refine below_drewN ?_ _))) hb1 (by first | omega | (simp only [World.size_alloc, World.size_setCell, World.size_drew] at *; omega) | (simp; omega) | simp); have s1 := hb1.size; obtain ⟨hc1, hf1⟩ := bcell hb1; try simp only [World.size_alloc, World.size_setCell, World.size_drew] at s1 hc1 hf1
        have l0 : w.heap.size < w1.heap.size := by omega
        clear hb1
        go_wp2_with fail
        refine (isPermS_b _ _ _ (hp.below hB1) (by omega) _ H1.out).mono ?_
        rintro e w2 ⟨rfl, hb2⟩
        have hB2 : Below w.heap.size w w2 := hB1.trans (hb2.mono (by omega))
        go_wp2
        go_ret
        exact ⟨rfl, hB2⟩
      · obtain rfl : r = r2 := by rw [HCE.out]; simp
        go_enter Try.func16, Try.ntmps16
        go_wp2_with fail
        refine (l1In_b _ _ _ _ _ H0.out).mono ?_
        rintro e w1 ⟨rfl, hb1⟩
        have hB1 : Below w.heap.size w w1 := Below.after (by repeat' (first | (with_reducible exact Below.refl _ _) | (with_reducible assumption) | (with_reducible refine Below.alloc ?_ (by first | omega | (simp; omega) | simp) _) | (with_reducible refine Below.setCell ?_ (by first | omega | (simp; omega) | simp) _) | (with_reducible refine Below.drew ?_) | (with_reducible refine below_drewN ?_ _))) hb1 (by first | omega | (simp only [World.size_alloc, World.size_setCell, World.size_drew] at *; omega) | (simp; omega) | simp); have s1 := hb1.size; obtain ⟨hc1, hf1⟩ := bcell hb1; try simp only [World.size_alloc, World.size_setCell, World.size_drew] at s1 hc1 hf1
        have l0 : w.heap.size < w1.heap.size := by omega
        clear hb1
        go_wp2_with fail
        refine (isPermS_b _ _ _ (hp.below hB1) (by omega) _ H1.out).mono ?_
        rintro e w2 ⟨rfl, hb2⟩
        have hB2 : Below w.heap.size w w2 := hB1.trans (hb2.mono (by omega))
        have s2 := hb2.size
        obtain ⟨hc2, hf2⟩ := bcell hb2
        have l2 : w.heap.size < w2.heap.size := by omega
        go_wp2_with fail
        refine (isPermS_b _ _ _ (hq.below hB2) (by omega) _ H2.out).mono ?_
        rintro e w3 ⟨rfl, hb3⟩
        have hB3 : Below w.heap.size w w3 := hB2.trans (hb3.mono (by omega))
        go_wp2
        go_ret
        exact ⟨rfl, hB3⟩
    · obtain rfl : r = false := by rw [HC.out, isCls]; simp [h3]
      have hbeq : ((p.length : Int) == (q.length : Int)) = false := by simp; omega
      clear h3 hp hq
      go_enter Try.func16, Try.ntmps16
      go_wp2_with fail
      refine (l1In_b _ _ _ _ _ H0.out).mono ?_
      rintro e w1 ⟨rfl, hb1⟩
      have hB1 : Below w.heap.size w w1 := Below.after (by repeat' (first | (with_reducible exact Below.refl _ _) | (with_reducible assumption) | (with_reducible refine Below.alloc ?_ (by first | omega | (simp; omega) | simp) _) | (with_reducible refine Below.setCell ?_ (by first | omega | (simp; omega) | simp) _) | (with_reducible refine Below.drew ?_) | (with_reducible refine below_drewN ?_ _))) hb1 (by first | omega | (simp only [World.size_alloc, World.size_setCell, World.size_drew] at *; omega) | (simp; omega) | simp); have s1 := hb1.size; obtain ⟨hc1, hf1⟩ := bcell hb1; try simp only [World.size_alloc, World.size_setCell, World.size_drew] at s1 hc1 hf1
      have l0 : w.heap.size < w1.heap.size := by omega
      clear hb1
      go_wp2
      go_ret
      exact ⟨rfl, hB1⟩
end
end Go.Proofs.Ytjpdfofhnnifpaa
