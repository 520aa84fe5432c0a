/- Texts laid one behind the other (merge.py): Idn, Perm3. -/
import Derived.Test.YtlnhhfebmeekhaaPerm2
namespace Go.Proofs.Ytlnhhfebmeekhaa
set_option linter.unusedVariables false
set_option linter.unusedSimpArgs false
open Go.RowKit

/-! ### Idn -/
section

def idL (n : Nat) : List Int := (List.range n).map fun (i : Nat) => (i : Int)
theorem idL_succ (k : Nat) : idL (k + 1) = idL k ++ [(k : Int)] := by simp [idL, List.range_succ]
theorem idL_len (k : Nat) : (idL k).length = k := by simp [idL]

set_option maxHeartbeats 1000000 in
theorem identity_any (w : World) (n : Nat) (hn : n ≤ 1048576) :
    Calls Try.prog 65 #[.int .i64 n] w (PostOw w (idL n)) := by
  go_enter Try.func65, Try.ntmps65
  go_wp2
  go_loopw [3, 4, 6] (fun o _ i wr => ∃ k : Nat, k ≤ n ∧ i = .int .i64 k ∧ GL true w.heap.size w.heap.size wr.heap.size wr 3 o (idL k) ∧ Below w.heap.size w wr) (fun _ _ i _ => n - (intOf i).toNat)
  case atStart => exact ⟨0, Nat.zero_le _, rfl, GL.start _ _ _ _ _ _, Below.refl _ _⟩
  case round =>
    rename_i wr
    obtain ⟨k, hk, rfl, hG, hb⟩ := hrel
    have sW := hb.size
    by_cases hlt : k < n
    · have hI : (k : Int) < (n : Int) := by omega
      have hlc : (idL k).length ≤ 1048576 := by rw [idL_len]; omega
      go_wp2_with (at_builtin; refine wpList_push rfl rfl slInt (by show (0 : Nat) < 1; omega) (hG.alloc _) rfl (ad := ⟨wr.heap.size, 0, none⟩) rfl (cs := [.int .i64 k]) (y := (k : Int)) (lx := wr.heap.size) (hx' := wr.heap.size) ?c1 (It.flat (z := true) (w0 := wr) (fp := []) ⟨rfl, ⟨by omega, by omega⟩, rfl⟩) sW (.inl (Nat.le_refl _)) (by unfold maxLen; omega) (by omega) ?c2 ?_)
      case c1 =>
        intro j c hj
        match j, hj with
        | 0, hj => simp at hj; subst hj; simp [Addr.add]
      case c2 => simp; omega
      intro v' w1 hG1 _ hb1
      rw [← idL_succ] at hG1
      have HG := Lib.hid hG1
      have hB1 : Below w.heap.size w w1 := Below.trans (hb.alloc sW _) hb1
      clear hG hG1 hb1
      go_wp2
      go_roundw
      case rel => exact ⟨k + 1, by omega, by go_num, HG.out, hB1⟩
      case measure => simp [intOf]; omega
    · have hkn : k = n := by omega
      have HO := Lib.hid (hG.ow (l0 := w.heap.size) (Nat.le_refl _) (Nat.le_refl _))
      clear hG
      subst hkn
      go_wp2
      go_ret
      exact ⟨_, rfl, HO.out, hb⟩

end

/-! ### Perm3 -/
section

section
variable {z z' : Bool} {lo hi lo' hi' : Nat} (w : World) (u v : Value) (p q : List Int)

set_option maxHeartbeats 2000000 in
theorem composeI_any (h : Rd z lo hi w [u] p) (h' : Rd z' lo' hi' w [v] q) (hp : p.length ≤ 1048576) (hq : q.length ≤ 1048576) :
    Calls Try.prog 21 #[u, v] w (PostOw w (compP p q)) := by
  obtain ⟨ao, n, cap, rfl, hn, hnc, hcm, hnone⟩ := h.shape
  subst hn
  obtain ⟨ao', n', cap', rfl, hn', hnc', hcm', hnone'⟩ := h'.shape
  subst hn'
  obtain ⟨r, hr⟩ : ∃ r, r = isPerm p := ⟨_, rfl⟩
  obtain ⟨s, hs⟩ : ∃ r, r = isPerm q := ⟨_, rfl⟩
  have HR := Lib.hid hr
  have HS := Lib.hid hs
  clear hr hs
  cases r
  · have HE := Lib.hid (show compP p q = [] by rw [compP, if_neg]; rw [← HR.out]; simp)
    rw [HE.out]
    go_enter Try.func21, Try.ntmps21
    go_wp2_with fail
    refine (isPermI_b _ _ _ h hp _ HR.out).mono ?_
    rintro e w1 ⟨rfl, hb1⟩
    go_wp2
    go_ret
    exact ⟨_, rfl, Ow.nil _ _ _, hb1⟩
  · cases s
    · have HE := Lib.hid (show compP p q = [] by rw [compP, if_neg]; rw [← HS.out]; simp)
      rw [HE.out]
      go_enter Try.func21, Try.ntmps21
      go_wp2_with fail
      refine (isPermI_b _ _ _ h hp _ HR.out).mono ?_
      rintro e w1 ⟨rfl, hb1⟩
      have s1 := hb1.size
      go_wp2_with fail
      refine (isPermI_b _ _ _ (h'.below hb1) hq _ HS.out).mono ?_
      rintro e w2 ⟨rfl, hb2⟩
      go_wp2
      go_ret
      exact ⟨_, rfl, Ow.nil _ _ _, hb1.trans (hb2.mono s1)⟩
    · by_cases hl : p.length = q.length
      · have HE := Lib.hid (show compP p q = comp p q by rw [compP, if_pos]; exact ⟨HR.out.symm, HS.out.symm, hl⟩)
        rw [HE.out]
        have HRG := Lib.hid (show InRange q.length p by rw [← hl]; exact isPerm_range HR.out.symm)
        have hbne : ((p.length : Int) != (q.length : Int)) = false := by simp [hl]
        clear hl
        go_enter Try.func21, Try.ntmps21
        go_wp2_with fail
        refine (isPermI_b _ _ _ h hp _ HR.out).mono ?_
        rintro e w1 ⟨rfl, hb1⟩
        have s1 := hb1.size
        go_wp2_with fail
        refine (isPermI_b _ _ _ (h'.below hb1) hq _ HS.out).mono ?_
        rintro e w2 ⟨rfl, hb2⟩
        have hB2 := hb1.trans (hb2.mono s1)
        have s2 := hb2.size
        go_wp2_with fail
        refine (composedI_any _ _ _ _ _ (h.below hB2) (h'.below hB2) hp HRG.out).mono ?_
        rintro e w3 ⟨o, rfl, ho, hb3⟩
        have HO := Lib.hid (ho.mono (show w.heap.size ≤ w2.heap.size by omega) (Nat.le_refl _))
        clear ho h h'
        go_wp2
        go_ret
        exact ⟨_, rfl, HO.out, hB2.trans (hb3.mono (by omega))⟩
      · have HE := Lib.hid (show compP p q = [] by rw [compP, if_neg]; exact fun h => hl h.2.2)
        rw [HE.out]
        have hbne : ((p.length : Int) != (q.length : Int)) = true := by simp; omega
        clear hl
        go_enter Try.func21, Try.ntmps21
        go_wp2_with fail
        refine (isPermI_b _ _ _ h hp _ HR.out).mono ?_
        rintro e w1 ⟨rfl, hb1⟩
        have s1 := hb1.size
        go_wp2_with fail
        refine (isPermI_b _ _ _ (h'.below hb1) hq _ HS.out).mono ?_
        rintro e w2 ⟨rfl, hb2⟩
        go_wp2
        go_ret
        exact ⟨_, rfl, Ow.nil _ _ _, hb1.trans (hb2.mono s1)⟩

end

theorem compP_len (p q : List Int) {n : Nat} (h : p.length ≤ n) : (compP p q).length ≤ n := by
  unfold compP; split
  · rw [comp_len]; exact h
  · simp

/-- A valid system. -/
def isCls (c : Cls) : Bool := decide (1 ≤ c.1.length ∧ c.1.length ≤ 8 ∧ c.2.length = c.1.length) && isPerm c.1 && isPerm c.2

section
variable {z z' : Bool} {lo hi lo' hi' : Nat} (w : World) (u v : Value) (c : Cls)
set_option maxHeartbeats 2000000 in
theorem isClsI_b (h : Rd z lo hi w [u, v] c) (r : Bool) (hr : r = isCls c) :
    Calls Try.prog 50 #[.agg #[u, v]] w (PostB w r) := by
  obtain ⟨p, q⟩ := c
  obtain ⟨hp, hq⟩ := h.two rfl
  clear h
  dsimp only at hp hq
  obtain ⟨ao, n, cap, rfl, hn, hnc, hcm, hnone⟩ := hp.shape
  subst hn
  obtain ⟨ao', n', cap', rfl, hn', hnc', hcm', hnone'⟩ := hq.shape
  subst hn'
  unfold maxLen at *
  have HC := Lib.hid hr
  clear hr
  by_cases h1 : 1 ≤ p.length
  · by_cases h2 : p.length ≤ 8
    · by_cases h3 : q.length = p.length
      · have hbeq : ((q.length : Int) == (p.length : Int)) = true := by simp [h3]
        have hle : q.length ≤ 8 := by omega
        have HL := Lib.hid h3
        clear h3
        obtain ⟨r1, hr1⟩ : ∃ r, r = isPerm p := ⟨_, rfl⟩
        obtain ⟨r2, hr2⟩ : ∃ r, r = isPerm q := ⟨_, rfl⟩
        have H1 := Lib.hid hr1
        have H2 := Lib.hid hr2
        have HCE := Lib.hid (show r = (r1 && r2) by rw [HC.out, isCls, hr1, hr2]; simp [h1, h2, HL.out])
        clear hr1 hr2
        cases r1
        · obtain rfl : r = false := by rw [HCE.out]; rfl
          go_enter Try.func50, Try.ntmps50
          go_wp2_with fail
          refine (isPermI_b _ _ _ (hp.below (by go_grown)) (by omega) _ H1.out).mono ?_
          rintro e w1 ⟨rfl, hb1⟩
          have hB1 : Below w.heap.size w w1 := Below.after bwT hb1 szT; have s1 := hb1.size; obtain ⟨hc1, hf1⟩ := bcell hb1; try simp only [World.size_alloc, World.size_setCell, World.size_drew] at s1 hc1 hf1
          clear hb1
          go_wp2
          go_ret
          exact ⟨rfl, hB1⟩
        · obtain rfl : r = r2 := by rw [HCE.out]; simp
          go_enter Try.func50, Try.ntmps50
          go_wp2_with fail
          refine (isPermI_b _ _ _ (hp.below (by go_grown)) (by omega) _ H1.out).mono ?_
          rintro e w1 ⟨rfl, hb1⟩
          have hB1 : Below w.heap.size w w1 := Below.after bwT hb1 szT; have s1 := hb1.size; obtain ⟨hc1, hf1⟩ := bcell hb1; try simp only [World.size_alloc, World.size_setCell, World.size_drew] at s1 hc1 hf1
          have l0 : w.heap.size < w1.heap.size := by omega
          clear hb1
          go_wp2_with fail
          refine (isPermI_b _ _ _ (hq.below hB1) (by omega) _ H2.out).mono ?_
          rintro e w2 ⟨rfl, hb2⟩
          have hB2 : Below w.heap.size w w2 := hB1.trans (hb2.mono (by omega))
          go_wp2
          go_ret
          exact ⟨rfl, hB2⟩
      · obtain rfl : r = false := by rw [HC.out, isCls]; simp [h3]
        have hbeq : ((q.length : Int) == (p.length : Int)) = false := by simp; omega
        clear h3 hp hq
        go_enter Try.func50, Try.ntmps50
        go_wp2
        go_ret
        exact ⟨rfl, bwT⟩
    · obtain rfl : r = false := by rw [HC.out, isCls]; simp [h2]
      clear hp hq
      go_enter Try.func50, Try.ntmps50
      go_wp2
      go_ret
      exact ⟨rfl, bwT⟩
  · obtain rfl : r = false := by rw [HC.out, isCls]; simp [h1]
    clear hp hq
    go_enter Try.func50, Try.ntmps50
    go_wp2
    go_ret
    exact ⟨rfl, bwT⟩

set_option maxHeartbeats 2000000 in
theorem isClsS_b (h : Rd z lo hi w [u, v] c) (hl1 : c.1.length ≤ 1048576) (r : Bool) (hr : r = isCls c) :
    Calls Try.prog 70 #[.agg #[u, v]] w (PostB w r) := by
  obtain ⟨p, q⟩ := c
  obtain ⟨hp, hq⟩ := h.two rfl
  clear h
  dsimp only at hp hq hl1
  obtain ⟨ao, n, cap, rfl, hn, hnc, hcm, hnone⟩ := hp.shape
  subst hn
  obtain ⟨ao', n', cap', rfl, hn', hnc', hcm', hnone'⟩ := hq.shape
  subst hn'
  unfold maxLen at *
  have HC := Lib.hid hr
  clear hr
  obtain ⟨r0, hr0⟩ : ∃ r, r = decide ((1 : Int) ≤ p.length ∧ (p.length : Int) ≤ 8) := ⟨_, rfl⟩
  have H0 := Lib.hid hr0
  clear hr0
  cases r0
  · obtain rfl : r = false := by
      have := H0.out
      rw [HC.out, isCls]
      simp at this ⊢
      omega
    go_enter Try.func70, Try.ntmps70
    go_wp2_with fail
    refine (l1In_b _ _ _ _ _ H0.out).mono ?_
    rintro e w1 ⟨rfl, hb1⟩
    have hB1 : Below w.heap.size w w1 := Below.after bwT hb1 szT; have s1 := hb1.size; obtain ⟨hc1, hf1⟩ := bcell hb1; try simp only [World.size_alloc, World.size_setCell, World.size_drew] at s1 hc1 hf1
    go_wp2
    go_ret
    exact ⟨rfl, hB1⟩
  · obtain ⟨h1, h2⟩ : 1 ≤ p.length ∧ p.length ≤ 8 := by have := H0.out; simp at this; omega
    by_cases h3 : q.length = p.length
    · have hbeq : ((p.length : Int) == (q.length : Int)) = true := by simp [h3]
      have hle : q.length ≤ 8 := by omega
      obtain ⟨r1, hr1⟩ : ∃ r, r = isPerm p := ⟨_, rfl⟩
      obtain ⟨r2, hr2⟩ : ∃ r, r = isPerm q := ⟨_, rfl⟩
      have H1 := Lib.hid hr1
      have H2 := Lib.hid hr2
      have HCE := Lib.hid (show r = (r1 && r2) by rw [HC.out, isCls, hr1, hr2]; simp [h1, h2, h3])
      clear hr1 hr2 h3
      cases r1
      · obtain rfl : r = false := by rw [HCE.out]; rfl
        go_enter Try.func70, Try.ntmps70
        go_wp2_with fail
        refine (l1In_b _ _ _ _ _ H0.out).mono ?_
        rintro e w1 ⟨rfl, hb1⟩
        have hB1 : Below w.heap.size w w1 := Below.after bwT hb1 szT; have s1 := hb1.size; obtain ⟨hc1, hf1⟩ := bcell hb1; try simp only [World.size_alloc, World.size_setCell, World.size_drew] at s1 hc1 hf1
        have l0 : w.heap.size < w1.heap.size := by omega
        clear hb1
        go_wp2_with fail
        refine (isPermS_b _ _ _ (hp.below hB1) (by omega) _ H1.out).mono ?_
        rintro e w2 ⟨rfl, hb2⟩
        have hB2 : Below w.heap.size w w2 := hB1.trans (hb2.mono (by omega))
        go_wp2
        go_ret
        exact ⟨rfl, hB2⟩
      · obtain rfl : r = r2 := by rw [HCE.out]; simp
        go_enter Try.func70, Try.ntmps70
        go_wp2_with fail
        refine (l1In_b _ _ _ _ _ H0.out).mono ?_
        rintro e w1 ⟨rfl, hb1⟩
        have hB1 : Below w.heap.size w w1 := Below.after bwT hb1 szT; have s1 := hb1.size; obtain ⟨hc1, hf1⟩ := bcell hb1; try simp only [World.size_alloc, World.size_setCell, World.size_drew] at s1 hc1 hf1
        have l0 : w.heap.size < w1.heap.size := by omega
        clear hb1
        go_wp2_with fail
        refine (isPermS_b _ _ _ (hp.below hB1) (by omega) _ H1.out).mono ?_
        rintro e w2 ⟨rfl, hb2⟩
        have hB2 : Below w.heap.size w w2 := hB1.trans (hb2.mono (by omega))
        have s2 := hb2.size
        obtain ⟨hc2, hf2⟩ := bcell hb2
        have l2 : w.heap.size < w2.heap.size := by omega
        go_wp2_with fail
        refine (isPermS_b _ _ _ (hq.below hB2) (by omega) _ H2.out).mono ?_
        rintro e w3 ⟨rfl, hb3⟩
        have hB3 : Below w.heap.size w w3 := hB2.trans (hb3.mono (by omega))
        go_wp2
        go_ret
        exact ⟨rfl, hB3⟩
    · obtain rfl : r = false := by rw [HC.out, isCls]; simp [h3]
      have hbeq : ((p.length : Int) == (q.length : Int)) = false := by simp; omega
      clear h3 hp hq
      go_enter Try.func70, Try.ntmps70
      go_wp2_with fail
      refine (l1In_b _ _ _ _ _ H0.out).mono ?_
      rintro e w1 ⟨rfl, hb1⟩
      have hB1 : Below w.heap.size w w1 := Below.after bwT hb1 szT; have s1 := hb1.size; obtain ⟨hc1, hf1⟩ := bcell hb1; try simp only [World.size_alloc, World.size_setCell, World.size_drew] at s1 hc1 hf1
      have l0 : w.heap.size < w1.heap.size := by omega
      clear hb1
      go_wp2
      go_ret
      exact ⟨rfl, hB1⟩
end
/-- One value that is owned and new comes back, and a bool. -/
def PostOwB {α : Type} [Rep α] (w : World) (x : α) (b : Bool) (e : Ending) (w' : World) : Prop := ∃ u, e = .returned (.tuple #[u, .bool b]) ∧ Ow w.heap.size w'.heap.size w' [u] x ∧ Below w.heap.size w w'

end

end Go.Proofs.Ytlnhhfebmeekhaa
