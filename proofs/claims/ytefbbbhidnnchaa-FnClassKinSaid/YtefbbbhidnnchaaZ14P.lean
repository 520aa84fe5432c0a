/- Texts laid one behind the other (merge.py): Moi2, ErrI, GivI, GivS, StepS, Err2. -/
import Derived.Test.YtefbbbhidnnchaaZ14O
import Derived.Test.YtefbbbhidnnchaaZ14D
namespace Go.Proofs.Ytefbbbhidnnchaa
set_option linter.unusedVariables false
set_option linter.unusedSimpArgs false
open Go.RowKit

/-! ### Moi2 -/
section

/-- How many are not marked yet. -/
def unm (n : Nat) (o : List Int) : Nat := ((List.range n).filter fun q => decide (mrk o q < 0)).length
theorem unm_le (n : Nat) (o : List Int) : unm n o ≤ n := by
  unfold unm
  have := List.length_filter_le (fun q => decide (mrk o q < 0)) (List.range n)
  simpa using this
theorem filter_lt {n b : Nat} {p q : Nat → Bool} (hb : b < n) (hp : p b = true) (hq : q b = false) (h : ∀ i, i ≠ b → q i = p i) : ((List.range n).filter q).length < ((List.range n).filter p).length := by
  induction n with
  | zero => omega
  | succ n ih =>
    rw [List.range_succ, List.filter_append, List.filter_append, List.length_append, List.length_append]
    by_cases e : b = n
    · subst e
      have e2 : (List.range b).filter q = (List.range b).filter p := List.filter_congr fun i hi => h i (by have := List.mem_range.1 hi; omega)
      rw [e2]; simp [hp, hq]
    · have := ih (by omega)
      have e2 : q n = p n := h n (fun e' => e e'.symm)
      simp only [List.filter_cons, List.filter_nil, e2]
      omega
theorem unm_set {n : Nat} {o : List Int} {b : Nat} (hb : b < n) (hl : o.length = n) (hm : mrk o b < 0) {y : Int} (hy : 0 ≤ y) : unm n (o.set b y) < unm n o := by
  unfold unm
  refine filter_lt hb (by simpa using hm) ?_ fun i hi => ?_
  · rw [mrk_set (by omega), if_pos rfl]; simp; omega
  · rw [mrk_set (by omega), if_neg (fun e => hi e.symm)]

/-- The pairs before (a, b) are closed. -/
def PPr (f : Fam) (sex : Int) (a b : Nat) (o : List Int) : Prop :=
  ∀ a' b', a' < f.1.length → b' < f.1.length → (a' < a ∨ (a' = a ∧ b' < b)) → fo f.1 sex a' = fo f.1 sex b' → 0 ≤ mrk o a' → 0 ≤ mrk o b'
/-- The unions before k are closed. -/
def PUn (f : Fam) (k : Nat) (o : List Int) : Prop := ∀ u ∈ f.2.take k, (0 ≤ mrk o u.1.toNat ↔ 0 ≤ mrk o u.2.1.toNat)
/-- In the midst of a sweep that began with o'. t: has a mark been laid? -/
structure Sw (f : Fam) (sex : Int) (o1 o' : List Int) (a b k : Nat) (t : Bool) (o : List Int) : Prop where
  inn : Inn f sex o1 o
  same : t = false → PPr f sex a b o ∧ PUn f k o
  cnt : unm f.1.length o ≤ unm f.1.length o' ∧ (t = true → unm f.1.length o < unm f.1.length o')

section
variable {f : Fam} {sex : Int} {o1 o' o : List Int} {a b k : Nat} {t : Bool}
theorem Sw.start (h : Inn f sex o1 o) : Sw f sex o1 o 0 0 0 false o :=
  ⟨h, fun _ => ⟨fun a' b' _ _ h1 => by omega, fun u hu => by simp at hu⟩, Nat.le_refl _, fun h => by cases h⟩
theorem Sw.keep (h : Sw f sex o1 o' a b k t o) (hn : ¬ (0 ≤ mrk o a ∧ mrk o b < 0 ∧ fo f.1 sex a = fo f.1 sex b)) : Sw f sex o1 o' a (b + 1) k t o := by
  refine ⟨h.inn, fun ht => ⟨fun a' b' h1 h2 h3 h4 h5 => ?_, (h.same ht).2⟩, h.cnt⟩
  by_cases e : a' = a ∧ b' = b
  · obtain ⟨rfl, rfl⟩ := e
    by_cases e2 : 0 ≤ mrk o b'
    · exact e2
    · exact (hn ⟨h5, by omega, h4⟩).elim
  · exact (h.same ht).1 a' b' h1 h2 (by omega) h4 h5
theorem Sw.put (h : Sw f sex o1 o' a b k t o) (ha : a < f.1.length) (hb : b < f.1.length) (h1 : 0 ≤ mrk o a) (h2 : mrk o b < 0) (h3 : fo f.1 sex a = fo f.1 sex b) : Sw f sex o1 o' a (b + 1) k true (o.set b (mrk o a)) := by
  have hr := h.inn.rng.2 a ha
  have hc := unm_set hb h.inn.rng.1 h2 h1
  refine ⟨h.inn.put hb (by omega) (by omega) (fun g hg hA => ?_), fun h => (by cases h), by have := h.cnt.1; omega, fun _ => by have := h.cnt.1; omega⟩
  rw [hg.2.1 b hb, ← h3, ← hg.2.1 a ha]
  exact hA a ha h1
theorem Sw.row (h : Sw f sex o1 o' a f.1.length k t o) : Sw f sex o1 o' (a + 1) 0 k t o :=
  ⟨h.inn, fun ht => ⟨fun a' b' h1 h2 h3 h4 h5 => (h.same ht).1 a' b' h1 h2 (by omega) h4 h5, (h.same ht).2⟩, h.cnt⟩
theorem Sw.clo (h : Sw f sex o1 o' f.1.length 0 f.2.length false o) (hin : ∀ p, p < f.1.length → fo f.1 sex p < f.1.length) (hff : ∀ p, p < f.1.length → fo f.1 sex (fo f.1 sex p) = fo f.1 sex p) : Clo f sex o := by
  obtain ⟨h1, h2⟩ := h.same rfl
  refine ⟨fun p hp => ⟨fun e => h1 p _ hp (hin p hp) (.inl hp) (hff p hp).symm e, fun e => h1 _ p (hin p hp) hp (.inl (hin p hp)) (hff p hp) e⟩, fun u hu => h2 u (by rw [List.take_length]; exact hu)⟩
/-- The last look: lines stay together before a. -/
def Tog (f : Fam) (sex : Int) (a b : Nat) (o : List Int) : Prop := ∀ a' b', a' < f.1.length → b' < f.1.length → (a' < a ∨ (a' = a ∧ b' < b)) → fo f.1 sex a' = fo f.1 sex b' → mrk o a' = mrk o b'
theorem Tog.start : Tog f sex 0 0 o := fun a' b' _ _ h1 => by omega
theorem Tog.keep (h : Tog f sex a b o) (hn : ¬ (fo f.1 sex a = fo f.1 sex b ∧ ¬ mrk o a = mrk o b)) : Tog f sex a (b + 1) o := fun a' b' h1 h2 h3 h4 => by
  by_cases e : a' = a ∧ b' = b
  · obtain ⟨rfl, rfl⟩ := e
    by_cases e2 : mrk o a' = mrk o b'
    · exact e2
    · exact (hn ⟨h4, e2⟩).elim
  · exact h a' b' h1 h2 (by omega) h4
theorem Tog.row (h : Tog f sex a f.1.length o) : Tog f sex (a + 1) 0 o := fun a' b' h1 h2 h3 h4 => h a' b' h1 h2 (by omega) h4
end

end

/-! ### ErrI -/
section



end

/-! ### GivI -/
section

set_option maxRecDepth 20000 in
set_option maxHeartbeats 4000000 in
theorem givenI_b {z z1 z' : Bool} {lo hi lo1 hi1 lo' hi' : Nat} (w : World) (v v2 u1 u2 v3 : Value) (f : Fam) (c : Cls) (g : List Int) (h : Rd z lo hi w [v, v2] f) (hc : Rd z1 lo1 hi1 w [u1, u2] c) (h' : Rd z' lo' hi' w [v3] g) (hlc : c.1.length ≤ 1048576) (least : Int) (hle0 : -1 ≤ least) (hle1 : least ≤ 0) (r : Bool) (hr : r = givenB f c g least) :
    Calls Try.prog 43 #[.agg #[v, v2], .agg #[u1, u2], v3, .int .i64 least] w (PostB w r) := by
  obtain ⟨ha, -⟩ := h.fam
  obtain ⟨hw, -⟩ := hc.two rfl
  obtain ⟨ao, n, cap, rfl, hn, hnc, hcm, hnone⟩ := ha.shape
  obtain ⟨bo, n2, dap, rfl, hn2, hnc', hcm', hnone'⟩ := hw.shape
  obtain ⟨go, n3, gap, rfl, hn3, hnc3, hcm3, hnone3⟩ := h'.shape
  subst hn hn2 hn3
  unfold maxLen at *
  obtain ⟨r1, hlet_r1⟩ : ∃ r, r = famB f := ⟨_, rfl⟩
  have H1 := Lib.hid hlet_r1
  clear hlet_r1
  obtain ⟨r2, hlet_r2⟩ : ∃ r, r = isCls c := ⟨_, rfl⟩
  have H2 := Lib.hid hlet_r2
  clear hlet_r2
  obtain ⟨r3, hlet_r3⟩ : ∃ r, r = decide (g.length = f.1.length) := ⟨_, rfl⟩
  have H3 := Lib.hid hlet_r3
  clear hlet_r3
  obtain ⟨r4, hlet_r4⟩ : ∃ r, r = g.all (givU c.1.length least) := ⟨_, rfl⟩
  have H4 := Lib.hid hlet_r4
  clear hlet_r4
  have HR := Lib.hid (show r = (r1 && (r2 && (r3 && r4))) by rw [hr, givenB, H1.out, H2.out, H3.out, H4.out])
  clear hr hw ha
  go_enter Try.func43, Try.ntmps43
  go_wp2_with fail
  refine (isFamI_b _ _ _ f (h.below bwT) r1 H1.out).mono ?_
  rintro e2 w2 ⟨rfl, hbw2⟩
  have hpw2 : Below w.heap.size w w2 := Below.after bwT hbw2 szT
  have sw2 := hpw2.size
  have hBw2 : Below w.heap.size w w2 := hpw2
  have l_f : w.heap.size < w2.heap.size := by have := hbw2.size; simp at this; omega
  have q_f0 : w2.cell? ⟨w.heap.size, 0, none⟩ = some (.slice ao f.1.length cap) := oldc hbw2 ltT (by simp [go_sem])
  have q_f1 : w2.cell? ⟨w.heap.size, 1, none⟩ = some (v2) := oldc hbw2 ltT (by simp [go_sem])
  have l_c : w.heap.size + 1 < w2.heap.size := by have := hbw2.size; simp at this; omega
  have q_c0 : w2.cell? ⟨w.heap.size + 1, 0, none⟩ = some (.slice bo c.1.length dap) := oldc hbw2 ltT (by simp [go_sem])
  have q_c1 : w2.cell? ⟨w.heap.size + 1, 1, none⟩ = some (u2) := oldc hbw2 ltT (by simp [go_sem])
  clear hbw2 hpw2
  cases r1
  · go_wp2
    go_ret
    exact ⟨ret_bool (by rw [HR.out]; rfl), bwT⟩
  go_wp2_with fail
  refine (isClsI_b _ _ _ c (hc.below bwT) r2 H2.out).mono ?_
  rintro e3 w3 ⟨rfl, hbw3⟩
  have hpw3 : Below w2.heap.size w2 w3 := Below.after bwT hbw3 szT
  have sw3 := hpw3.size
  have hBw3 : Below w.heap.size w w3 := Below.trans hBw2 (Below.mono hpw3 hBw2.size)
  have q_f0 := oldc hpw3 l_f q_f0
  have q_f1 := oldc hpw3 l_f q_f1
  have q_c0 := oldc hpw3 l_c q_c0
  have q_c1 := oldc hpw3 l_c q_c1
  have l_c := Nat.lt_of_lt_of_le l_c sw3
  have l_f := Nat.lt_of_lt_of_le l_f sw3
  clear hbw3 hpw3
  cases r2
  · go_wp2
    go_ret
    exact ⟨ret_bool (by rw [HR.out]; rfl), bwT⟩
  obtain ⟨h40, -⟩ := famB_facts H1.out.symm
  by_cases hl : g.length = f.1.length
  rotate_left
  · have hbne : (((g.length : Int)) != (f.1.length : Int)) = true := by simp; omega
    obtain rfl : r3 = false := by rw [H3.out]; simp [hl]
    clear hl H4
    go_wp2
    go_ret
    exact ⟨ret_bool (by rw [HR.out]; rfl), bwT⟩
  have hbne : (((g.length : Int)) != (f.1.length : Int)) = false := by simp [hl]
  obtain rfl : r3 = true := by rw [H3.out]; simp [hl]
  have hl1 : ¬ g.length < f.1.length := by omega
  have hl2 : ¬ f.1.length < g.length := by omega
  have HL := Lib.hid hl
  clear hl H3 H1 H2
  obtain ⟨W0, hW0⟩ : ∃ W : World, W = w3 := ⟨_, rfl⟩
  subst hW0
  have hB0 : Below w.heap.size w W0 := hBw3
  go_wp2
  go_loopw [10, 29] (fun _ s29 wr => ∃ k : Nat, k ≤ g.length ∧ s29 = .int .i64 k ∧ Hid (r4 = (g.drop k).all (givU c.1.length least)) ∧ Below W0.heap.size W0 wr) (fun _ s29 _ => g.length - (intOf s29).toNat)
  case atStart => exact ⟨0, Nat.zero_le _, rfl, H4, Below.refl _ _⟩
  case round =>
    rename_i wr
    clear H4
    obtain ⟨k, hk, rfl, hd, hb2⟩ := hrel
    have hbw : Below w.heap.size w wr := Below.trans hB0 (hb2.mono hB0.size)
    have s2 := hb2.size
    have s3 := hbw.size
    have q_c0 := oldc hb2 l_c q_c0
    by_cases hlt : k < g.length
    · have hI : (k : Int) < (g.length : Int) := by omega
      obtain ⟨b, off, x, rfl, hx, hcx, hx1, hx2, _⟩ := (h'.below hbw).int_at hlt
      have HS := Lib.hid (show (g.drop k).all (givU c.1.length least) = (givU c.1.length least x && (g.drop (k + 1)).all (givU c.1.length least)) by rw [drop_cons hx.out, List.all_cons])
      clear hx h h' hc
      by_cases e1 : x < least
      · have HX := Lib.hid (show false = r by rw [HR.out, hd.out, HS.out, givU, show decide (least ≤ x ∧ x < (c.1.length : Int)) = false by simp; omega]; rfl)
        clear hd HS
        go_wp2
        go_ret
        exact ⟨ret_bool HX.out, bwT⟩
      by_cases e2 : (c.1.length : Int) ≤ x
      · have HX := Lib.hid (show false = r by rw [HR.out, hd.out, HS.out, givU, show decide (least ≤ x ∧ x < (c.1.length : Int)) = false by simp; omega]; rfl)
        clear hd HS
        go_wp2
        go_ret
        exact ⟨ret_bool HX.out, bwT⟩
      have HN := Lib.hid (show r4 = (g.drop (k + 1)).all (givU c.1.length least) by rw [hd.out, HS.out, givU, show decide (least ≤ x ∧ x < (c.1.length : Int)) = true by simp; omega]; rfl)
      clear hd HS
      go_wp2
      go_roundw
      case rel => exact ⟨k + 1, by omega, by go_num, HN, hb2⟩
      case measure => simp [intOf]; omega
    · have HX := Lib.hid (show true = r by rw [HR.out, hd.out, List.drop_eq_nil_of_le (by omega)]; rfl)
      have hI : ¬ (k : Int) < (g.length : Int) := by omega
      clear hd
      go_wp2
      go_ret
      exact ⟨ret_bool HX.out, hbw⟩

end

/-! ### GivS -/
section

set_option maxRecDepth 20000 in
set_option maxHeartbeats 4000000 in
theorem givenS_b {z z1 z' : Bool} {lo hi lo1 hi1 lo' hi' : Nat} (w : World) (v v2 u1 u2 v3 : Value) (f : Fam) (c : Cls) (g : List Int) (h : Rd z lo hi w [v, v2] f) (hc : Rd z1 lo1 hi1 w [u1, u2] c) (h' : Rd z' lo' hi' w [v3] g) (hlc : c.1.length ≤ 1048576) (least : Int) (hle0 : -1 ≤ least) (hle1 : least ≤ 0) (r : Bool) (hr : r = givenB f c g least) :
    Calls Try.prog 46 #[.agg #[v, v2], .agg #[u1, u2], v3, .int .i64 least] w (PostB w r) := by
  obtain ⟨ha, -⟩ := h.fam
  obtain ⟨hw, -⟩ := hc.two rfl
  obtain ⟨ao, n, cap, rfl, hn, hnc, hcm, hnone⟩ := ha.shape
  obtain ⟨bo, n2, dap, rfl, hn2, hnc', hcm', hnone'⟩ := hw.shape
  obtain ⟨go, n3, gap, rfl, hn3, hnc3, hcm3, hnone3⟩ := h'.shape
  subst hn hn2 hn3
  unfold maxLen at *
  obtain ⟨r1, hlet_r1⟩ : ∃ r, r = famB f := ⟨_, rfl⟩
  have H1 := Lib.hid hlet_r1
  clear hlet_r1
  obtain ⟨r2, hlet_r2⟩ : ∃ r, r = isCls c := ⟨_, rfl⟩
  have H2 := Lib.hid hlet_r2
  clear hlet_r2
  obtain ⟨r3, hlet_r3⟩ : ∃ r, r = decide (g.length = f.1.length) := ⟨_, rfl⟩
  have H3 := Lib.hid hlet_r3
  clear hlet_r3
  obtain ⟨r4, hlet_r4⟩ : ∃ r, r = g.all (givU c.1.length least) := ⟨_, rfl⟩
  have H4 := Lib.hid hlet_r4
  clear hlet_r4
  have HR := Lib.hid (show r = (r1 && (r2 && (r3 && r4))) by rw [hr, givenB, H1.out, H2.out, H3.out, H4.out])
  clear hr hw ha
  go_enter Try.func46, Try.ntmps46
  go_wp2_with fail
  refine (isFamS_b _ _ _ f (h.below bwT) r1 H1.out).mono ?_
  rintro e4 w4 ⟨rfl, hbw4⟩
  have hpw4 : Below w.heap.size w w4 := Below.after bwT hbw4 szT
  have sw4 := hpw4.size
  have hBw4 : Below w.heap.size w w4 := hpw4
  have l_f : w.heap.size < w4.heap.size := by have := hbw4.size; simp at this; omega
  have q_f0 : w4.cell? ⟨w.heap.size, 0, none⟩ = some (.slice ao f.1.length cap) := oldc hbw4 ltT (by simp [go_sem])
  have q_f1 : w4.cell? ⟨w.heap.size, 1, none⟩ = some (v2) := oldc hbw4 ltT (by simp [go_sem])
  have l_c : w.heap.size + 1 < w4.heap.size := by have := hbw4.size; simp at this; omega
  have q_c0 : w4.cell? ⟨w.heap.size + 1, 0, none⟩ = some (.slice bo c.1.length dap) := oldc hbw4 ltT (by simp [go_sem])
  have q_c1 : w4.cell? ⟨w.heap.size + 1, 1, none⟩ = some (u2) := oldc hbw4 ltT (by simp [go_sem])
  clear hbw4 hpw4
  cases r1
  · go_wp2
    go_ret
    exact ⟨ret_bool (by rw [HR.out]; rfl), bwT⟩
  go_wp2_with fail
  refine (isClsS_b _ _ _ c (hc.below bwT) hlc r2 H2.out).mono ?_
  rintro e5 w5 ⟨rfl, hbw5⟩
  have hpw5 : Below w4.heap.size w4 w5 := Below.after bwT hbw5 szT
  have sw5 := hpw5.size
  have hBw5 : Below w.heap.size w w5 := Below.trans hBw4 (Below.mono hpw5 hBw4.size)
  have q_f0 := oldc hpw5 l_f q_f0
  have q_f1 := oldc hpw5 l_f q_f1
  have q_c0 := oldc hpw5 l_c q_c0
  have q_c1 := oldc hpw5 l_c q_c1
  have l_c := Nat.lt_of_lt_of_le l_c sw5
  have l_f := Nat.lt_of_lt_of_le l_f sw5
  clear hbw5 hpw5
  cases r2
  · go_wp2
    go_ret
    exact ⟨ret_bool (by rw [HR.out]; rfl), bwT⟩
  obtain ⟨h40, -⟩ := famB_facts H1.out.symm
  by_cases hl : g.length = f.1.length
  rotate_left
  · have hbne : (((g.length : Int)) != (f.1.length : Int)) = true := by simp; omega
    obtain rfl : r3 = false := by rw [H3.out]; simp [hl]
    clear hl H4
    go_wp2
    go_ret
    exact ⟨ret_bool (by rw [HR.out]; rfl), bwT⟩
  have hbne : (((g.length : Int)) != (f.1.length : Int)) = false := by simp [hl]
  obtain rfl : r3 = true := by rw [H3.out]; simp [hl]
  have hl1 : ¬ g.length < f.1.length := by omega
  have hl2 : ¬ f.1.length < g.length := by omega
  have HL := Lib.hid hl
  clear hl H3 H1 H2
  obtain ⟨W0, hW0⟩ : ∃ W : World, W = w5 := ⟨_, rfl⟩
  subst hW0
  have hB0 : Below w.heap.size w W0 := hBw5
  go_wp2
  go_loopw [10, 29] (fun _ s29 wr => ∃ k : Nat, k ≤ g.length ∧ s29 = .int .i64 k ∧ Hid (r4 = (g.drop k).all (givU c.1.length least)) ∧ Below W0.heap.size W0 wr) (fun _ s29 _ => g.length - (intOf s29).toNat)
  case atStart => exact ⟨0, Nat.zero_le _, rfl, H4, Below.refl _ _⟩
  case round =>
    rename_i wr
    clear H4
    obtain ⟨k, hk, rfl, hd, hb2⟩ := hrel
    have hbw : Below w.heap.size w wr := Below.trans hB0 (hb2.mono hB0.size)
    have s2 := hb2.size
    have s3 := hbw.size
    have q_c0 := oldc hb2 l_c q_c0
    by_cases hlt : k < g.length
    · have hI : (k : Int) < (g.length : Int) := by omega
      obtain ⟨b, off, x, rfl, hx, hcx, hx1, hx2, _⟩ := (h'.below hbw).int_at hlt
      have HS := Lib.hid (show (g.drop k).all (givU c.1.length least) = (givU c.1.length least x && (g.drop (k + 1)).all (givU c.1.length least)) by rw [drop_cons hx.out, List.all_cons])
      clear hx h h' hc
      obtain ⟨t, hlet_t⟩ : ∃ r, r = decide (least ≤ x ∧ x ≤ (c.1.length : Int) - 1) := ⟨_, rfl⟩
      have HT := Lib.hid hlet_t
      clear hlet_t
      have HU := Lib.hid (show givU c.1.length least x = t by rw [HT.out, givU, decide_eq_decide]; omega)
      go_wp2_with fail
      refine (l1In_b x least ((c.1.length : Int) - 1) _ t HT.out).mono ?_
      rintro e w9 ⟨rfl, hb9⟩
      have hb3 : Below W0.heap.size W0 w9 := Below.after hb2 hb9 s2
      have hbw9 : Below w.heap.size w w9 := Below.trans hB0 (hb3.mono hB0.size)
      clear hb9
      cases t
      · have HX := Lib.hid (show false = r by rw [HR.out, hd.out, HS.out, HU.out]; rfl)
        clear hd HS
        go_wp2
        go_ret
        exact ⟨ret_bool HX.out, hbw9⟩
      have HN := Lib.hid (show r4 = (g.drop (k + 1)).all (givU c.1.length least) by rw [hd.out, HS.out, HU.out]; rfl)
      clear hd HS
      go_wp2
      go_roundw
      case rel => exact ⟨k + 1, by omega, by go_num, HN, hb3⟩
      case measure => simp [intOf]; omega
    · have HX := Lib.hid (show true = r by rw [HR.out, hd.out, List.drop_eq_nil_of_le (by omega)]; rfl)
      have hI : ¬ (k : Int) < (g.length : Int) := by omega
      clear hd
      go_wp2
      go_ret
      exact ⟨ret_bool HX.out, hbw⟩

end

/-! ### StepS -/
section

/-- The class to which a step leads. -/
def stepX (c : Cls) (kind sex x : Int) : Int :=
  if kind = 1 then getI (inv c.2) x else if kind = 2 then getI c.1 (getI (inv c.2) x)
  else if kind = 5 ∨ kind = 6 then (if sex = 1 then getI c.2 x else getI c.2 (getI (inv c.1) x))
  else if kind = 7 then getI (inv c.1) x else if kind = 8 then getI c.1 x else x

set_option maxRecDepth 20000 in
set_option maxHeartbeats 4000000 in
theorem l6Step_any {z : Bool} {lo hi : Nat} (w : World) (u1 u2 : Value) (c : Cls) (hc : Rd z lo hi w [u1, u2] c) (hcls : isCls c = true) (kind sex : Int) (m : Nat) (hm : m < c.1.length) :
    Calls Try.prog 48 #[.agg #[u1, u2], .int .i64 kind, .int .i64 sex, .int .i64 m] w (PostI w (stepX c kind sex m)) := by
  obtain ⟨c0, c8, c12, hpw, hpc⟩ := isCls_facts hcls
  have HPW := Lib.hid (isPerm_range hpw)
  have HPC := Lib.hid (isPerm_range hpc)
  have e1 : invP c.1 = inv c.1 := if_pos hpw
  have e2 : invP c.2 = inv c.2 := if_pos hpc
  have HC := Lib.hid c12
  have hc2 : 0 < c.2.length := by omega
  have hc28 : c.2.length ≤ 8 := by omega
  obtain ⟨fx, hfx⟩ := Int.eq_ofNat_of_zero_le (getI_in (inv_range (xs := c.2)) (i := m) (by rw [inv_len]; omega)).1
  have fx1 : fx < c.1.length := by have := (getI_in (inv_range (xs := c.2)) (i := m) (by rw [inv_len]; omega)).2; omega
  obtain ⟨hx, hhx⟩ := Int.eq_ofNat_of_zero_le (getI_in (inv_range (xs := c.1)) (i := m) (by rw [inv_len]; omega)).1
  have hx1 : hx < c.2.length := by have := (getI_in (inv_range (xs := c.1)) (i := m) (by rw [inv_len]; omega)).2; omega
  have hm2 : m < c.2.length := by omega
  have HF := Lib.hid hfx
  have HH := Lib.hid hhx
  have E1 := Lib.hid e1
  have E2 := Lib.hid e2
  clear hpw hpc hcls c12 hfx hhx e1 e2
  obtain ⟨hw, hq⟩ := hc.two rfl
  clear hc
  obtain ⟨bo, n3, dap, rfl, hn3, hnc3, hcm3, hnone3⟩ := hw.shape
  obtain ⟨bo2, n4, dap2, rfl, hn4, hnc4, hcm4, hnone4⟩ := hq.shape
  subst hn3 hn4
  unfold maxLen at *
  obtain ⟨wb, woff, rfl, -, -, wbl⟩ := hw.pos (by omega)
  obtain ⟨qb, qoff, rfl, -, -, qbl⟩ := hq.pos hc2
  clear hnone3 hnone4
  obtain ⟨R, hR⟩ : ∃ R, R = stepX c kind sex m := ⟨_, rfl⟩
  rw [← hR]
  have HR := Lib.hid hR
  clear hR
  go_enter Try.func48, Try.ntmps48
  go_wp2_with fail
  refine (inversePermS_any (z := z) (lo := lo) (hi := hi) _ _ c.2 (hq.below bwT) (by omega)).mono ?_
  rintro e6 w6 ⟨fv, rfl, hof, hbw6⟩
  have hpw6 : Below w.heap.size w w6 := Below.after bwT hbw6 szT
  have sw6 := hpw6.size
  have hBw6 : Below w.heap.size w w6 := hpw6
  have l_c : w.heap.size < w6.heap.size := by have := hbw6.size; simp at this; omega
  have q_c0 : w6.cell? ⟨w.heap.size, 0, none⟩ = some (.slice (some ⟨wb, woff, none⟩) c.1.length dap) := oldc hbw6 ltT (by simp [go_sem])
  have q_c1 : w6.cell? ⟨w.heap.size, 1, none⟩ = some (.slice (some ⟨qb, qoff, none⟩) c.2.length dap2) := oldc hbw6 ltT (by simp [go_sem])
  clear hbw6 hpw6
  rw [E2.out] at hof
  obtain ⟨fo, n6, fap, rfl, hn6, hnc6, hcm6, -⟩ := hof.rd.shape
  rw [inv_len] at hn6
  subst hn6
  obtain ⟨fb, foff, rfl, -, -, -⟩ := hof.rd.pos (by omega)
  have cf := hof.rd.num (i := m) hm2
  rw [HF.out] at cf
  have fI : (m : Int) < (c.2.length : Int) := by omega
  have fI1 : (m : Int) < (c.1.length : Int) := by omega
  go_wp2_with fail
  refine (inversePermS_any (z := z) (lo := lo) (hi := hi) _ _ c.1 (hw.below bwT) (by omega)).mono ?_
  rintro e7 w7 ⟨hv, rfl, hoh, hbw7⟩
  have hpw7 : Below w6.heap.size w6 w7 := Below.after bwT hbw7 szT
  have sw7 := hpw7.size
  have hBw7 : Below w.heap.size w w7 := Below.trans hBw6 (Below.mono hpw7 hBw6.size)
  have q_c0 := oldc hpw7 l_c q_c0
  have q_c1 := oldc hpw7 l_c q_c1
  have l_c := Nat.lt_of_lt_of_le l_c sw7
  have hof := Ow.below hof hpw7
  clear hbw7 hpw7
  rw [E1.out] at hoh
  obtain ⟨ho, n7, hap, rfl, hn7, hnc7, hcm7, -⟩ := hoh.rd.shape
  rw [inv_len] at hn7
  subst hn7
  obtain ⟨hb, hoff, rfl, -, -, -⟩ := hoh.rd.pos (by omega)
  have ch := hoh.rd.num (i := m) hm
  rw [HH.out] at ch
  have cwf := (hw.below hBw7).num (i := fx) fx1
  have cqm := (hq.below hBw7).num (i := m) hm2
  have cqh := (hq.below hBw7).num (i := hx) hx1
  have cwm := (hw.below hBw7).num (i := m) hm
  have fxI : (fx : Int) < (c.1.length : Int) := by omega
  have hxI : (hx : Int) < (c.2.length : Int) := by omega
  clear hoh hof hw hq cf
  by_cases k1 : kind = 1
  · subst k1
    have HX := Lib.hid (show (fx : Int) = R by rw [HR.out, stepX, if_pos rfl, HF.out])
    clear HR
    go_wp2
    go_ret
    exact ⟨ret_int HX.out, bwT⟩
  have k1' : (kind == 1) = false := by simpa using k1
  by_cases k2 : kind = 2
  · subst k2
    have HX := Lib.hid (show getI c.1 (fx : Int) = R by rw [HR.out, stepX, if_neg (by decide), if_pos rfl, HF.out])
    clear HR
    go_wp2
    go_ret
    exact ⟨ret_int HX.out, bwT⟩
  have k2' : (kind == 2) = false := by simpa using k2
  by_cases k5 : kind = 5 ∨ kind = 6
  · by_cases s1 : sex = 1
    · have HX := Lib.hid (show getI c.2 (m : Int) = R by rw [HR.out, stepX, if_neg k1, if_neg k2, if_pos k5, if_pos s1])
      subst s1
      clear HR
      rcases k5 with rfl | rfl
      all_goals
        go_wp2
        go_ret
        exact ⟨ret_int HX.out, bwT⟩
    · have HX := Lib.hid (show getI c.2 (hx : Int) = R by rw [HR.out, stepX, if_neg k1, if_neg k2, if_pos k5, if_neg s1, HH.out])
      have s1' : (sex == 1) = false := by simpa using s1
      clear HR
      rcases k5 with rfl | rfl
      all_goals
        go_wp2
        go_ret
        exact ⟨ret_int HX.out, bwT⟩
  have k5a : ¬ kind = 5 := fun h => k5 (.inl h)
  have k6a : ¬ kind = 6 := fun h => k5 (.inr h)
  have k5' : (kind == 5) = false := by simpa using k5a
  have k6' : (kind == 6) = false := by simpa using k6a
  by_cases k7 : kind = 7
  · subst k7
    have HX := Lib.hid (show (hx : Int) = R by rw [HR.out, stepX, if_neg k1, if_neg k2, if_neg k5, if_pos rfl, HH.out])
    clear HR
    go_wp2
    go_ret
    exact ⟨ret_int HX.out, bwT⟩
  have k7' : (kind == 7) = false := by simpa using k7
  by_cases k8 : kind = 8
  · subst k8
    have HX := Lib.hid (show getI c.1 (m : Int) = R by rw [HR.out, stepX, if_neg k1, if_neg k2, if_neg k5, if_neg k7, if_pos rfl])
    clear HR
    go_wp2
    go_ret
    exact ⟨ret_int HX.out, bwT⟩
  have k8' : (kind == 8) = false := by simpa using k8
  have HX := Lib.hid (show (m : Int) = R by rw [HR.out, stepX, if_neg k1, if_neg k2, if_neg k5, if_neg k7, if_neg k8])
  clear HR k1 k2 k5 k5a k6a k7 k8
  go_wp2
  go_ret
  exact ⟨ret_int HX.out, bwT⟩
set_option maxRecDepth 20000 in
set_option maxHeartbeats 4000000 in
theorem l3Listed_any {z : Bool} {lo hi : Nat} (w : World) (v : Value) (M : List Bool) (h : Rd z lo hi w [v] M) (hl : M.length ≤ 1048576) :
    Calls Try.prog 49 #[v] w (PostOw w (listedTo M M.length)) := by
  obtain ⟨ao, n, cap, rfl, hn, hnc, hcm, hnone⟩ := h.shape
  subst hn
  unfold maxLen at *
  go_enter Try.func49, Try.ntmps49
  go_wp2
  go_loopw [3, 4, 5, 9] (fun s3 _ _ s9 wi => ∃ k : Nat, k ≤ M.length ∧ s9 = .int .i64 k ∧ Hid (GL true w.heap.size w.heap.size wi.heap.size wi 3 s3 (listedTo M k)) ∧ Below w.heap.size w wi) (fun _ _ _ s9 _ => M.length - (intOf s9).toNat)
  case atStart => exact ⟨0, Nat.zero_le _, rfl, Lib.hid ((GL.lit0 _ _ _ _ _ (Nat.le_refl _)).top), bwT⟩
  case round =>
    obtain ⟨wi, hwi⟩ : ∃ wm : World, wm = wr := ⟨_, rfl⟩
    subst hwi
    obtain ⟨k, hk, rfl, hG, hbi⟩ := hrel
    have sI := hbi.size
    by_cases hlt : k < M.length
    · have hI : (k : Int) < (M.length : Int) := by omega
      obtain ⟨b, off, t, rfl, ht, hct, -, -, -, -⟩ := (h.below hbi).bool_at (i := k) hlt
      have hG := hG.out
      have hll := listedTo_len M k
      cases t
      · have HN := Lib.hid (show GL true w.heap.size w.heap.size wi.heap.size wi 3 _ (listedTo M (k + 1)) by rw [listedTo_out ht.out]; exact hG)
        clear ht hG
        go_wp2
        go_roundw
        case rel => exact ⟨k + 1, by omega, by go_num, HN, hbi⟩
        case measure => simp [intOf]; omega
      · have HX := Lib.hid (listedTo_in ht.out)
        clear ht
        go_wp2_with (at_builtin; refine wpList_push rfl rfl slInt (by show (0 : Nat) < 1; omega) (hG.alloc _) rfl (ad := ⟨wi.heap.size, 0, none⟩) rfl (cs := [.int .i64 k]) (y := (k : Int)) (lx := wi.heap.size) (hx' := wi.heap.size) ?c1 (It.flat (z := true) (w0 := wi) (fp := []) ⟨rfl, ⟨by omega, by omega⟩, rfl⟩) (by omega) (.inl szT) (by unfold maxLen; omega) (by omega) ?c2 ?_)
        case c1 =>
          intro j c hj
          match j, hj with
          | 0, hj => simp at hj; subst hj; simp [Addr.add]
        case c2 => first | omega | (simp; omega)
        intro v1 w3 hG3 _ hb3
        have HN := Lib.hid (show GL true w.heap.size w.heap.size w3.heap.size w3 3 v1 (listedTo M (k + 1)) by rw [HX.out]; exact hG3)
        have hbi3 : Below w.heap.size w w3 := Below.trans bwT hb3
        clear hG hG3 hb3
        go_wp2
        go_roundw
        case rel => exact ⟨k + 1, by omega, by go_num, HN, hbi3⟩
        case measure => simp [intOf]; omega
    · obtain rfl : k = M.length := by omega
      have nI3 : ¬ (M.length : Int) < (M.length : Int) := by omega
      have HO := Lib.hid (show Ow w.heap.size wi.heap.size wi [_] (listedTo M M.length) from GL.ow (l0 := w.heap.size) hG.out (Nat.le_refl _) (Nat.le_refl _))
      clear hG
      go_wp2
      go_ret
      exact ⟨_, rfl, HO.out, hbi⟩

end

/-! ### Err2 -/
section



end

end Go.Proofs.Ytefbbbhidnnchaa
