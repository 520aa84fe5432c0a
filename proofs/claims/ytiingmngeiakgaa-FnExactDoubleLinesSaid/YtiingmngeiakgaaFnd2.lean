/- Contracts of l7Founder, has, l1Has, FounderOf. -/
import Derived.Test.YtiingmngeiakgaaFnd
import Derived.Test.YtiingmngeiakgaaFamI
namespace Go.Proofs.Ytiingmngeiakgaa
set_option linter.unusedVariables false
set_option linter.unusedSimpArgs false
open Go.RowKit

def inB (f : Fam) (p : Int) : Bool := decide (0 ≤ p ∧ p < f.1.length)
def hasB (f : Fam) (xs : List Int) : Bool := famB f && xs.all (inB f)
def foV (f : Fam) (p sex : Int) : Bool := famB f && inB f p && sexB sex
def foX (f : Fam) (p sex : Int) : Int := if foV f p sex = true then (fo f.1 sex p.toNat : Nat) else 0
def PostIB (w : World) (x : Int) (b : Bool) (e : Ending) (w' : World) : Prop := e = .returned (.tuple #[.int .i64 x, .bool b]) ∧ Below w.heap.size w w'

theorem Rd.lit1 (w : World) (E : TypeId) (p : Int) (hp : I64 p) : Rd true w.heap.size (w.heap.size + 1) (w.alloc (.cells #[.int .i64 p] E)) [.slice (some ⟨w.heap.size, 0, none⟩) 1 1] ([p] : List Int) := by
  refine ⟨[w.heap.size], ⟨_, rfl, some ⟨w.heap.size, 0, none⟩, 1, 1, rfl, rfl, Nat.le_refl _, by simp [maxLen], (fun h => by cases h), .inr ⟨w.heap.size, 0, [[.int .i64 p]], [[]], rfl, by simp, rfl, ⟨⟨rfl, hp, rfl⟩, trivial⟩, ?_, ?_⟩⟩, ?_⟩
  · intro j c hj
    match j, hj with
    | 0, hj => simp at hj; subst hj; simp [go_sem]
  · intro _ o; simp [go_sem]
  · intro b hb; simp at hb; omega

section
variable {z z' : Bool} {lo hi lo' hi' : Nat} (w : World) (v v2 v3 : Value) (f : Fam)
set_option maxHeartbeats 1000000 in
theorem l7Founder_any (sex : Int) (ps : List Per) (h : Rd z lo hi w [v] ps) (hP : PplTo ps ps.length) (p : Nat) (hp : p < ps.length) (hs : sexB sex = true) :
    Calls Try.prog 30 #[.agg #[v, v2], .int .i64 p, .int .i64 sex] w (PostI w (fo ps sex p : Nat)) := by
  have HP := Lib.hid hP
  clear hP
  have hs' : sex = 1 ∨ sex = 2 := by simpa [sexB] using hs
  obtain ⟨ao, n, cap, rfl, rfl, hnc, hcm, hnone⟩ := h.shape
  unfold maxLen at *
  obtain ⟨R, hR⟩ : ∃ R : Nat, R = fo ps sex p := ⟨_, rfl⟩
  rw [← hR]
  have HR := Lib.hid hR
  clear hR hs
  go_enter Try.func30, Try.ntmps30
  go_wp2
  go_loopw [1, 7] (fun s1 _ wr => ∃ q : Nat, q < ps.length ∧ s1 = .int .i64 q ∧ Hid (R = fo ps sex q) ∧ Below (w.heap.size + 1) (w.alloc (.cells #[.slice ao ps.length cap, v2] 32)) wr) (fun s1 _ _ => (intOf s1).toNat)
  case atStart => exact ⟨p, hp, rfl, HR, Below.refl _ _⟩
  case round =>
    clear HR
    obtain ⟨q, hq, rfl, hr, hb⟩ := hrel
    have sW := hb.size
    simp only [World.size_alloc] at sW
    have hbw : Below w.heap.size w wr := Below.trans ((Below.refl _ _).alloc (Nat.le_refl _) _) (hb.mono (by omega))
    have q_f0 : wr.cell? ⟨w.heap.size, 0, none⟩ = some (.slice ao ps.length cap) := oldc hb (by omega) (by simp [go_sem])
    obtain ⟨b, off, nm, sx, fa, mo, bo, di, rfl, hx, p0, p1, p2, p3, p4, p5, -, -, -, -, -, -, -, -, hbl, -⟩ := (h.below hbw).per_at hq
    have hI : (q : Int) < (ps.length : Int) := by omega
    have hu := upQ_lt HP.out hq hx.out sex
    have HX := Lib.hid hx.out
    clear hx h
    rcases hs' with rfl | rfl
    · have e : upQ 1 (nm, sx, fa, mo, bo, di) = fa := rfl
      rw [e] at hu
      rcases hu with rfl | ⟨hu0, hu1⟩
      · have HF := Lib.hid (show R = q by rw [hr.out]; exact fo_top HX.out (by show (-1 : Int) < 0; decide))
        clear hr
        go_wp2
        go_ret
        exact ⟨ret_int (by rw [HF.out]), hbw⟩
      · obtain ⟨u, rfl⟩ := Int.eq_ofNat_of_zero_le hu0
        have HN := Lib.hid (show R = fo ps 1 u by rw [hr.out]; exact fo_up HP.out hq HX.out rfl)
        have hU0 : ¬ ((u : Nat) : Int) < 0 := by omega
        clear hr HX
        go_wp2
        go_roundw
        case rel => exact ⟨u, by omega, rfl, HN, hb⟩
        case measure => simp [intOf]; omega
    · have e : upQ 2 (nm, sx, fa, mo, bo, di) = mo := rfl
      rw [e] at hu
      rcases hu with rfl | ⟨hu0, hu1⟩
      · have HF := Lib.hid (show R = q by rw [hr.out]; exact fo_top HX.out (by show (-1 : Int) < 0; decide))
        clear hr
        go_wp2
        go_ret
        exact ⟨ret_int (by rw [HF.out]), hbw⟩
      · obtain ⟨u, rfl⟩ := Int.eq_ofNat_of_zero_le hu0
        have HN := Lib.hid (show R = fo ps 2 u by rw [hr.out]; exact fo_up HP.out hq HX.out rfl)
        have hU0 : ¬ ((u : Nat) : Int) < 0 := by omega
        clear hr HX
        go_wp2
        go_roundw
        case rel => exact ⟨u, by omega, rfl, HN, hb⟩
        case measure => simp [intOf]; omega

set_option maxHeartbeats 1000000 in
theorem has_b (h : Rd z lo hi w [v, v2] f) (xs : List Int) (h' : Rd z' lo' hi' w [v3] xs) (r : Bool) (hr : r = hasB f xs) :
    Calls Try.prog 45 #[.agg #[v, v2], v3] w (PostB w r) := by
  obtain ⟨ha, -⟩ := h.fam
  obtain ⟨ao, n, cap, rfl, hn, hnc, hcm, hnone⟩ := ha.shape
  obtain ⟨go, n3, gap, rfl, rfl, hnc3, hcm3, hnone3⟩ := h'.shape
  subst hn
  unfold maxLen at *
  obtain ⟨r1, hlet_r1⟩ : ∃ r, r = famB f := ⟨_, rfl⟩
  have H1 := Lib.hid hlet_r1
  clear hlet_r1
  obtain ⟨r2, hlet_r2⟩ : ∃ r, r = xs.all (inB f) := ⟨_, rfl⟩
  have H2 := Lib.hid hlet_r2
  clear hlet_r2
  have HR := Lib.hid (show r = (r1 && r2) by rw [hr, hasB, H1.out, H2.out])
  clear hr ha
  go_enter Try.func45, Try.ntmps45
  go_wp2_with fail
  refine (isFamI_b _ _ _ f (h.below bwT) r1 H1.out).mono ?_
  rintro e1 w1 ⟨rfl, hbw1⟩
  have hpw1 : Below w.heap.size w w1 := Below.after bwT hbw1 szT
  have sw1 := hpw1.size
  have hBw1 : Below w.heap.size w w1 := hpw1
  have l_f : w.heap.size < w1.heap.size := by have := hbw1.size; simp at this; omega
  have q_f0 : w1.cell? ⟨w.heap.size, 0, none⟩ = some (.slice ao f.1.length cap) := oldc hbw1 ltT (by simp [go_sem])
  have q_f1 : w1.cell? ⟨w.heap.size, 1, none⟩ = some (v2) := oldc hbw1 ltT (by simp [go_sem])
  clear hbw1 hpw1
  cases r1
  · go_wp2
    go_ret
    exact ⟨ret_bool (by rw [HR.out]; rfl), bwT⟩
  obtain ⟨W0, hW0⟩ : ∃ W : World, W = w1 := ⟨_, rfl⟩
  subst hW0
  have hB0 : Below w.heap.size w W0 := hBw1
  go_wp2
  go_loopw [6, 12] (fun _ s12 wr => ∃ k : Nat, k ≤ xs.length ∧ s12 = .int .i64 k ∧ Hid (r2 = (xs.drop k).all (inB f)) ∧ Below W0.heap.size W0 wr) (fun _ s12 _ => xs.length - (intOf s12).toNat)
  case atStart => exact ⟨0, Nat.zero_le _, rfl, H2, Below.refl _ _⟩
  case round =>
    rename_i wr
    clear H2 H1 h
    obtain ⟨k, hk, rfl, hd, hb2⟩ := hrel
    have hbw : Below w.heap.size w wr := Below.trans hB0 (hb2.mono hB0.size)
    have q_f0 := oldc hb2 l_f q_f0
    by_cases hlt : k < xs.length
    · obtain ⟨b, off, x, rfl, hx, hc, hx1, hx2, _⟩ := (h'.below hbw).int_at hlt
      have hI : (k : Int) < (xs.length : Int) := by omega
      have HS := Lib.hid (show (xs.drop k).all (inB f) = (inB f x && (xs.drop (k + 1)).all (inB f)) by rw [drop_cons hx.out, List.all_cons])
      clear hx h'
      by_cases e : 0 ≤ x ∧ x < f.1.length
      · have e1 : ¬ x < 0 := by omega
        have e2 : ¬ (f.1.length : Int) ≤ x := by omega
        have HN := Lib.hid (show r2 = (xs.drop (k + 1)).all (inB f) by rw [hd.out, HS.out, inB, show decide (0 ≤ x ∧ x < (f.1.length : Int)) = true by simpa using e]; rfl)
        clear hd HS
        go_wp2
        go_roundw
        case rel => exact ⟨k + 1, by omega, by go_num, HN, hb2⟩
        case measure => simp [intOf]; omega
      · have HX := Lib.hid (show false = r by rw [HR.out, hd.out, HS.out, inB, show decide (0 ≤ x ∧ x < (f.1.length : Int)) = false by simpa using e]; rfl)
        clear hd HS
        go_wp2
        all_goals first
          | (exfalso; omega)
          | (go_ret; exact ⟨ret_bool HX.out, hbw⟩)
    · have HX := Lib.hid (show true = r by rw [HR.out, hd.out, List.drop_eq_nil_of_le (by omega)]; rfl)
      have hI : ¬ (k : Int) < (xs.length : Int) := by omega
      clear hd h'
      go_wp2
      go_ret
      exact ⟨ret_bool HX.out, hbw⟩

set_option maxHeartbeats 1000000 in
theorem l1Has_b (h : Rd z lo hi w [v, v2] f) (p : Int) (r : Bool) (hr : r = (famB f && inB f p)) :
    Calls Try.prog 46 #[.agg #[v, v2], .int .i64 p] w (PostB w r) := by
  obtain ⟨ha, -⟩ := h.fam
  obtain ⟨ao, n, cap, rfl, hn, hnc, hcm, hnone⟩ := ha.shape
  subst hn
  unfold maxLen at *
  obtain ⟨r1, hlet_r1⟩ : ∃ r, r = famB f := ⟨_, rfl⟩
  have H1 := Lib.hid hlet_r1
  clear hlet_r1
  have HR := Lib.hid (show r = (r1 && inB f p) by rw [hr, H1.out])
  clear hr ha
  by_cases e : 0 ≤ p ∧ p < f.1.length
  · have HB := Lib.hid (show r1 = r by rw [HR.out, inB, show decide (0 ≤ p ∧ p < (f.1.length : Int)) = true by simpa using e]; simp)
    have e1 : 0 ≤ p := e.1
    have e2 : p < (f.1.length : Int) := e.2
    go_enter Try.func46, Try.ntmps46
    go_wp2_with fail
    refine (isFamS_b _ _ _ f (h.below bwT) r1 H1.out).mono ?_
    rintro e2 w2 ⟨rfl, hbw2⟩
    have hpw2 : Below w.heap.size w w2 := Below.after bwT hbw2 szT
    have sw2 := hpw2.size
    have hBw2 : Below w.heap.size w w2 := hpw2
    have l_f : w.heap.size < w2.heap.size := by have := hbw2.size; simp at this; omega
    have q_f0 : w2.cell? ⟨w.heap.size, 0, none⟩ = some (.slice ao f.1.length cap) := oldc hbw2 ltT (by simp [go_sem])
    have q_f1 : w2.cell? ⟨w.heap.size, 1, none⟩ = some (v2) := oldc hbw2 ltT (by simp [go_sem])
    clear hbw2 hpw2
    go_wp2
    go_ret
    exact ⟨ret_bool HB.out, bwT⟩
  · have HX := Lib.hid (show false = r by rw [HR.out, inB, show decide (0 ≤ p ∧ p < (f.1.length : Int)) = false by simpa using e]; simp)
    clear H1 h
    by_cases e1 : 0 ≤ p
    · have e2 : ¬ p < (f.1.length : Int) := by omega
      go_enter Try.func46, Try.ntmps46
      go_wp2
      go_ret
      exact ⟨ret_bool HX.out, bwT⟩
    · go_enter Try.func46, Try.ntmps46
      go_wp2
      go_ret
      exact ⟨ret_bool HX.out, bwT⟩
end
end Go.Proofs.Ytiingmngeiakgaa
