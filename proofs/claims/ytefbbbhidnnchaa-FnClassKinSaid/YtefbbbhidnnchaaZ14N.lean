/- Texts laid one behind the other (merge.py): Fnd, Fnd2. -/
import Derived.Test.YtefbbbhidnnchaaZ14F
import Derived.Test.YtefbbbhidnnchaaZ14K
namespace Go.Proofs.Ytefbbbhidnnchaa
set_option linter.unusedVariables false
set_option linter.unusedSimpArgs false
open Go.RowKit

/-! ### Fnd -/
section

def upQ (sex : Int) (x : Per) : Int := if sex = 1 then x.2.2.1 else x.2.2.2.1
def fnd (ps : List Per) (sex : Int) : Nat → Nat → Nat
  | 0, p => p
  | k + 1, p => match ps[p]? with | some x => if 0 ≤ upQ sex x then fnd ps sex k (upQ sex x).toNat else p | none => p
def fo (ps : List Per) (sex : Int) (p : Nat) : Nat := fnd ps sex p p
def sexB (sex : Int) : Bool := decide (sex = 1 ∨ sex = 2)

section
variable (w : World) (sex : Int)
end

end

/-! ### Fnd2 -/
section

def inB (f : Fam) (p : Int) : Bool := decide (0 ≤ p ∧ p < f.1.length)
def hasB (f : Fam) (xs : List Int) : Bool := famB f && xs.all (inB f)
def foV (f : Fam) (p sex : Int) : Bool := famB f && inB f p && sexB sex
def foX (f : Fam) (p sex : Int) : Int := if foV f p sex = true then (fo f.1 sex p.toNat : Nat) else 0
def PostIB (w : World) (x : Int) (b : Bool) (e : Ending) (w' : World) : Prop := e = .returned (.tuple #[.int .i64 x, .bool b]) ∧ Below w.heap.size w w'

theorem Rd.lit1 (w : World) (E : TypeId) (p : Int) (hp : I64 p) : Rd true w.heap.size (w.heap.size + 1) (w.alloc (.cells #[.int .i64 p] E)) [.slice (some ⟨w.heap.size, 0, none⟩) 1 1] ([p] : List Int) := by
  refine ⟨[w.heap.size], ⟨_, rfl, some ⟨w.heap.size, 0, none⟩, 1, 1, rfl, rfl, Nat.le_refl _, by simp [maxLen], (fun h => by cases h), .inr ⟨w.heap.size, 0, [[.int .i64 p]], [[]], rfl, by simp, rfl, ⟨⟨rfl, hp, rfl⟩, trivial⟩, ?_, ?_⟩⟩, ?_⟩
  · intro j c hj
    match j, hj with
    | 0, hj => simp at hj; subst hj; simp [go_sem]
  · intro _ o; simp [go_sem]
  · intro b hb; simp at hb; omega

section
variable {z z' : Bool} {lo hi lo' hi' : Nat} (w : World) (v v2 v3 : Value) (f : Fam)
set_option maxHeartbeats 1000000 in
theorem has_b (h : Rd z lo hi w [v, v2] f) (xs : List Int) (h' : Rd z' lo' hi' w [v3] xs) (r : Bool) (hr : r = hasB f xs) :
    Calls Try.prog 32 #[.agg #[v, v2], v3] w (PostB w r) := by
  obtain ⟨ha, -⟩ := h.fam
  obtain ⟨ao, n, cap, rfl, hn, hnc, hcm, hnone⟩ := ha.shape
  obtain ⟨go, n3, gap, rfl, rfl, hnc3, hcm3, hnone3⟩ := h'.shape
  subst hn
  unfold maxLen at *
  obtain ⟨r1, hlet_r1⟩ : ∃ r, r = famB f := ⟨_, rfl⟩
  have H1 := Lib.hid hlet_r1
  clear hlet_r1
  obtain ⟨r2, hlet_r2⟩ : ∃ r, r = xs.all (inB f) := ⟨_, rfl⟩
  have H2 := Lib.hid hlet_r2
  clear hlet_r2
  have HR := Lib.hid (show r = (r1 && r2) by rw [hr, hasB, H1.out, H2.out])
  clear hr ha
  go_enter Try.func32, Try.ntmps32
  go_wp2_with fail
  refine (isFamI_b _ _ _ f (h.below bwT) r1 H1.out).mono ?_
  rintro e1 w1 ⟨rfl, hbw1⟩
  have hpw1 : Below w.heap.size w w1 := Below.after bwT hbw1 szT
  have sw1 := hpw1.size
  have hBw1 : Below w.heap.size w w1 := hpw1
  have l_f : w.heap.size < w1.heap.size := by have := hbw1.size; simp at this; omega
  have q_f0 : w1.cell? ⟨w.heap.size, 0, none⟩ = some (.slice ao f.1.length cap) := oldc hbw1 ltT (by simp [go_sem])
  have q_f1 : w1.cell? ⟨w.heap.size, 1, none⟩ = some (v2) := oldc hbw1 ltT (by simp [go_sem])
  clear hbw1 hpw1
  cases r1
  · go_wp2
    go_ret
    exact ⟨ret_bool (by rw [HR.out]; rfl), bwT⟩
  obtain ⟨W0, hW0⟩ : ∃ W : World, W = w1 := ⟨_, rfl⟩
  subst hW0
  have hB0 : Below w.heap.size w W0 := hBw1
  go_wp2
  go_loopw [6, 12] (fun _ s12 wr => ∃ k : Nat, k ≤ xs.length ∧ s12 = .int .i64 k ∧ Hid (r2 = (xs.drop k).all (inB f)) ∧ Below W0.heap.size W0 wr) (fun _ s12 _ => xs.length - (intOf s12).toNat)
  case atStart => exact ⟨0, Nat.zero_le _, rfl, H2, Below.refl _ _⟩
  case round =>
    rename_i wr
    clear H2 H1 h
    obtain ⟨k, hk, rfl, hd, hb2⟩ := hrel
    have hbw : Below w.heap.size w wr := Below.trans hB0 (hb2.mono hB0.size)
    have q_f0 := oldc hb2 l_f q_f0
    by_cases hlt : k < xs.length
    · obtain ⟨b, off, x, rfl, hx, hc, hx1, hx2, _⟩ := (h'.below hbw).int_at hlt
      have hI : (k : Int) < (xs.length : Int) := by omega
      have HS := Lib.hid (show (xs.drop k).all (inB f) = (inB f x && (xs.drop (k + 1)).all (inB f)) by rw [drop_cons hx.out, List.all_cons])
      clear hx h'
      by_cases e : 0 ≤ x ∧ x < f.1.length
      · have e1 : ¬ x < 0 := by omega
        have e2 : ¬ (f.1.length : Int) ≤ x := by omega
        have HN := Lib.hid (show r2 = (xs.drop (k + 1)).all (inB f) by rw [hd.out, HS.out, inB, show decide (0 ≤ x ∧ x < (f.1.length : Int)) = true by simpa using e]; rfl)
        clear hd HS
        go_wp2
        go_roundw
        case rel => exact ⟨k + 1, by omega, by go_num, HN, hb2⟩
        case measure => simp [intOf]; omega
      · have HX := Lib.hid (show false = r by rw [HR.out, hd.out, HS.out, inB, show decide (0 ≤ x ∧ x < (f.1.length : Int)) = false by simpa using e]; rfl)
        clear hd HS
        go_wp2
        all_goals first
          | (exfalso; omega)
          | (go_ret; exact ⟨ret_bool HX.out, hbw⟩)
    · have HX := Lib.hid (show true = r by rw [HR.out, hd.out, List.drop_eq_nil_of_le (by omega)]; rfl)
      have hI : ¬ (k : Int) < (xs.length : Int) := by omega
      clear hd h'
      go_wp2
      go_ret
      exact ⟨ret_bool HX.out, hbw⟩

end

end

end Go.Proofs.Ytefbbbhidnnchaa
