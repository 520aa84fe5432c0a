/- Plain: the founder of a line. Contracts of isSex, l7Sex, up, founder, l7Founder. -/
import Derived.Test.YtiingmngeiakgaaExoS
namespace Go.Proofs.Ytiingmngeiakgaa
set_option linter.unusedVariables false
set_option linter.unusedSimpArgs false
open Go.RowKit

def upQ (sex : Int) (x : Per) : Int := if sex = 1 then x.2.2.1 else x.2.2.2.1
def fnd (ps : List Per) (sex : Int) : Nat → Nat → Nat
  | 0, p => p
  | k + 1, p => match ps[p]? with | some x => if 0 ≤ upQ sex x then fnd ps sex k (upQ sex x).toNat else p | none => p
def fo (ps : List Per) (sex : Int) (p : Nat) : Nat := fnd ps sex p p
def sexB (sex : Int) : Bool := decide (sex = 1 ∨ sex = 2)

theorem upQ_lt {ps : List Per} {n p : Nat} (hP : PplTo ps n) (hp : p < n) {x : Per} (hx : ps[p]? = some x) (sex : Int) : upQ sex x = -1 ∨ (0 ≤ upQ sex x ∧ upQ sex x < p) := by
  obtain ⟨nm, sx, fa, mo, bo, di⟩ := x
  obtain ⟨-, -, -, hf, hm, -⟩ := hP.at hp hx
  unfold upQ; dsimp only
  split
  · exact hf
  · exact hm
theorem fnd_fuel {ps : List Per} {n : Nat} (hP : PplTo ps n) (sex : Int) : ∀ (p : Nat), p < n → ∀ k, p ≤ k → fnd ps sex k p = fnd ps sex p p := by
  intro p
  induction p using Nat.strongRecOn with
  | _ p ih =>
    intro hp k hk
    cases hx : ps[p]? with
    | none =>
      cases k <;> cases p <;> simp_all [fnd]
    | some x =>
      rcases upQ_lt hP hp hx sex with h | ⟨h0, h1⟩
      · have hn : ¬ 0 ≤ upQ sex x := by omega
        cases k with
        | zero => have : p = 0 := by omega
                  subst this; rfl
        | succ k =>
          cases p with
          | zero => simp only [fnd, hx, hn, if_false]
          | succ p => rw [fnd, fnd, hx]; simp only [hn, if_false]
      · obtain ⟨u, hu⟩ := Int.eq_ofNat_of_zero_le h0
        have hup : u < p := by omega
        obtain ⟨k', rfl⟩ : ∃ k', k = k' + 1 := ⟨k - 1, by omega⟩
        obtain ⟨p', rfl⟩ : ∃ p', p = p' + 1 := ⟨p - 1, by omega⟩
        rw [fnd, fnd, hx]
        simp only [h0, if_true]
        rw [hu, Int.toNat_natCast, ih u hup (by omega) k' (by omega), ih u hup (by omega) p' (by omega)]
theorem fo_up {ps : List Per} {n p : Nat} (hP : PplTo ps n) (hp : p < n) {x : Per} (hx : ps[p]? = some x) {sex : Int} {u : Nat} (hu : upQ sex x = (u : Int)) : fo ps sex p = fo ps sex u := by
  have hlt : u < p := by rcases upQ_lt hP hp hx sex with h | h <;> omega
  obtain ⟨p', rfl⟩ : ∃ p', p = p' + 1 := ⟨p - 1, by omega⟩
  unfold fo
  rw [fnd, hx]
  simp only [hu]
  rw [if_pos (by omega), Int.toNat_natCast, fnd_fuel hP sex u (by omega) p' (by omega)]
theorem fo_top {ps : List Per} {p : Nat} {x : Per} (hx : ps[p]? = some x) {sex : Int} (hu : upQ sex x < 0) : fo ps sex p = p := by
  unfold fo
  cases p with
  | zero => rfl
  | succ p => rw [fnd, hx]; simp only; rw [if_neg (by omega)]
theorem fo_lt {ps : List Per} {n : Nat} (hP : PplTo ps n) (hn : n ≤ ps.length) (sex : Int) : ∀ (p : Nat), p < n → fo ps sex p < n := by
  intro p
  induction p using Nat.strongRecOn with
  | _ p ih =>
    intro hp
    have hx : ps[p]? = some ps[p] := List.getElem?_eq_getElem (by omega)
    rcases upQ_lt hP hp hx sex with h | ⟨h0, h1⟩
    · rw [fo_top hx (by omega)]; exact hp
    · obtain ⟨u, hu⟩ := Int.eq_ofNat_of_zero_le h0
      rw [fo_up hP hp hx hu]; exact ih u (by omega) (by omega)

section
variable (w : World) (sex : Int)
theorem isSex_b (r : Bool) (hr : r = sexB sex) : Calls Try.prog 44 #[.int .i64 sex] w (PostB w r) := by
  have HR := Lib.hid hr
  clear hr
  by_cases h1 : sex = 1
  · obtain rfl : r = true := by rw [HR.out, sexB]; simp [h1]
    subst h1
    go_enter Try.func44, Try.ntmps44
    go_wp2
    go_ret
    exact ⟨rfl, bwT⟩
  have h1' : (sex == 1) = false := by simpa using h1
  by_cases h2 : sex = 2
  · obtain rfl : r = true := by rw [HR.out, sexB]; simp [h2]
    subst h2
    go_enter Try.func44, Try.ntmps44
    go_wp2
    go_ret
    exact ⟨rfl, bwT⟩
  have h2' : (sex == 2) = false := by simpa using h2
  obtain rfl : r = false := by rw [HR.out, sexB]; simp [h1, h2]
  go_enter Try.func44, Try.ntmps44
  go_wp2
  go_ret
  exact ⟨rfl, bwT⟩
theorem l7Sex_b (r : Bool) (hr : r = sexB sex) : Calls Try.prog 48 #[.int .i64 sex] w (PostB w r) := by
  have HR := Lib.hid hr
  clear hr
  by_cases h1 : sex = 1
  · obtain rfl : r = true := by rw [HR.out, sexB]; simp [h1]
    subst h1
    go_enter Try.func48, Try.ntmps48
    go_wp2
    go_ret
    exact ⟨rfl, bwT⟩
  have h1' : (sex == 1) = false := by simpa using h1
  by_cases h2 : sex = 2
  · obtain rfl : r = true := by rw [HR.out, sexB]; simp [h2]
    subst h2
    go_enter Try.func48, Try.ntmps48
    go_wp2
    go_ret
    exact ⟨rfl, bwT⟩
  have h2' : (sex == 2) = false := by simpa using h2
  obtain rfl : r = false := by rw [HR.out, sexB]; simp [h1, h2]
  go_enter Try.func48, Try.ntmps48
  go_wp2
  go_ret
  exact ⟨rfl, bwT⟩

set_option maxHeartbeats 1000000 in
theorem up_any {z : Bool} {lo hi : Nat} (v v2 : Value) (ps : List Per) (h : Rd z lo hi w [v] ps) (p : Nat) {x : Per} (hx : ps[p]? = some x) :
    Calls Try.prog 60 #[.agg #[v, v2], .int .i64 p, .int .i64 sex] w (PostI w (upQ sex x)) := by
  have hp : p < ps.length := (List.getElem?_eq_some_iff.1 hx).1
  obtain ⟨ao, n, cap, rfl, rfl, hnc, hcm, hnone⟩ := h.shape
  unfold maxLen at *
  obtain ⟨b, off, nm, sx, fa, mo, bo, di, rfl, hy, p0, p1, p2, p3, p4, p5, -, -, -, -, -, -, -, -, hbl, -⟩ := h.per_at hp
  obtain rfl : x = (nm, sx, fa, mo, bo, di) := Option.some.inj (hx.symm.trans hy.out)
  have hI : (p : Int) < (ps.length : Int) := by omega
  have gn : ¬ b = w.heap.size := by omega
  have gm : ¬ w.heap.size = b := by omega
  clear h hx hy
  by_cases h1 : sex = 1
  · have e : upQ sex (nm, sx, fa, mo, bo, di) = fa := by rw [upQ, if_pos h1]
    rw [e]
    subst h1
    go_enter Try.func60, Try.ntmps60
    go_wp2
    go_ret
    exact ⟨rfl, bwT⟩
  · have e : upQ sex (nm, sx, fa, mo, bo, di) = mo := by rw [upQ, if_neg h1]
    rw [e]
    have h1' : (sex == 1) = false := by simpa using h1
    go_enter Try.func60, Try.ntmps60
    go_wp2
    go_ret
    exact ⟨rfl, bwT⟩

set_option maxHeartbeats 1000000 in
theorem founder_any {z : Bool} {lo hi : Nat} (v v2 : Value) (ps : List Per) (h : Rd z lo hi w [v] ps) (hP : PplTo ps ps.length) (p : Nat) (hp : p < ps.length) :
    Calls Try.prog 34 #[.agg #[v, v2], .int .i64 p, .int .i64 sex] w (PostI w (fo ps sex p : Nat)) := by
  have HP := Lib.hid hP
  clear hP
  obtain ⟨R, hR⟩ : ∃ R : Nat, R = fo ps sex p := ⟨_, rfl⟩
  rw [← hR]
  have HR := Lib.hid hR
  clear hR
  go_enter Try.func34, Try.ntmps34
  go_wp2
  go_loopw [1] (fun s1 wr => ∃ q : Nat, q < ps.length ∧ s1 = .int .i64 q ∧ Hid (R = fo ps sex q) ∧ Below (w.heap.size + 1) (w.alloc (.cells #[v, v2] 32)) wr) (fun s1 _ => (intOf s1).toNat)
  case atStart => exact ⟨p, hp, rfl, HR, Below.refl _ _⟩
  case round =>
    rename_i wr
    clear HR
    obtain ⟨q, hq, rfl, hr, hb⟩ := hrel
    have sW := hb.size
    simp only [World.size_alloc] at sW
    have hbw : Below w.heap.size w wr := Below.trans ((Below.refl _ _).alloc (Nat.le_refl _) _) (hb.mono (by omega))
    have q_f0 : wr.cell? ⟨w.heap.size, 0, none⟩ = some v := oldc hb (by omega) (by simp [go_sem])
    have q_f1 : wr.cell? ⟨w.heap.size, 1, none⟩ = some v2 := oldc hb (by omega) (by simp [go_sem])
    have l_f : w.heap.size < wr.heap.size := by omega
    obtain ⟨x, hx⟩ : ∃ x, ps[q]? = some x := ⟨_, List.getElem?_eq_getElem hq⟩
    have HX := Lib.hid hx
    have hu := upQ_lt HP.out hq hx sex
    obtain ⟨U, hU⟩ : ∃ U, U = upQ sex x := ⟨_, rfl⟩
    rw [← hU] at hu
    have HU := Lib.hid hU
    clear hx hU
    go_wp2_with fail
    refine (up_any _ sex _ v2 ps (h.below bwT) q HX.out).mono ?_
    rw [← HU.out]
    rintro e w1 ⟨rfl, hb1⟩
    have hb1' : Below (w.heap.size + 1) (w.alloc (.cells #[v, v2] 32)) w1 := Below.trans hb (hb1.mono (by omega))
    have hB1 : Below w.heap.size w w1 := Below.after hbw hb1 hbw.size
    have s1 := hb1.size
    have q_f0 := oldc hb1 l_f q_f0
    have q_f1 := oldc hb1 l_f q_f1
    have l_f := Nat.lt_of_lt_of_le l_f s1
    rcases hu with hu | ⟨hu0, hu1⟩
    · have hU0 : ¬ 0 ≤ U := by omega
      have HF := Lib.hid (show R = q by rw [hr.out]; exact fo_top HX.out (by rw [← HU.out]; omega))
      clear hr h
      go_wp2
      go_ret
      exact ⟨ret_int (by rw [HF.out]), hB1⟩
    · obtain ⟨u, hu⟩ := Int.eq_ofNat_of_zero_le hu0
      have HN := Lib.hid (show R = fo ps sex u by rw [hr.out]; exact fo_up HP.out hq HX.out (by rw [← HU.out, hu]))
      clear hr
      go_wp2_with fail
      refine (up_any _ sex _ v2 ps (h.below bwT) q HX.out).mono ?_
      rw [← HU.out]
      rintro e w2 ⟨rfl, hb2⟩
      have hb2' : Below (w.heap.size + 1) (w.alloc (.cells #[v, v2] 32)) w2 := Below.trans hb1' (hb2.mono (by omega))
      subst hu
      clear h HU
      go_wp2
      go_roundw
      case rel => exact ⟨u, by omega, rfl, HN, hb2'⟩
      case measure => simp [intOf]; omega
end
end Go.Proofs.Ytiingmngeiakgaa
