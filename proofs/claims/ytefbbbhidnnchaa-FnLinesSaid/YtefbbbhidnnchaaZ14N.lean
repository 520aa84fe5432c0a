/- Texts laid one behind the other (merge.py): Fnd, Fnd2. -/
import Derived.Test.YtefbbbhidnnchaaZ14F
import Derived.Test.YtefbbbhidnnchaaZ14K
namespace Go.Proofs.Ytefbbbhidnnchaa
set_option linter.unusedVariables false
set_option linter.unusedSimpArgs false
open Go.RowKit

/-! ### Fnd -/
section

def upQ (sex : Int) (x : Per) : Int := if sex = 1 then x.2.2.1 else x.2.2.2.1
def fnd (ps : List Per) (sex : Int) : Nat → Nat → Nat
  | 0, p => p
  | k + 1, p => match ps[p]? with | some x => if 0 ≤ upQ sex x then fnd ps sex k (upQ sex x).toNat else p | none => p
def fo (ps : List Per) (sex : Int) (p : Nat) : Nat := fnd ps sex p p
def sexB (sex : Int) : Bool := decide (sex = 1 ∨ sex = 2)

theorem upQ_lt {ps : List Per} {n p : Nat} (hP : PplTo ps n) (hp : p < n) {x : Per} (hx : ps[p]? = some x) (sex : Int) : upQ sex x = -1 ∨ (0 ≤ upQ sex x ∧ upQ sex x < p) := by
  obtain ⟨nm, sx, fa, mo, bo, di⟩ := x
  obtain ⟨-, -, -, hf, hm, -⟩ := hP.at hp hx
  unfold upQ; dsimp only
  split
  · exact hf
  · exact hm
theorem fnd_fuel {ps : List Per} {n : Nat} (hP : PplTo ps n) (sex : Int) : ∀ (p : Nat), p < n → ∀ k, p ≤ k → fnd ps sex k p = fnd ps sex p p := by
  intro p
  induction p using Nat.strongRecOn with
  | _ p ih =>
    intro hp k hk
    cases hx : ps[p]? with
    | none =>
      cases k <;> cases p <;> simp_all [fnd]
    | some x =>
      rcases upQ_lt hP hp hx sex with h | ⟨h0, h1⟩
      · have hn : ¬ 0 ≤ upQ sex x := by omega
        cases k with
        | zero => have : p = 0 := by omega
                  subst this; rfl
        | succ k =>
          cases p with
          | zero => simp only [fnd, hx, hn, if_false]
          | succ p => rw [fnd, fnd, hx]; simp only [hn, if_false]
      · obtain ⟨u, hu⟩ := Int.eq_ofNat_of_zero_le h0
        have hup : u < p := by omega
        obtain ⟨k', rfl⟩ : ∃ k', k = k' + 1 := ⟨k - 1, by omega⟩
        obtain ⟨p', rfl⟩ : ∃ p', p = p' + 1 := ⟨p - 1, by omega⟩
        rw [fnd, fnd, hx]
        simp only [h0, if_true]
        rw [hu, Int.toNat_natCast, ih u hup (by omega) k' (by omega), ih u hup (by omega) p' (by omega)]
theorem fo_up {ps : List Per} {n p : Nat} (hP : PplTo ps n) (hp : p < n) {x : Per} (hx : ps[p]? = some x) {sex : Int} {u : Nat} (hu : upQ sex x = (u : Int)) : fo ps sex p = fo ps sex u := by
  have hlt : u < p := by rcases upQ_lt hP hp hx sex with h | h <;> omega
  obtain ⟨p', rfl⟩ : ∃ p', p = p' + 1 := ⟨p - 1, by omega⟩
  unfold fo
  rw [fnd, hx]
  simp only [hu]
  rw [if_pos (by omega), Int.toNat_natCast, fnd_fuel hP sex u (by omega) p' (by omega)]
theorem fo_top {ps : List Per} {p : Nat} {x : Per} (hx : ps[p]? = some x) {sex : Int} (hu : upQ sex x < 0) : fo ps sex p = p := by
  unfold fo
  cases p with
  | zero => rfl
  | succ p => rw [fnd, hx]; simp only; rw [if_neg (by omega)]
theorem fo_lt {ps : List Per} {n : Nat} (hP : PplTo ps n) (hn : n ≤ ps.length) (sex : Int) : ∀ (p : Nat), p < n → fo ps sex p < n := by
  intro p
  induction p using Nat.strongRecOn with
  | _ p ih =>
    intro hp
    have hx : ps[p]? = some ps[p] := List.getElem?_eq_getElem (by omega)
    rcases upQ_lt hP hp hx sex with h | ⟨h0, h1⟩
    · rw [fo_top hx (by omega)]; exact hp
    · obtain ⟨u, hu⟩ := Int.eq_ofNat_of_zero_le h0
      rw [fo_up hP hp hx hu]; exact ih u (by omega) (by omega)

section
variable (w : World) (sex : Int)
theorem isSex_b (r : Bool) (hr : r = sexB sex) : Calls Try.prog 30 #[.int .i64 sex] w (PostB w r) := by
  have HR := Lib.hid hr
  clear hr
  by_cases h1 : sex = 1
  · obtain rfl : r = true := by rw [HR.out, sexB]; simp [h1]
    subst h1
    go_enter Try.func30, Try.ntmps30
    go_wp2
    go_ret
    exact ⟨rfl, bwT⟩
  have h1' : (sex == 1) = false := by simpa using h1
  by_cases h2 : sex = 2
  · obtain rfl : r = true := by rw [HR.out, sexB]; simp [h2]
    subst h2
    go_enter Try.func30, Try.ntmps30
    go_wp2
    go_ret
    exact ⟨rfl, bwT⟩
  have h2' : (sex == 2) = false := by simpa using h2
  obtain rfl : r = false := by rw [HR.out, sexB]; simp [h1, h2]
  go_enter Try.func30, Try.ntmps30
  go_wp2
  go_ret
  exact ⟨rfl, bwT⟩
theorem l7Sex_b (r : Bool) (hr : r = sexB sex) : Calls Try.prog 35 #[.int .i64 sex] w (PostB w r) := by
  have HR := Lib.hid hr
  clear hr
  by_cases h1 : sex = 1
  · obtain rfl : r = true := by rw [HR.out, sexB]; simp [h1]
    subst h1
    go_enter Try.func35, Try.ntmps35
    go_wp2
    go_ret
    exact ⟨rfl, bwT⟩
  have h1' : (sex == 1) = false := by simpa using h1
  by_cases h2 : sex = 2
  · obtain rfl : r = true := by rw [HR.out, sexB]; simp [h2]
    subst h2
    go_enter Try.func35, Try.ntmps35
    go_wp2
    go_ret
    exact ⟨rfl, bwT⟩
  have h2' : (sex == 2) = false := by simpa using h2
  obtain rfl : r = false := by rw [HR.out, sexB]; simp [h1, h2]
  go_enter Try.func35, Try.ntmps35
  go_wp2
  go_ret
  exact ⟨rfl, bwT⟩

set_option maxHeartbeats 1000000 in
theorem up_any {z : Bool} {lo hi : Nat} (v v2 : Value) (ps : List Per) (h : Rd z lo hi w [v] ps) (p : Nat) {x : Per} (hx : ps[p]? = some x) :
    Calls Try.prog 64 #[.agg #[v, v2], .int .i64 p, .int .i64 sex] w (PostI w (upQ sex x)) := by
  have hp : p < ps.length := (List.getElem?_eq_some_iff.1 hx).1
  obtain ⟨ao, n, cap, rfl, rfl, hnc, hcm, hnone⟩ := h.shape
  unfold maxLen at *
  obtain ⟨b, off, nm, sx, fa, mo, bo, di, rfl, hy, p0, p1, p2, p3, p4, p5, -, -, -, -, -, -, -, -, hbl, -⟩ := h.per_at hp
  obtain rfl : x = (nm, sx, fa, mo, bo, di) := Option.some.inj (hx.symm.trans hy.out)
  have hI : (p : Int) < (ps.length : Int) := by omega
  have gn : ¬ b = w.heap.size := by omega
  have gm : ¬ w.heap.size = b := by omega
  clear h hx hy
  by_cases h1 : sex = 1
  · have e : upQ sex (nm, sx, fa, mo, bo, di) = fa := by rw [upQ, if_pos h1]
    rw [e]
    subst h1
    go_enter Try.func64, Try.ntmps64
    go_wp2
    go_ret
    exact ⟨rfl, bwT⟩
  · have e : upQ sex (nm, sx, fa, mo, bo, di) = mo := by rw [upQ, if_neg h1]
    rw [e]
    have h1' : (sex == 1) = false := by simpa using h1
    go_enter Try.func64, Try.ntmps64
    go_wp2
    go_ret
    exact ⟨rfl, bwT⟩

set_option maxHeartbeats 1000000 in
theorem founder_any {z : Bool} {lo hi : Nat} (v v2 : Value) (ps : List Per) (h : Rd z lo hi w [v] ps) (hP : PplTo ps ps.length) (p : Nat) (hp : p < ps.length) :
    Calls Try.prog 31 #[.agg #[v, v2], .int .i64 p, .int .i64 sex] w (PostI w (fo ps sex p : Nat)) := by
  have HP := Lib.hid hP
  clear hP
  obtain ⟨R, hR⟩ : ∃ R : Nat, R = fo ps sex p := ⟨_, rfl⟩
  rw [← hR]
  have HR := Lib.hid hR
  clear hR
  go_enter Try.func31, Try.ntmps31
  go_wp2
  go_loopw [1] (fun s1 wr => ∃ q : Nat, q < ps.length ∧ s1 = .int .i64 q ∧ Hid (R = fo ps sex q) ∧ Below (w.heap.size + 1) (w.alloc (.cells #[v, v2] 26)) wr) (fun s1 _ => (intOf s1).toNat)
  case atStart => exact ⟨p, hp, rfl, HR, Below.refl _ _⟩
  case round =>
    rename_i wr
    clear HR
    obtain ⟨q, hq, rfl, hr, hb⟩ := hrel
    have sW := hb.size
    simp only [World.size_alloc] at sW
    have hbw : Below w.heap.size w wr := Below.trans ((Below.refl _ _).alloc (Nat.le_refl _) _) (hb.mono (by omega))
    have q_f0 : wr.cell? ⟨w.heap.size, 0, none⟩ = some v := oldc hb (by omega) (by simp [go_sem])
    have q_f1 : wr.cell? ⟨w.heap.size, 1, none⟩ = some v2 := oldc hb (by omega) (by simp [go_sem])
    have l_f : w.heap.size < wr.heap.size := by omega
    obtain ⟨x, hx⟩ : ∃ x, ps[q]? = some x := ⟨_, List.getElem?_eq_getElem hq⟩
    have HX := Lib.hid hx
    have hu := upQ_lt HP.out hq hx sex
    obtain ⟨U, hU⟩ : ∃ U, U = upQ sex x := ⟨_, rfl⟩
    rw [← hU] at hu
    have HU := Lib.hid hU
    clear hx hU
    go_wp2_with fail
    refine (up_any _ sex _ v2 ps (h.below bwT) q HX.out).mono ?_
    rw [← HU.out]
    rintro e w1 ⟨rfl, hb1⟩
    have hb1' : Below (w.heap.size + 1) (w.alloc (.cells #[v, v2] 26)) w1 := Below.trans hb (hb1.mono (by omega))
    have hB1 : Below w.heap.size w w1 := Below.after hbw hb1 hbw.size
    have s1 := hb1.size
    have q_f0 := oldc hb1 l_f q_f0
    have q_f1 := oldc hb1 l_f q_f1
    have l_f := Nat.lt_of_lt_of_le l_f s1
    rcases hu with hu | ⟨hu0, hu1⟩
    · have hU0 : ¬ 0 ≤ U := by omega
      have HF := Lib.hid (show R = q by rw [hr.out]; exact fo_top HX.out (by rw [← HU.out]; omega))
      clear hr h
      go_wp2
      go_ret
      exact ⟨ret_int (by rw [HF.out]), hB1⟩
    · obtain ⟨u, hu⟩ := Int.eq_ofNat_of_zero_le hu0
      have HN := Lib.hid (show R = fo ps sex u by rw [hr.out]; exact fo_up HP.out hq HX.out (by rw [← HU.out, hu]))
      clear hr
      go_wp2_with fail
      refine (up_any _ sex _ v2 ps (h.below bwT) q HX.out).mono ?_
      rw [← HU.out]
      rintro e w2 ⟨rfl, hb2⟩
      have hb2' : Below (w.heap.size + 1) (w.alloc (.cells #[v, v2] 26)) w2 := Below.trans hb1' (hb2.mono (by omega))
      subst hu
      clear h HU
      go_wp2
      go_roundw
      case rel => exact ⟨u, by omega, rfl, HN, hb2'⟩
      case measure => simp [intOf]; omega
end

end

/-! ### Fnd2 -/
section

def inB (f : Fam) (p : Int) : Bool := decide (0 ≤ p ∧ p < f.1.length)
def hasB (f : Fam) (xs : List Int) : Bool := famB f && xs.all (inB f)
def foV (f : Fam) (p sex : Int) : Bool := famB f && inB f p && sexB sex
def foX (f : Fam) (p sex : Int) : Int := if foV f p sex = true then (fo f.1 sex p.toNat : Nat) else 0
def PostIB (w : World) (x : Int) (b : Bool) (e : Ending) (w' : World) : Prop := e = .returned (.tuple #[.int .i64 x, .bool b]) ∧ Below w.heap.size w w'

theorem Rd.lit1 (w : World) (E : TypeId) (p : Int) (hp : I64 p) : Rd true w.heap.size (w.heap.size + 1) (w.alloc (.cells #[.int .i64 p] E)) [.slice (some ⟨w.heap.size, 0, none⟩) 1 1] ([p] : List Int) := by
  refine ⟨[w.heap.size], ⟨_, rfl, some ⟨w.heap.size, 0, none⟩, 1, 1, rfl, rfl, Nat.le_refl _, by simp [maxLen], (fun h => by cases h), .inr ⟨w.heap.size, 0, [[.int .i64 p]], [[]], rfl, by simp, rfl, ⟨⟨rfl, hp, rfl⟩, trivial⟩, ?_, ?_⟩⟩, ?_⟩
  · intro j c hj
    match j, hj with
    | 0, hj => simp at hj; subst hj; simp [go_sem]
  · intro _ o; simp [go_sem]
  · intro b hb; simp at hb; omega

section
variable {z z' : Bool} {lo hi lo' hi' : Nat} (w : World) (v v2 v3 : Value) (f : Fam)
set_option maxHeartbeats 1000000 in
theorem l7Founder_any (sex : Int) (ps : List Per) (h : Rd z lo hi w [v] ps) (hP : PplTo ps ps.length) (p : Nat) (hp : p < ps.length) (hs : sexB sex = true) :
    Calls Try.prog 38 #[.agg #[v, v2], .int .i64 p, .int .i64 sex] w (PostI w (fo ps sex p : Nat)) := by
  have HP := Lib.hid hP
  clear hP
  have hs' : sex = 1 ∨ sex = 2 := by simpa [sexB] using hs
  obtain ⟨ao, n, cap, rfl, rfl, hnc, hcm, hnone⟩ := h.shape
  unfold maxLen at *
  obtain ⟨R, hR⟩ : ∃ R : Nat, R = fo ps sex p := ⟨_, rfl⟩
  rw [← hR]
  have HR := Lib.hid hR
  clear hR hs
  go_enter Try.func38, Try.ntmps38
  go_wp2
  go_loopw [1, 7] (fun s1 _ wr => ∃ q : Nat, q < ps.length ∧ s1 = .int .i64 q ∧ Hid (R = fo ps sex q) ∧ Below (w.heap.size + 1) (w.alloc (.cells #[.slice ao ps.length cap, v2] 26)) wr) (fun s1 _ _ => (intOf s1).toNat)
  case atStart => exact ⟨p, hp, rfl, HR, Below.refl _ _⟩
  case round =>
    clear HR
    obtain ⟨q, hq, rfl, hr, hb⟩ := hrel
    have sW := hb.size
    simp only [World.size_alloc] at sW
    have hbw : Below w.heap.size w wr := Below.trans ((Below.refl _ _).alloc (Nat.le_refl _) _) (hb.mono (by omega))
    have q_f0 : wr.cell? ⟨w.heap.size, 0, none⟩ = some (.slice ao ps.length cap) := oldc hb (by omega) (by simp [go_sem])
    obtain ⟨b, off, nm, sx, fa, mo, bo, di, rfl, hx, p0, p1, p2, p3, p4, p5, -, -, -, -, -, -, -, -, hbl, -⟩ := (h.below hbw).per_at hq
    have hI : (q : Int) < (ps.length : Int) := by omega
    have hu := upQ_lt HP.out hq hx.out sex
    have HX := Lib.hid hx.out
    clear hx h
    rcases hs' with rfl | rfl
    · have e : upQ 1 (nm, sx, fa, mo, bo, di) = fa := rfl
      rw [e] at hu
      rcases hu with rfl | ⟨hu0, hu1⟩
      · have HF := Lib.hid (show R = q by rw [hr.out]; exact fo_top HX.out (by show (-1 : Int) < 0; decide))
        clear hr
        go_wp2
        go_ret
        exact ⟨ret_int (by rw [HF.out]), hbw⟩
      · obtain ⟨u, rfl⟩ := Int.eq_ofNat_of_zero_le hu0
        have HN := Lib.hid (show R = fo ps 1 u by rw [hr.out]; exact fo_up HP.out hq HX.out rfl)
        have hU0 : ¬ ((u : Nat) : Int) < 0 := by omega
        clear hr HX
        go_wp2
        go_roundw
        case rel => exact ⟨u, by omega, rfl, HN, hb⟩
        case measure => simp [intOf]; omega
    · have e : upQ 2 (nm, sx, fa, mo, bo, di) = mo := rfl
      rw [e] at hu
      rcases hu with rfl | ⟨hu0, hu1⟩
      · have HF := Lib.hid (show R = q by rw [hr.out]; exact fo_top HX.out (by show (-1 : Int) < 0; decide))
        clear hr
        go_wp2
        go_ret
        exact ⟨ret_int (by rw [HF.out]), hbw⟩
      · obtain ⟨u, rfl⟩ := Int.eq_ofNat_of_zero_le hu0
        have HN := Lib.hid (show R = fo ps 2 u by rw [hr.out]; exact fo_up HP.out hq HX.out rfl)
        have hU0 : ¬ ((u : Nat) : Int) < 0 := by omega
        clear hr HX
        go_wp2
        go_roundw
        case rel => exact ⟨u, by omega, rfl, HN, hb⟩
        case measure => simp [intOf]; omega

set_option maxHeartbeats 1000000 in
theorem has_b (h : Rd z lo hi w [v, v2] f) (xs : List Int) (h' : Rd z' lo' hi' w [v3] xs) (r : Bool) (hr : r = hasB f xs) :
    Calls Try.prog 32 #[.agg #[v, v2], v3] w (PostB w r) := by
  obtain ⟨ha, -⟩ := h.fam
  obtain ⟨ao, n, cap, rfl, hn, hnc, hcm, hnone⟩ := ha.shape
  obtain ⟨go, n3, gap, rfl, rfl, hnc3, hcm3, hnone3⟩ := h'.shape
  subst hn
  unfold maxLen at *
  obtain ⟨r1, hlet_r1⟩ : ∃ r, r = famB f := ⟨_, rfl⟩
  have H1 := Lib.hid hlet_r1
  clear hlet_r1
  obtain ⟨r2, hlet_r2⟩ : ∃ r, r = xs.all (inB f) := ⟨_, rfl⟩
  have H2 := Lib.hid hlet_r2
  clear hlet_r2
  have HR := Lib.hid (show r = (r1 && r2) by rw [hr, hasB, H1.out, H2.out])
  clear hr ha
  go_enter Try.func32, Try.ntmps32
  go_wp2_with fail
  refine (isFamI_b _ _ _ f (h.below bwT) r1 H1.out).mono ?_
  rintro e1 w1 ⟨rfl, hbw1⟩
  have hpw1 : Below w.heap.size w w1 := Below.after bwT hbw1 szT
  have sw1 := hpw1.size
  have hBw1 : Below w.heap.size w w1 := hpw1
  have l_f : w.heap.size < w1.heap.size := by have := hbw1.size; simp at this; omega
  have q_f0 : w1.cell? ⟨w.heap.size, 0, none⟩ = some (.slice ao f.1.length cap) := oldc hbw1 ltT (by simp [go_sem])
  have q_f1 : w1.cell? ⟨w.heap.size, 1, none⟩ = some (v2) := oldc hbw1 ltT (by simp [go_sem])
  clear hbw1 hpw1
  cases r1
  · go_wp2
    go_ret
    exact ⟨ret_bool (by rw [HR.out]; rfl), bwT⟩
  obtain ⟨W0, hW0⟩ : ∃ W : World, W = w1 := ⟨_, rfl⟩
  subst hW0
  have hB0 : Below w.heap.size w W0 := hBw1
  go_wp2
  go_loopw [6, 12] (fun _ s12 wr => ∃ k : Nat, k ≤ xs.length ∧ s12 = .int .i64 k ∧ Hid (r2 = (xs.drop k).all (inB f)) ∧ Below W0.heap.size W0 wr) (fun _ s12 _ => xs.length - (intOf s12).toNat)
  case atStart => exact ⟨0, Nat.zero_le _, rfl, H2, Below.refl _ _⟩
  case round =>
    rename_i wr
    clear H2 H1 h
    obtain ⟨k, hk, rfl, hd, hb2⟩ := hrel
    have hbw : Below w.heap.size w wr := Below.trans hB0 (hb2.mono hB0.size)
    have q_f0 := oldc hb2 l_f q_f0
    by_cases hlt : k < xs.length
    · obtain ⟨b, off, x, rfl, hx, hc, hx1, hx2, _⟩ := (h'.below hbw).int_at hlt
      have hI : (k : Int) < (xs.length : Int) := by omega
      have HS := Lib.hid (show (xs.drop k).all (inB f) = (inB f x && (xs.drop (k + 1)).all (inB f)) by rw [drop_cons hx.out, List.all_cons])
      clear hx h'
      by_cases e : 0 ≤ x ∧ x < f.1.length
      · have e1 : ¬ x < 0 := by omega
        have e2 : ¬ (f.1.length : Int) ≤ x := by omega
        have HN := Lib.hid (show r2 = (xs.drop (k + 1)).all (inB f) by rw [hd.out, HS.out, inB, show decide (0 ≤ x ∧ x < (f.1.length : Int)) = true by simpa using e]; rfl)
        clear hd HS
        go_wp2
        go_roundw
        case rel => exact ⟨k + 1, by omega, by go_num, HN, hb2⟩
        case measure => simp [intOf]; omega
      · have HX := Lib.hid (show false = r by rw [HR.out, hd.out, HS.out, inB, show decide (0 ≤ x ∧ x < (f.1.length : Int)) = false by simpa using e]; rfl)
        clear hd HS
        go_wp2
        all_goals first
          | (exfalso; omega)
          | (go_ret; exact ⟨ret_bool HX.out, hbw⟩)
    · have HX := Lib.hid (show true = r by rw [HR.out, hd.out, List.drop_eq_nil_of_le (by omega)]; rfl)
      have hI : ¬ (k : Int) < (xs.length : Int) := by omega
      clear hd h'
      go_wp2
      go_ret
      exact ⟨ret_bool HX.out, hbw⟩

set_option maxHeartbeats 1000000 in
theorem l1Has_b (h : Rd z lo hi w [v, v2] f) (p : Int) (r : Bool) (hr : r = (famB f && inB f p)) :
    Calls Try.prog 33 #[.agg #[v, v2], .int .i64 p] w (PostB w r) := by
  obtain ⟨ha, -⟩ := h.fam
  obtain ⟨ao, n, cap, rfl, hn, hnc, hcm, hnone⟩ := ha.shape
  subst hn
  unfold maxLen at *
  obtain ⟨r1, hlet_r1⟩ : ∃ r, r = famB f := ⟨_, rfl⟩
  have H1 := Lib.hid hlet_r1
  clear hlet_r1
  have HR := Lib.hid (show r = (r1 && inB f p) by rw [hr, H1.out])
  clear hr ha
  by_cases e : 0 ≤ p ∧ p < f.1.length
  · have HB := Lib.hid (show r1 = r by rw [HR.out, inB, show decide (0 ≤ p ∧ p < (f.1.length : Int)) = true by simpa using e]; simp)
    have e1 : 0 ≤ p := e.1
    have e2 : p < (f.1.length : Int) := e.2
    go_enter Try.func33, Try.ntmps33
    go_wp2_with fail
    refine (isFamS_b _ _ _ f (h.below bwT) r1 H1.out).mono ?_
    rintro e2 w2 ⟨rfl, hbw2⟩
    have hpw2 : Below w.heap.size w w2 := Below.after bwT hbw2 szT
    have sw2 := hpw2.size
    have hBw2 : Below w.heap.size w w2 := hpw2
    have l_f : w.heap.size < w2.heap.size := by have := hbw2.size; simp at this; omega
    have q_f0 : w2.cell? ⟨w.heap.size, 0, none⟩ = some (.slice ao f.1.length cap) := oldc hbw2 ltT (by simp [go_sem])
    have q_f1 : w2.cell? ⟨w.heap.size, 1, none⟩ = some (v2) := oldc hbw2 ltT (by simp [go_sem])
    clear hbw2 hpw2
    go_wp2
    go_ret
    exact ⟨ret_bool HB.out, bwT⟩
  · have HX := Lib.hid (show false = r by rw [HR.out, inB, show decide (0 ≤ p ∧ p < (f.1.length : Int)) = false by simpa using e]; simp)
    clear H1 h
    by_cases e1 : 0 ≤ p
    · have e2 : ¬ p < (f.1.length : Int) := by omega
      go_enter Try.func33, Try.ntmps33
      go_wp2
      go_ret
      exact ⟨ret_bool HX.out, bwT⟩
    · go_enter Try.func33, Try.ntmps33
      go_wp2
      go_ret
      exact ⟨ret_bool HX.out, bwT⟩
end

end

end Go.Proofs.Ytefbbbhidnnchaa
