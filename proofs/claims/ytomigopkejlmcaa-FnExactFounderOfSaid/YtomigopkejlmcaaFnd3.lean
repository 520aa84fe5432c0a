/- Contracts of FounderOf. -/
import Derived.Test.YtomigopkejlmcaaFnd2
namespace Go.Proofs.Ytomigopkejlmcaa
set_option linter.unusedVariables false
set_option linter.unusedSimpArgs false
open Go.RowKit

section
variable {z : Bool} {lo hi : Nat} (w : World) (v v2 : Value) (f : Fam)
set_option maxHeartbeats 1000000 in
theorem founderOfI_b (h : Rd z lo hi w [v, v2] f) (p sex : Int) (bp : I64 p) (X : Int) (V : Bool) (hX : X = foX f p sex) (hV : V = foV f p sex) :
    Calls Try.prog 24 #[.agg #[v, v2], .int .i64 p, .int .i64 sex] w (PostIB w X V) := by
  obtain ⟨ha, -⟩ := h.fam
  obtain ⟨r1, hlet_r1⟩ : ∃ r, r = hasB f [p] := ⟨_, rfl⟩
  have H1 := Lib.hid hlet_r1
  clear hlet_r1
  obtain ⟨r2, hlet_r2⟩ : ∃ r, r = sexB sex := ⟨_, rfl⟩
  have H2 := Lib.hid hlet_r2
  clear hlet_r2
  have hh : hasB f [p] = (famB f && inB f p) := by simp [hasB]
  have HV := Lib.hid (show V = (r1 && r2) by rw [hV, foV, H1.out, H2.out, hh])
  have HX := Lib.hid (show X = if (r1 && r2) = true then ((fo f.1 sex p.toNat : Nat) : Int) else 0 by rw [hX, foX, ← hV, HV.out])
  have HH := Lib.hid hh
  clear hX hV hh
  go_enter Try.func24, Try.ntmps24
  go_wp2_with fail
  refine (has_b (z' := true) (lo' := w.heap.size + 1) (hi' := w.heap.size + 1 + 1) _ _ _ _ f (h.below (by repeat' (first | (with_reducible exact Below.refl _ _) | (with_reducible assumption) | (with_reducible refine Below.alloc ?_ (by first | omega | (simp; omega) | simp) _) | (with_reducible refine Below.setCell ?_ (by first | omega | (simp; omega) | simp) _) | (with_reducible refine Below.drew ?_) | (with_reducible refine below_drewN ?_ _)))) [p] (by have := Rd.lit1 (w.alloc (.cells #[v, v2] 32)) 3 p bp; simpa using this) r1 H1.out).mono ?_
  rintro e1 w1 ⟨rfl, hbw1⟩
  have hpw1 : Below w.heap.size w w1 := Below.after (by repeat' (first | (with_reducible exact Below.refl _ _) | (with_reducible assumption) | (with_reducible refine Below.alloc ?_ (by first | omega | (simp; omega) | simp) _) | (with_reducible refine Below.setCell ?_ (by first | omega | (simp; omega) | simp) _) | (with_reducible refine Below.drew ?_) | (with_reducible refine below_drewN ?_ _))) hbw1 (by first | omega | (simp only [World.size_alloc, World.size_setCell, World.size_drew] at *; omega) | (simp; omega) | simp)
  have sw1 := hpw1.size
  have hBw1 : Below w.heap.size w w1 := hpw1
  have l_f : w.heap.size < w1.heap.size := by have := hbw1.size; simp at this; omega
  have q_f0 : w1.cell? ⟨w.heap.size, 0, none⟩ = some (v) := oldc hbw1 (by first | omega | (simp; omega) | (simp; done)) (by simp [go_sem])
  have q_f1 : w1.cell? ⟨w.heap.size, 1, none⟩ = some (v2) := oldc hbw1 (by first | omega | (simp; omega) | (simp; done)) (by simp [go_sem])
  clear hbw1 hpw1
  cases r1
  · go_wp2
    exact bodyPost_ret (v := .tuple #[.int .i64 0, .bool false]) (by simp [results, go_sem]) rfl ⟨by rw [HX.out, HV.out]; rfl, (by repeat' (first | (with_reducible exact Below.refl _ _) | (with_reducible assumption) | (with_reducible refine Below.alloc ?_ (by first | omega | (simp; omega) | simp) _) | (with_reducible refine Below.setCell ?_ (by first | omega | (simp; omega) | simp) _) | (with_reducible refine Below.drew ?_) | (with_reducible refine below_drewN ?_ _)))⟩
  go_wp2_with fail
  refine (isSex_b _ sex r2 H2.out).mono ?_
  rintro e2 w2 ⟨rfl, hbw2⟩
  have hpw2 : Below w1.heap.size w1 w2 := Below.after (by repeat' (first | (with_reducible exact Below.refl _ _) | (with_reducible assumption) | (with_reducible refine Below.alloc ?_ (by first | omega | (simp; omega) | simp) _) | (with_reducible refine Below.setCell ?_ (by first | omega | (simp; omega) | simp) _) | (with_reducible refine Below.drew ?_) | (with_reducible refine below_drewN ?_ _))) hbw2 (by first | omega | (simp only [World.size_alloc, World.size_setCell, World.size_drew] at *; omega) | (simp; omega) | simp)
  have sw2 := hpw2.size
  have hBw2 : Below w.heap.size w w2 := Below.trans hBw1 (Below.mono hpw2 hBw1.size)
  have q_f0 := oldc hpw2 l_f q_f0
  have q_f1 := oldc hpw2 l_f q_f1
  have l_f := Nat.lt_of_lt_of_le l_f sw2
  clear hbw2 hpw2
  cases r2
  · go_wp2
    exact bodyPost_ret (v := .tuple #[.int .i64 0, .bool false]) (by simp [results, go_sem]) rfl ⟨by rw [HX.out, HV.out]; rfl, (by repeat' (first | (with_reducible exact Below.refl _ _) | (with_reducible assumption) | (with_reducible refine Below.alloc ?_ (by first | omega | (simp; omega) | simp) _) | (with_reducible refine Below.setCell ?_ (by first | omega | (simp; omega) | simp) _) | (with_reducible refine Below.drew ?_) | (with_reducible refine below_drewN ?_ _)))⟩
  have hfi : famB f = true ∧ inB f p = true := by
    have := H1.out
    rw [HH.out] at this
    simpa using this.symm
  obtain ⟨h40, -, hP, -⟩ := famB_facts hfi.1
  have hin : 0 ≤ p ∧ p < f.1.length := by simpa [inB] using hfi.2
  obtain ⟨m, rfl⟩ := Int.eq_ofNat_of_zero_le hin.1
  have hm : m < f.1.length := by omega
  clear hfi hin
  go_wp2_with fail
  refine (founder_any _ sex _ _ f.1 (ha.below (by repeat' (first | (with_reducible exact Below.refl _ _) | (with_reducible assumption) | (with_reducible refine Below.alloc ?_ (by first | omega | (simp; omega) | simp) _) | (with_reducible refine Below.setCell ?_ (by first | omega | (simp; omega) | simp) _) | (with_reducible refine Below.drew ?_) | (with_reducible refine below_drewN ?_ _)))) hP m hm).mono ?_
  rintro e3 w3 ⟨rfl, hbw3⟩
  have hpw3 : Below w2.heap.size w2 w3 := Below.after (by repeat' (first | (with_reducible exact Below.refl _ _) | (with_reducible assumption) | (with_reducible refine Below.alloc ?_ (by first | omega | (simp; omega) | simp) _) | (with_reducible refine Below.setCell ?_ (by first | omega | (simp; omega) | simp) _) | (with_reducible refine Below.drew ?_) | (with_reducible refine below_drewN ?_ _))) hbw3 (by first | omega | (simp only [World.size_alloc, World.size_setCell, World.size_drew] at *; omega) | (simp; omega) | simp)
  have sw3 := hpw3.size
  have hBw3 : Below w.heap.size w w3 := Below.trans hBw2 (Below.mono hpw3 hBw2.size)
  have q_f0 := oldc hpw3 l_f q_f0
  have q_f1 := oldc hpw3 l_f q_f1
  have l_f := Nat.lt_of_lt_of_le l_f sw3
  clear hbw3 hpw3
  have HF := Lib.hid (show X = ((fo f.1 sex m : Nat) : Int) by rw [HX.out, Int.toNat_natCast]; rfl)
  have HT := Lib.hid (show V = true by rw [HV.out]; rfl)
  clear HX HV hP
  go_wp2
  exact bodyPost_ret (v := .tuple #[.int .i64 (fo f.1 sex m : Nat), .bool true]) (by simp [results, go_sem]) rfl ⟨by rw [HF.out, HT.out], (by repeat' (first | (with_reducible exact Below.refl _ _) | (with_reducible assumption) | (with_reducible refine Below.alloc ?_ (by first | omega | (simp; omega) | simp) _) | (with_reducible refine Below.setCell ?_ (by first | omega | (simp; omega) | simp) _) | (with_reducible refine Below.drew ?_) | (with_reducible refine below_drewN ?_ _)))⟩
set_option maxHeartbeats 1000000 in
theorem founderOfS_b (h : Rd z lo hi w [v, v2] f) (p sex : Int) (X : Int) (V : Bool) (hX : X = foX f p sex) (hV : V = foV f p sex) :
    Calls Try.prog 23 #[.agg #[v, v2], .int .i64 p, .int .i64 sex] w (PostIB w X V) := by
  obtain ⟨ha, -⟩ := h.fam
  obtain ⟨r1, hlet_r1⟩ : ∃ r, r = (famB f && inB f p) := ⟨_, rfl⟩
  have H1 := Lib.hid hlet_r1
  clear hlet_r1
  obtain ⟨r2, hlet_r2⟩ : ∃ r, r = sexB sex := ⟨_, rfl⟩
  have H2 := Lib.hid hlet_r2
  clear hlet_r2
  have HV := Lib.hid (show V = (r1 && r2) by rw [hV, foV, H1.out, H2.out])
  have HX := Lib.hid (show X = if (r1 && r2) = true then ((fo f.1 sex p.toNat : Nat) : Int) else 0 by rw [hX, foX, ← hV, HV.out])
  clear hX hV
  go_enter Try.func23, Try.ntmps23
  go_wp2_with fail
  refine (l7Sex_b _ sex r2 H2.out).mono ?_
  rintro e4 w4 ⟨rfl, hbw4⟩
  have hpw4 : Below w.heap.size w w4 := Below.after (by repeat' (first | (with_reducible exact Below.refl _ _) | (with_reducible assumption) | (with_reducible refine Below.alloc ?_ (by first | omega | (simp; omega) | simp) _) | (with_reducible refine Below.setCell ?_ (by first | omega | (simp; omega) | simp) _) | (with_reducible refine Below.drew ?_) | (with_reducible refine below_drewN ?_ _))) hbw4 (by first | omega | (simp only [World.size_alloc, World.size_setCell, World.size_drew] at *; omega) | (simp; omega) | simp)
  have sw4 := hpw4.size
  have hBw4 : Below w.heap.size w w4 := hpw4
  have l_f : w.heap.size < w4.heap.size := by have := hbw4.size; simp at this; omega
  have q_f0 : w4.cell? ⟨w.heap.size, 0, none⟩ = some (v) := oldc hbw4 (by first | omega | (simp; omega) | (simp; done)) (by simp [go_sem])
  have q_f1 : w4.cell? ⟨w.heap.size, 1, none⟩ = some (v2) := oldc hbw4 (by first | omega | (simp; omega) | (simp; done)) (by simp [go_sem])
  clear hbw4 hpw4
  cases r2
  · go_wp2
    exact bodyPost_ret (v := .tuple #[.int .i64 0, .bool false]) (by simp [results, go_sem]) rfl ⟨by rw [HX.out, HV.out]; simp, (by repeat' (first | (with_reducible exact Below.refl _ _) | (with_reducible assumption) | (with_reducible refine Below.alloc ?_ (by first | omega | (simp; omega) | simp) _) | (with_reducible refine Below.setCell ?_ (by first | omega | (simp; omega) | simp) _) | (with_reducible refine Below.drew ?_) | (with_reducible refine below_drewN ?_ _)))⟩
  go_wp2_with fail
  refine (l1Has_b _ _ _ f (h.below (by repeat' (first | (with_reducible exact Below.refl _ _) | (with_reducible assumption) | (with_reducible refine Below.alloc ?_ (by first | omega | (simp; omega) | simp) _) | (with_reducible refine Below.setCell ?_ (by first | omega | (simp; omega) | simp) _) | (with_reducible refine Below.drew ?_) | (with_reducible refine below_drewN ?_ _)))) p r1 H1.out).mono ?_
  rintro e5 w5 ⟨rfl, hbw5⟩
  have hpw5 : Below w4.heap.size w4 w5 := Below.after (by repeat' (first | (with_reducible exact Below.refl _ _) | (with_reducible assumption) | (with_reducible refine Below.alloc ?_ (by first | omega | (simp; omega) | simp) _) | (with_reducible refine Below.setCell ?_ (by first | omega | (simp; omega) | simp) _) | (with_reducible refine Below.drew ?_) | (with_reducible refine below_drewN ?_ _))) hbw5 (by first | omega | (simp only [World.size_alloc, World.size_setCell, World.size_drew] at *; omega) | (simp; omega) | simp)
  have sw5 := hpw5.size
  have hBw5 : Below w.heap.size w w5 := Below.trans hBw4 (Below.mono hpw5 hBw4.size)
  have q_f0 := oldc hpw5 l_f q_f0
  have q_f1 := oldc hpw5 l_f q_f1
  have l_f := Nat.lt_of_lt_of_le l_f sw5
  clear hbw5 hpw5
  cases r1
  · go_wp2
    exact bodyPost_ret (v := .tuple #[.int .i64 0, .bool false]) (by simp [results, go_sem]) rfl ⟨by rw [HX.out, HV.out]; rfl, (by repeat' (first | (with_reducible exact Below.refl _ _) | (with_reducible assumption) | (with_reducible refine Below.alloc ?_ (by first | omega | (simp; omega) | simp) _) | (with_reducible refine Below.setCell ?_ (by first | omega | (simp; omega) | simp) _) | (with_reducible refine Below.drew ?_) | (with_reducible refine below_drewN ?_ _)))⟩
  have hfi : famB f = true ∧ inB f p = true := by simpa using H1.out.symm
  obtain ⟨h40, -, hP, -⟩ := famB_facts hfi.1
  have hin : 0 ≤ p ∧ p < f.1.length := by simpa [inB] using hfi.2
  obtain ⟨m, rfl⟩ := Int.eq_ofNat_of_zero_le hin.1
  have hm : m < f.1.length := by omega
  clear hfi hin
  go_wp2_with fail
  refine (l7Founder_any _ _ _ sex f.1 (ha.below (by repeat' (first | (with_reducible exact Below.refl _ _) | (with_reducible assumption) | (with_reducible refine Below.alloc ?_ (by first | omega | (simp; omega) | simp) _) | (with_reducible refine Below.setCell ?_ (by first | omega | (simp; omega) | simp) _) | (with_reducible refine Below.drew ?_) | (with_reducible refine below_drewN ?_ _)))) hP m hm H2.out.symm).mono ?_
  rintro e6 w6 ⟨rfl, hbw6⟩
  have hpw6 : Below w5.heap.size w5 w6 := Below.after (by repeat' (first | (with_reducible exact Below.refl _ _) | (with_reducible assumption) | (with_reducible refine Below.alloc ?_ (by first | omega | (simp; omega) | simp) _) | (with_reducible refine Below.setCell ?_ (by first | omega | (simp; omega) | simp) _) | (with_reducible refine Below.drew ?_) | (with_reducible refine below_drewN ?_ _))) hbw6 (by first | omega | (simp only [World.size_alloc, World.size_setCell, World.size_drew] at *; omega) | (simp; omega) | simp)
  have sw6 := hpw6.size
  have hBw6 : Below w.heap.size w w6 := Below.trans hBw5 (Below.mono hpw6 hBw5.size)
  have q_f0 := oldc hpw6 l_f q_f0
  have q_f1 := oldc hpw6 l_f q_f1
  have l_f := Nat.lt_of_lt_of_le l_f sw6
  clear hbw6 hpw6
  have HF := Lib.hid (show X = ((fo f.1 sex m : Nat) : Int) by rw [HX.out, Int.toNat_natCast]; rfl)
  have HT := Lib.hid (show V = true by rw [HV.out]; rfl)
  clear HX HV hP
  go_wp2
  exact bodyPost_ret (v := .tuple #[.int .i64 (fo f.1 sex m : Nat), .bool true]) (by simp [results, go_sem]) rfl ⟨by rw [HF.out, HT.out], (by repeat' (first | (with_reducible exact Below.refl _ _) | (with_reducible assumption) | (with_reducible refine Below.alloc ?_ (by first | omega | (simp; omega) | simp) _) | (with_reducible refine Below.setCell ?_ (by first | omega | (simp; omega) | simp) _) | (with_reducible refine Below.drew ?_) | (with_reducible refine below_drewN ?_ _)))⟩
end
end Go.Proofs.Ytomigopkejlmcaa
