/- Contracts of the laws' helpers on the type Rule: items with lists of steps. Written by deep.py. -/
import Derived.Test.YtoipdgoejichbaaBase
import Derived.Test.YtoipdgoejichbaaRul
namespace Go.Proofs.Ytoipdgoejichbaa
set_option linter.unusedVariables false
set_option linter.unusedSimpArgs false
open Go.RowKit

theorem slRule : SlTy Try.prog 25 66 (.agg #[.string ByteArray.empty, .int .i64 0, .int .i64 0, .slice none 0 0, .slice none 0 0]) 5 80 := SlTy.of Try.underlying25 (by kernel_rfl) rfl
theorem dRul_inv {z : Bool} {w : World} {cs : List Value} {nm : ByteArray} {sx : Int} {pl : Int} {fr : List Stp} {tw : List Stp} {fp : List Nat} (h : Rep.rep z w cs ((nm, sx, pl, fr, tw) : Rul) fp) : ∃ (vfr vtw : Value) (ffr ftw : List Nat), cs = [.string nm, .int .i64 sx, .int .i64 pl, vfr, vtw] ∧ nm.size ≤ maxLen ∧ I64 sx ∧ I64 pl ∧ Rep.rep z w [vfr] fr ffr ∧ Rep.rep z w [vtw] tw ftw ∧ ffr ++ ftw = fp := by
  obtain ⟨_, _, _, _, rfl, rfl, ⟨rfl, hnm, rfl⟩, ⟨_, _, _, _, rfl, rfl, ⟨rfl, hsx, rfl⟩, ⟨_, _, _, _, rfl, rfl, ⟨rfl, hpl, rfl⟩, ⟨_, _, _, _, rfl, rfl, hfr, htw⟩⟩⟩⟩ := h
  have gfr := hfr
  obtain ⟨vfr, rfl, -⟩ := gfr
  have gtw := htw
  obtain ⟨vtw, rfl, -⟩ := gtw
  exact ⟨vfr, vtw, _, _, rfl, hnm, hsx, hpl, hfr, htw, by simp⟩
theorem dRul_mk {z : Bool} {w : World} {nm : ByteArray} {sx : Int} {pl : Int} {fr : List Stp} {tw : List Stp} {vfr vtw : Value} {ffr ftw : List Nat} (hnm : nm.size ≤ maxLen) (hsx : I64 sx) (hpl : I64 pl) (hfr : Rep.rep z w [vfr] fr ffr) (htw : Rep.rep z w [vtw] tw ftw) : Rep.rep z w [.string nm, .int .i64 sx, .int .i64 pl, vfr, vtw] ((nm, sx, pl, fr, tw) : Rul) (ffr ++ ftw) :=
  ⟨[.string nm], [.int .i64 sx, .int .i64 pl, vfr, vtw], [], (ffr ++ ftw), rfl, by simp, ⟨rfl, hnm, rfl⟩, ⟨[.int .i64 sx], [.int .i64 pl, vfr, vtw], [], (ffr ++ ftw), rfl, by simp, ⟨rfl, hsx, rfl⟩, ⟨[.int .i64 pl], [vfr, vtw], [], (ffr ++ ftw), rfl, by simp, ⟨rfl, hpl, rfl⟩, ⟨[vfr], [vtw], (ffr), (ftw), rfl, by simp, hfr, htw⟩⟩⟩⟩
theorem Rd.dRul {z : Bool} {lo hi : Nat} {w : World} {cs : List Value} {nm : ByteArray} {sx : Int} {pl : Int} {fr : List Stp} {tw : List Stp} (h : Rd z lo hi w cs ((nm, sx, pl, fr, tw) : Rul)) : ∃ (vfr vtw : Value), cs = [.string nm, .int .i64 sx, .int .i64 pl, vfr, vtw] ∧ nm.size ≤ maxLen ∧ I64 sx ∧ I64 pl ∧ Rd z lo hi w [vfr] fr ∧ Rd z lo hi w [vtw] tw := by
  obtain ⟨fp, hr, hz⟩ := h
  obtain ⟨vfr, vtw, ffr, ftw, rfl, hnm, hsx, hpl, hfr, htw, rfl⟩ := dRul_inv hr
  exact ⟨vfr, vtw, rfl, hnm, hsx, hpl, ⟨ffr, hfr, fun b hb => hz b (by simp [hb])⟩, ⟨ftw, htw, fun b hb => hz b (by simp [hb])⟩⟩
theorem Rd.dRul_at {z : Bool} {lo hi : Nat} {w : World} {xs : List Rul} {ao : Option Addr} {n cap : Nat} (h : Rd z lo hi w [.slice ao n cap] xs) {i : Nat} (hi' : i < n) :
    ∃ (b off : Nat) (nm : ByteArray) (sx : Int) (pl : Int) (fr : List Stp) (tw : List Stp) (vfr vtw : Value), ao = some ⟨b, off, none⟩ ∧ Hid (xs[i]? = some (nm, sx, pl, fr, tw)) ∧ w.cell? ⟨b, off + i * 5, none⟩ = some (.string nm) ∧ w.cell? ⟨b, off + i * 5 + 1, none⟩ = some (.int .i64 sx) ∧ w.cell? ⟨b, off + i * 5 + 2, none⟩ = some (.int .i64 pl) ∧ w.cell? ⟨b, off + i * 5 + 3, none⟩ = some (vfr) ∧ w.cell? ⟨b, off + i * 5 + 4, none⟩ = some (vtw) ∧ nm.size ≤ maxLen ∧ I64 sx ∧ I64 pl ∧ Rd z lo hi w [vfr] fr ∧ Rd z lo hi w [vtw] tw ∧ Rd z lo hi w [.string nm, .int .i64 sx, .int .i64 pl, vfr, vtw] ((nm, sx, pl, fr, tw) : Rul) ∧ lo ≤ b ∧ b < hi ∧ b < w.heap.size := by
  obtain ⟨b, off, ⟨nm, sx, pl, fr, tw⟩, cs, e, hx, hr, _, g1, g2, g3, hc, hf⟩ := h.at hi'
  have hr0 := hr
  obtain ⟨vfr, vtw, rfl, hnm, hsx, hpl, hfr, htw⟩ := Rd.dRul hr
  refine ⟨b, off, nm, sx, pl, fr, tw, vfr, vtw, e, hx, ?_, ?_, ?_, ?_, ?_, hnm, hsx, hpl, hfr, htw, hr0, g1, g2, g3⟩
  · have := hc 0 (.string nm) rfl; simpa [Rep.sz, Nat.add_assoc] using this
  · have := hc 1 (.int .i64 sx) rfl; simpa [Rep.sz, Nat.add_assoc] using this
  · have := hc 2 (.int .i64 pl) rfl; simpa [Rep.sz, Nat.add_assoc] using this
  · have := hc 3 (vfr) rfl; simpa [Rep.sz, Nat.add_assoc] using this
  · have := hc 4 (vtw) rfl; simpa [Rep.sz, Nat.add_assoc] using this
theorem dRul_zero (w : World) : Rep.rep true w (Value.agg #[.string ByteArray.empty, .int .i64 0, .int .i64 0, .slice none 0 0, .slice none 0 0]).cells.toList ((ByteArray.empty, 0, 0, [], []) : Rul) [] := by
  have hz : Rep.rep true w [.slice none 0 0] ([] : List Stp) [] := ⟨_, rfl, none, 0, 0, rfl, rfl, Nat.le_refl _, by simp [maxLen], fun _ => rfl, .inl ⟨rfl, rfl⟩⟩
  exact dRul_mk (by simp [maxLen]) (by unfold I64; omega) (by unfold I64; omega) hz hz
def cntRul : Rul → Nat := fun (nm, sx, pl, fr, tw) => 3 + 2 * fr.length + 2 * tw.length
def szdRul : Rul → Nat := fun (nm, sx, pl, fr, tw) => nm.size + fr.length + tw.length
def sszRul (xs : List Rul) : Nat := xs.length + lenBy szdRul xs
theorem cntRul_le (xs : List Rul) : lenBy cntRul xs ≤ 3 * sszRul xs := by
  unfold sszRul
  induction xs with
  | nil => simp [lenBy]
  | cons x xs ih =>
    obtain ⟨nm, sx, pl, fr, tw⟩ := x
    rw [lenBy, lenBy, List.length_cons]
    have : cntRul (nm, sx, pl, fr, tw) ≤ 3 + 3 * szdRul (nm, sx, pl, fr, tw) := by unfold cntRul szdRul; dsimp only; omega
    omega
def mkdRul (k : Int) : Rul → Rul := fun (nm, sx, pl, fr, tw) => ((markTxt (k).toNat), k + 1, k + 1 + 1, marksStp (k + 1 + 1 + 1) fr.length, marksStp (k + 1 + 1 + 1 + 2 * (fr.length : Nat)) tw.length)
instance decEqLRul : DecidableEq (List Rul) := fun a b => instDecidableEqList a b

set_option maxRecDepth 20000 in
set_option maxHeartbeats 4000000 in
theorem eqRule_b {z z' : Bool} {lo hi lo' hi' : Nat} (w : World) (u0 u1 u2 u3 u4 y0 y1 y2 y3 y4 : Value) (x y : Rul) (h : Rd z lo hi w [u0, u1, u2, u3, u4] x) (h' : Rd z' lo' hi' w [y0, y1, y2, y3, y4] y) (r : Bool) (hr : r = decide (x = y)) :
    Calls Try.prog 43 #[.agg #[u0, u1, u2, u3, u4], .agg #[y0, y1, y2, y3, y4]] w (PostB w r) := by
  obtain ⟨nm, sx, pl, fr, tw⟩ := x
  obtain ⟨nm2, sx2, pl2, fr2, tw2⟩ := y
  obtain ⟨vfr, vtw, e1, -, -, -, hfr, htw⟩ := Rd.dRul h
  obtain ⟨vfr2, vtw2, e2, -, -, -, hfr2, htw2⟩ := Rd.dRul h'
  simp only [List.cons.injEq, and_true] at e1 e2
  obtain ⟨rfl, rfl, rfl, rfl, rfl⟩ := e1
  obtain ⟨rfl, rfl, rfl, rfl, rfl⟩ := e2
  obtain ⟨r0, hlet_r0⟩ : ∃ r, r = decide (nm = nm2) := ⟨_, rfl⟩
  have H0 := Lib.hid hlet_r0
  clear hlet_r0
  obtain ⟨r1, hlet_r1⟩ : ∃ r, r = decide (sx = sx2) := ⟨_, rfl⟩
  have H1 := Lib.hid hlet_r1
  clear hlet_r1
  obtain ⟨r2, hlet_r2⟩ : ∃ r, r = decide (pl = pl2) := ⟨_, rfl⟩
  have H2 := Lib.hid hlet_r2
  clear hlet_r2
  obtain ⟨r3, hlet_r3⟩ : ∃ r, r = decide (fr = fr2) := ⟨_, rfl⟩
  have H3 := Lib.hid hlet_r3
  clear hlet_r3
  obtain ⟨r4, hlet_r4⟩ : ∃ r, r = decide (tw = tw2) := ⟨_, rfl⟩
  have H4 := Lib.hid hlet_r4
  clear hlet_r4
  have HR := Lib.hid (show r = (r0 && (r1 && (r2 && (r3 && (r4))))) by rw [hr, H0.out, H1.out, H2.out, H3.out, H4.out]; simp [Prod.mk.injEq, and_assoc, Bool.and_assoc])
  clear hr h h'
  go_enter Try.func43, Try.ntmps43
  cases r0
  · have q0 : (nm.toList == nm2.toList) = false := by rw [text_eq]; exact H0.out.symm
    have q0n : (nm.toList != nm2.toList) = true := by rw [bne, q0]; rfl
    go_wp2
    go_ret
    exact ⟨ret_bool (by rw [HR.out]; rfl), bwT⟩
  have q0 : (nm.toList == nm2.toList) = true := by rw [text_eq]; exact H0.out.symm
  have q0n : (nm.toList != nm2.toList) = false := by rw [bne, q0]; rfl
  cases r1
  · have q1 : (sx != sx2) = true := by have := H1.out; simp at this ⊢; exact this
    go_wp2
    go_ret
    exact ⟨ret_bool (by rw [HR.out]; rfl), bwT⟩
  have q1 : (sx != sx2) = false := by have := H1.out; simp at this ⊢; exact this
  cases r2
  · have q2 : (pl != pl2) = true := by have := H2.out; simp at this ⊢; exact this
    go_wp2
    go_ret
    exact ⟨ret_bool (by rw [HR.out]; rfl), bwT⟩
  have q2 : (pl != pl2) = false := by have := H2.out; simp at this ⊢; exact this
  go_wp2_with fail
  refine (eqStepS_b _ _ _ fr fr2 (hfr.below bwT) (hfr2.below bwT) _ H3.out).mono ?_
  rintro e1 w1 ⟨rfl, hbw1⟩
  have hpw1 : Below w.heap.size w w1 := Below.after bwT hbw1 szT
  have sw1 := hpw1.size
  have hBw1 : Below w.heap.size w w1 := hpw1
  have l_a : w.heap.size < w1.heap.size := by have := hbw1.size; simp at this; omega
  have q_a0 : w1.cell? ⟨w.heap.size, 0, none⟩ = some (.string nm) := oldc hbw1 ltT (by simp [go_sem])
  have q_a1 : w1.cell? ⟨w.heap.size, 1, none⟩ = some (.int .i64 sx) := oldc hbw1 ltT (by simp [go_sem])
  have q_a2 : w1.cell? ⟨w.heap.size, 2, none⟩ = some (.int .i64 pl) := oldc hbw1 ltT (by simp [go_sem])
  have q_a3 : w1.cell? ⟨w.heap.size, 3, none⟩ = some (u3) := oldc hbw1 ltT (by simp [go_sem])
  have q_a4 : w1.cell? ⟨w.heap.size, 4, none⟩ = some (u4) := oldc hbw1 ltT (by simp [go_sem])
  have l_b : w.heap.size + 1 < w1.heap.size := by have := hbw1.size; simp at this; omega
  have q_b0 : w1.cell? ⟨w.heap.size + 1, 0, none⟩ = some (.string nm2) := oldc hbw1 ltT (by simp [go_sem])
  have q_b1 : w1.cell? ⟨w.heap.size + 1, 1, none⟩ = some (.int .i64 sx2) := oldc hbw1 ltT (by simp [go_sem])
  have q_b2 : w1.cell? ⟨w.heap.size + 1, 2, none⟩ = some (.int .i64 pl2) := oldc hbw1 ltT (by simp [go_sem])
  have q_b3 : w1.cell? ⟨w.heap.size + 1, 3, none⟩ = some (y3) := oldc hbw1 ltT (by simp [go_sem])
  have q_b4 : w1.cell? ⟨w.heap.size + 1, 4, none⟩ = some (y4) := oldc hbw1 ltT (by simp [go_sem])
  clear hbw1 hpw1
  cases r3
  · go_wp2
    go_ret
    exact ⟨ret_bool (by rw [HR.out]; rfl), hBw1⟩
  go_wp2_with fail
  refine (eqStepS_b _ _ _ tw tw2 (htw.below bwT) (htw2.below bwT) _ H4.out).mono ?_
  rintro e2 w2 ⟨rfl, hbw2⟩
  have hpw2 : Below w1.heap.size w1 w2 := Below.after bwT hbw2 szT
  have sw2 := hpw2.size
  have hBw2 : Below w.heap.size w w2 := Below.trans hBw1 (Below.mono hpw2 hBw1.size)
  have q_a0 := oldc hpw2 l_a q_a0
  have q_a1 := oldc hpw2 l_a q_a1
  have q_a2 := oldc hpw2 l_a q_a2
  have q_a3 := oldc hpw2 l_a q_a3
  have q_a4 := oldc hpw2 l_a q_a4
  have q_b0 := oldc hpw2 l_b q_b0
  have q_b1 := oldc hpw2 l_b q_b1
  have q_b2 := oldc hpw2 l_b q_b2
  have q_b3 := oldc hpw2 l_b q_b3
  have q_b4 := oldc hpw2 l_b q_b4
  have l_a := Nat.lt_of_lt_of_le l_a sw2
  have l_b := Nat.lt_of_lt_of_le l_b sw2
  clear hbw2 hpw2
  cases r4
  · go_wp2
    go_ret
    exact ⟨ret_bool (by rw [HR.out]; rfl), hBw2⟩
  go_wp2
  go_ret
  exact ⟨ret_bool (by rw [HR.out]; rfl), hBw2⟩

set_option maxRecDepth 20000 in
set_option maxHeartbeats 4000000 in
theorem szRule_any {z : Bool} {lo hi : Nat} (w : World) (u0 u1 u2 u3 u4 : Value) (x : Rul) (h : Rd z lo hi w [u0, u1, u2, u3, u4] x) (left : Int) (h0 : 0 ≤ left) (h1 : left ≤ 1048576) :
    Calls Try.prog 35 #[.agg #[u0, u1, u2, u3, u4], .int .i64 left] w (PostI w (if left < (szdRul x : Int) then -1 else left - (szdRul x : Int))) := by
  obtain ⟨nm, sx, pl, fr, tw⟩ := x
  obtain ⟨vfr, vtw, e1, gnm, gsx, gpl, hfr, htw⟩ := Rd.dRul h
  simp only [List.cons.injEq, and_true] at e1
  obtain ⟨rfl, rfl, rfl, rfl, rfl⟩ := e1
  unfold maxLen at *
  obtain ⟨R, hR⟩ : ∃ R : Int, R = if left < (szdRul (nm, sx, pl, fr, tw) : Int) then -1 else left - (szdRul (nm, sx, pl, fr, tw) : Int) := ⟨_, rfl⟩
  rw [← hR]
  have hS : szdRul (nm, sx, pl, fr, tw) = nm.size + fr.length + tw.length := rfl
  have HR := Lib.hid (show R = if left < ((nm.size + fr.length + tw.length : Nat) : Int) then -1 else left - ((nm.size + fr.length + tw.length : Nat) : Int) by rw [hR, hS])
  clear hR hS h
  go_enter Try.func35, Try.ntmps35
  have wnm_0 : wrap64 (left - (nm.size : Int)) = left - nm.size := IntWalk.wrap64_in _ (by omega)
  by_cases p0 : left < nm.size
  · have HF := Lib.hid (show R = -1 by rw [HR.out, if_pos (by omega)])
    have pn : left - (nm.size : Int) < 0 := by omega
    clear HR hfr htw 
    go_wp2
    go_ret
    exact ⟨ret_int HF.out.symm, bwT⟩
  have pn0 : ¬ left - (nm.size : Int) < 0 := by omega
  go_wp2_with fail
  refine (szStepS_any _ _ fr (hfr.below bwT) (left - (nm.size : Int)) (by omega) (by omega)).mono ?_
  rintro e3 w3 ⟨rfl, hbw3⟩
  have hpw3 : Below w.heap.size w w3 := Below.after bwT hbw3 szT
  have sw3 := hpw3.size
  have hBw3 : Below w.heap.size w w3 := hpw3
  have l_a : w.heap.size < w3.heap.size := by have := hbw3.size; simp at this; omega
  have q_a0 : w3.cell? ⟨w.heap.size, 0, none⟩ = some (.string nm) := oldc hbw3 ltT (by simp [go_sem])
  have q_a1 : w3.cell? ⟨w.heap.size, 1, none⟩ = some (.int .i64 sx) := oldc hbw3 ltT (by simp [go_sem])
  have q_a2 : w3.cell? ⟨w.heap.size, 2, none⟩ = some (.int .i64 pl) := oldc hbw3 ltT (by simp [go_sem])
  have q_a3 : w3.cell? ⟨w.heap.size, 3, none⟩ = some (u3) := oldc hbw3 ltT (by simp [go_sem])
  have q_a4 : w3.cell? ⟨w.heap.size, 4, none⟩ = some (u4) := oldc hbw3 ltT (by simp [go_sem])
  clear hbw3 hpw3
  by_cases p1 : (left - (nm.size : Int)) < fr.length
  · rw [if_pos p1]
    have HF := Lib.hid (show R = -1 by rw [HR.out, if_pos (by omega)])
    clear HR hfr htw 
    go_wp2
    go_ret
    exact ⟨ret_int HF.out.symm, hBw3⟩
  rw [if_neg p1]
  have pn1 : ¬ (left - (nm.size : Int)) - (fr.length : Int) < 0 := by omega
  obtain ⟨l1, hl1⟩ : ∃ l : Int, l = (left - (nm.size : Int)) - (fr.length : Int) := ⟨_, rfl⟩
  rw [← hl1]
  rw [← hl1] at pn1
  have hL1 := Lib.hid hl1
  have ha1 : 0 ≤ l1 := by omega
  have hb1 : l1 ≤ 1048576 := by omega
  clear hl1
  go_wp2_with fail
  refine (szStepS_any _ _ tw (htw.below bwT) l1 (by omega) (by omega)).mono ?_
  rintro e4 w4 ⟨rfl, hbw4⟩
  have hpw4 : Below w3.heap.size w3 w4 := Below.after bwT hbw4 szT
  have sw4 := hpw4.size
  have hBw4 : Below w.heap.size w w4 := Below.trans hBw3 (Below.mono hpw4 hBw3.size)
  have q_a0 := oldc hpw4 l_a q_a0
  have q_a1 := oldc hpw4 l_a q_a1
  have q_a2 := oldc hpw4 l_a q_a2
  have q_a3 := oldc hpw4 l_a q_a3
  have q_a4 := oldc hpw4 l_a q_a4
  have l_a := Nat.lt_of_lt_of_le l_a sw4
  clear hbw4 hpw4
  by_cases p2 : l1 < tw.length
  · rw [if_pos p2]
    have HF := Lib.hid (show R = -1 by have := hL1.out; rw [HR.out, if_pos (by omega)])
    clear HR hfr htw 
    go_wp2
    go_ret
    exact ⟨ret_int HF.out.symm, hBw4⟩
  rw [if_neg p2]
  have pn2 : ¬ l1 - (tw.length : Int) < 0 := by omega
  have HF := Lib.hid (show R = l1 - (tw.length : Int) by have := hL1.out; rw [HR.out, if_neg (by omega)]; omega)
  clear HR hfr htw 
  go_wp2
  go_ret
  exact ⟨ret_int HF.out.symm, hBw4⟩

/-- An owned item comes back. -/
def PostDRul (w : World) (x : Rul) (e : Ending) (w' : World) : Prop := ∃ (u0 u1 u2 u3 u4 : Value), e = .returned (.agg #[u0, u1, u2, u3, u4]) ∧ Ow w.heap.size w'.heap.size w' [u0, u1, u2, u3, u4] x ∧ Below w.heap.size w w'
set_option maxRecDepth 20000 in
set_option maxHeartbeats 4000000 in
theorem toRule_any {z : Bool} {lo hi : Nat} (w : World) (u0 u1 u2 u3 u4 : Value) (nm : ByteArray) (sx : Int) (pl : Int) (fr : List Stp) (tw : List Stp) (h : Rd z lo hi w [u0, u1, u2, u3, u4] ((nm, sx, pl, fr, tw) : Rul)) (lfr : fr.length ≤ 1048576) (ltw : tw.length ≤ 1048576) :
    Calls Try.prog 40 #[.agg #[u0, u1, u2, u3, u4]] w (PostDRul w (nm, sx, pl, fr, tw)) := by
  obtain ⟨vfr, vtw, e1, gnm, gsx, gpl, hfr, htw⟩ := Rd.dRul h
  simp only [List.cons.injEq, and_true] at e1
  obtain ⟨rfl, rfl, rfl, rfl, rfl⟩ := e1
  have Gnm := Lib.hid gnm
  have Gsx := Lib.hid gsx
  have Gpl := Lib.hid gpl
  clear h gnm gsx gpl
  go_enter Try.func40, Try.ntmps40
  go_wp2_with fail
  refine (toStepS_any _ _ _ (hfr.below (by go_grown)) lfr).mono ?_
  rintro e w1 ⟨tfr, rfl, how1, hb1⟩
  obtain ⟨ao1, n1, cap1, rfl, -⟩ := how1.rd.shape
  have hB1 : Below w.heap.size w w1 := Below.after (by go_grown) hb1 (by simp; omega)
  have s1 := hb1.size
  obtain ⟨hc1, hf1⟩ := bcell hb1
  simp only [World.size_alloc, World.size_setCell] at how1 s1 hc1 hf1
  obtain ⟨a10, a11, a12⟩ : w.heap.size < w1.heap.size ∧ w.heap.size + 1 < w1.heap.size ∧ w.heap.size + 1 + 1 < w1.heap.size := by omega
  go_wp2_with fail
  refine (toStepS_any _ _ _ (htw.below (by go_grown)) ltw).mono ?_
  rintro e w2 ⟨ttw, rfl, how2, hb2⟩
  obtain ⟨ao2, n2, cap2, rfl, -⟩ := how2.rd.shape
  have hB2 : Below w.heap.size w w2 := Below.after (by go_grown) hb2 (by simp; omega)
  have s2 := hb2.size
  obtain ⟨hc2, hf2⟩ := bcell hb2
  simp only [World.size_alloc, World.size_setCell] at how2 s2 hc2 hf2
  obtain ⟨a20, a21, a22⟩ : w.heap.size < w2.heap.size ∧ w.heap.size + 1 < w2.heap.size ∧ w.heap.size + 1 + 1 < w2.heap.size := by omega
  have how1 := how1.keep (((Zone.refl _ _ _).setCell (.inl (by simp)) _).below hb2 (by simp))
  have HO := Lib.hid (show Ow (w.heap.size + 1 + 1 + 1) w2.heap.size w2 [.string nm, .int .i64 sx, .int .i64 pl, .slice ao1 n1 cap1, .slice ao2 n2 cap2] (((nm, sx, pl, fr, tw)) : Rul) from Ow.pair (c1 := [.string nm]) (Ow.flat0 (x := nm) (cs := [.string nm]) (show Rep.rep true w [Value.string nm] nm [] from ⟨rfl, Gnm.out, rfl⟩) (w.heap.size + 1 + 1 + 1) w2) (Ow.pair (c1 := [.int .i64 sx]) (Ow.flat0 (x := sx) (cs := [.int .i64 sx]) (show Rep.rep true w [Value.int .i64 sx] sx [] from ⟨rfl, Gsx.out, rfl⟩) (w.heap.size + 1 + 1 + 1) w2) (Ow.pair (c1 := [.int .i64 pl]) (Ow.flat0 (x := pl) (cs := [.int .i64 pl]) (show Rep.rep true w [Value.int .i64 pl] pl [] from ⟨rfl, Gpl.out, rfl⟩) (w.heap.size + 1 + 1 + 1) w2) (Ow.pair how1 how2 (.inl (Nat.le_refl _)) (l := w.heap.size + 1 + 1 + 1) (h := w2.heap.size) (by omega) (by omega) (by omega) (by omega)) (.inl (Nat.le_refl _)) (l := w.heap.size + 1 + 1 + 1) (h := w2.heap.size) (by omega) (by omega) (by omega) (by omega)) (.inl (Nat.le_refl _)) (l := w.heap.size + 1 + 1 + 1) (h := w2.heap.size) (by omega) (by omega) (by omega) (by omega)) (.inl (Nat.le_refl _)) (l := w.heap.size + 1 + 1 + 1) (h := w2.heap.size) (by omega) (by omega) (by omega) (by omega))
  clear how1 hb1 how2 hb2 hfr htw 
  go_wp2
  exact bodyPost_ret (v := .agg #[.string nm, .int .i64 sx, .int .i64 pl, .slice ao1 n1 cap1, .slice ao2 n2 cap2]) (by simp [results, Try.results40, go_sem, hc1, hc2, a10, a11, a12, a20, a21, a22]) rfl ⟨_, _, _, _, _, rfl, (HO.out.keep znT).top.mono (by omega) (by simp), bwT⟩

set_option maxRecDepth 20000 in
set_option maxHeartbeats 4000000 in
theorem toRuleS_any {z : Bool} {lo hi : Nat} (w : World) (v : Value) (xs : List Rul) (h : Rd z lo hi w [v] xs) (hl0 : sszRul xs ≤ 1048576) :
    Calls Try.prog 9 #[v] w (PostOw w xs) := by
  have hl : xs.length + lenBy szdRul xs ≤ 1048576 := hl0
  clear hl0
  obtain ⟨ao, n, cap, rfl, rfl, hnc, hcm, hnone⟩ := h.shape
  unfold maxLen at *
  have HLN := Lib.hid (show ∀ x ∈ xs, szdRul x ≤ 1048576 from fun x hx => by have := lenBy_mem (cnt := szdRul) hx; omega)
  have hl2 : xs.length ≤ 1048576 := by omega
  clear hl
  go_enter Try.func9, Try.ntmps9
  go_wp2_with (at_make; refine wpList_mk (α := Rul) rfl rfl slRule (y0 := (ByteArray.empty, 0, 0, [], [])) (fun _ => dRul_zero _) rfl rfl rfl rfl (by omega) (by unfold maxLen; omega) ?_; intro w1 how hb1 hlt)
  go_loopw [4] (fun i wr => ∃ k : Nat, k ≤ xs.length ∧ i = .int .i64 k ∧ Hid (Ow w.heap.size wr.heap.size wr [.slice (some ⟨w.heap.size, 0, none⟩) xs.length xs.length] (xs.take k ++ List.replicate (xs.length - k) (ByteArray.empty, 0, 0, [], []))) ∧ Below w.heap.size w wr ∧ w.heap.size < wr.heap.size) (fun i _ => xs.length - (intOf i).toNat)
  case atStart => exact ⟨0, Nat.zero_le _, rfl, Lib.hid (by simpa using how.top), hb1, hlt⟩
  case round =>
    rename_i wr
    obtain ⟨k, hk, rfl, how', hb, hlt2⟩ := hrel
    have sW := hb.size
    clear how hb1 hlt
    by_cases hlt : k < xs.length
    · obtain ⟨b, off, nm, sx, pl, fr, tw, vfr, vtw, rfl, hx, p0, p1, p2, p3, p4, -, -, -, -, -, hri, -, -, hbl⟩ := (h.below hb).dRul_at hlt
      have hI : (k : Int) < (xs.length : Int) := by omega
      have HZ := Lib.hid (HLN.out _ (List.mem_of_getElem? hx.out))
      have HX := Lib.hid (take_rep_snoc (y0 := ((ByteArray.empty, 0, 0, [], []) : Rul)) hx.out)
      clear hx h
      go_wp2_with fail
      refine (toRule_any _ _ _ _ _ _ nm sx pl fr tw hri (by have := HZ.out; unfold szdRul at this; dsimp only at this; omega) (by have := HZ.out; unfold szdRul at this; dsimp only at this; omega)).mono ?_
      rintro e w2 ⟨u0, u1, u2, u3, u4, rfl, how2, hb2⟩
      obtain ⟨tfr, ttw, eu, -, -, -, gfr, gtw⟩ := Rd.dRul how2.rd
      simp only [List.cons.injEq, and_true] at eu
      obtain ⟨rfl, rfl, rfl, rfl, rfl⟩ := eu
      obtain ⟨ao3, n3, cap3, rfl, -⟩ := gfr.shape
      obtain ⟨ao4, n4, cap4, rfl, -⟩ := gtw.shape
      clear gfr gtw
      have hB2 : Below w.heap.size w w2 := Below.after hb hb2 sW
      have s2 := hb2.size
      have how3 := how'.out.below hb2
      obtain ⟨_, _, nm0, sx0, pl0, fr0, tw0, vfr0, vtw0, ee, -, q0, q1, q2, q3, q4, -, -, -, -, -, -, -, -, hbl2⟩ := how3.rd.dRul_at hlt
      simp only [Option.some.injEq, Addr.mk.injEq, and_true] at ee
      obtain ⟨rfl, rfl⟩ := ee
      have hf2 : ∀ o, w2.frozen? ⟨w.heap.size, o, none⟩ = false := how3.frz hlt
      simp only [Nat.zero_add] at q0 q1 q2 q3 q4
      have HW := Lib.hid (show Ow w.heap.size w2.heap.size (((((w2.setCell ⟨w.heap.size, k * 5, none⟩ (.string nm)).setCell ⟨w.heap.size, k * 5 + 1, none⟩ (.int .i64 sx)).setCell ⟨w.heap.size, k * 5 + 2, none⟩ (.int .i64 pl)).setCell ⟨w.heap.size, k * 5 + 3, none⟩ (.slice ao3 n3 cap3)).setCell ⟨w.heap.size, k * 5 + 4, none⟩ (.slice ao4 n4 cap4)) [.slice (some ⟨w.heap.size, 0, none⟩) xs.length xs.length] ((xs.take k ++ List.replicate (xs.length - k) (ByteArray.empty, 0, 0, [], [])).set k (nm, sx, pl, fr, tw)) from
        Ow.put_new (i := k) (off := 0) (how3) hlt how2 (Nat.le_refl _) s2 (by omega) ((((((Wr.refl w.heap.size (0 + k * 5) 5 w2).setCell (p := k * 5) (by omega) (by omega) (.string nm)).setCell (p := k * 5 + 1) (by omega) (by omega) (.int .i64 sx)).setCell (p := k * 5 + 2) (by omega) (by omega) (.int .i64 pl)).setCell (p := k * 5 + 3) (by omega) (by omega) (.slice ao3 n3 cap3)).setCell (p := k * 5 + 4) (by omega) (by omega) (.slice ao4 n4 cap4)) (by
          intro j c hj
          match j, hj with
          | 0, hj => simp at hj; subst hj; simp only [Nat.zero_add, Rep.sz, Nat.reduceAdd, Nat.add_zero]; exact (cell_there (cell_there (cell_there (cell_there (cell_here q0) (by omega)) (by omega)) (by omega)) (by omega))
          | 1, hj => simp at hj; subst hj; simp only [Nat.zero_add, Rep.sz, Nat.reduceAdd, Nat.add_zero]; exact (cell_there (cell_there (cell_there (cell_here (cell_there q1 (by omega))) (by omega)) (by omega)) (by omega))
          | 2, hj => simp at hj; subst hj; simp only [Nat.zero_add, Rep.sz, Nat.reduceAdd, Nat.add_zero]; exact (cell_there (cell_there (cell_here (cell_there (cell_there q2 (by omega)) (by omega))) (by omega)) (by omega))
          | 3, hj => simp at hj; subst hj; simp only [Nat.zero_add, Rep.sz, Nat.reduceAdd, Nat.add_zero]; exact (cell_there (cell_here (cell_there (cell_there (cell_there q3 (by omega)) (by omega)) (by omega))) (by omega))
          | 4, hj => simp at hj; subst hj; simp only [Nat.zero_add, Rep.sz, Nat.reduceAdd, Nat.add_zero]; exact (cell_here (cell_there (cell_there (cell_there (cell_there q4 (by omega)) (by omega)) (by omega)) (by omega)))
          ))
      rw [HX.out] at HW
      have hbW : Below w.heap.size w (((((w2.setCell ⟨w.heap.size, k * 5, none⟩ (.string nm)).setCell ⟨w.heap.size, k * 5 + 1, none⟩ (.int .i64 sx)).setCell ⟨w.heap.size, k * 5 + 2, none⟩ (.int .i64 pl)).setCell ⟨w.heap.size, k * 5 + 3, none⟩ (.slice ao3 n3 cap3)).setCell ⟨w.heap.size, k * 5 + 4, none⟩ (.slice ao4 n4 cap4)) := bwT
      clear how2 how3 how' p0 p1 p2 p3 p4 hb2 HX hri
      go_wp2
      go_roundw
      case rel => exact ⟨k + 1, by omega, by go_num, Lib.hid (HW.out.mono (Nat.le_refl _) (by simp)), hbW, by simp; omega⟩
      case measure => simp [intOf]; omega
    · have e : k = xs.length := by omega
      subst e
      have HS := Lib.hid how'.out
      clear how' h
      go_wp2
      go_ret
      exact ⟨_, rfl, by simpa using HS.out, hb⟩

set_option maxRecDepth 20000 in
set_option maxHeartbeats 4000000 in
theorem szRuleS_any {z : Bool} {lo hi : Nat} (w : World) (v : Value) (xs : List Rul) (h : Rd z lo hi w [v] xs) (left : Int) (h0 : 0 ≤ left) (h1 : left ≤ 1048576) :
    Calls Try.prog 7 #[v, .int .i64 left] w (PostI w (if left < (sszRul xs : Int) then -1 else left - (sszRul xs : Int))) := by
  show Calls Try.prog 7 #[v, .int .i64 left] w (PostI w (if left < (xs.length + lenBy szdRul xs : Nat) then -1 else left - (xs.length + lenBy szdRul xs : Nat)))
  obtain ⟨ao, n, cap, rfl, rfl, hnc, hcm, hnone⟩ := h.shape
  unfold maxLen at *
  obtain ⟨R, hR⟩ : ∃ R : Int, R = if left < (xs.length + lenBy szdRul xs : Nat) then -1 else left - (xs.length + lenBy szdRul xs : Nat) := ⟨_, rfl⟩
  rw [← hR]
  have HR := Lib.hid hR
  clear hR
  have q : wrap64 (left - (xs.length : Int)) = left - xs.length := IntWalk.wrap64_in _ (by omega)
  by_cases hlt : left < xs.length
  · have HF := Lib.hid (show R = -1 by rw [HR.out, if_pos (by omega)])
    clear HR h
    go_enter Try.func7, Try.ntmps7
    go_wp2
    go_ret
    exact ⟨ret_int HF.out.symm, Below.refl _ _⟩
  · have hge : ¬ left - (xs.length : Int) < 0 := by omega
    go_enter Try.func7, Try.ntmps7
    go_wp2
    go_loopw [1, 5] (fun s1 s5 wr => ∃ (k : Nat) (l : Int), k ≤ xs.length ∧ s5 = .int .i64 k ∧ s1 = .int .i64 l ∧ Hid (l = left - xs.length - lenBy szdRul (xs.take k)) ∧ 0 ≤ l ∧ l ≤ 1048576 ∧ Below w.heap.size w wr) (fun _ s5 _ => xs.length - (intOf s5).toNat)
    case atStart => exact ⟨0, _, Nat.zero_le _, rfl, rfl, Lib.hid (by simp [lenBy]), by omega, by omega, Below.refl _ _⟩
    case round =>
      rename_i wr
      obtain ⟨k, l, hk, rfl, rfl, hl, hl0, hl1, hb⟩ := hrel
      have sW := hb.size
      by_cases hltk : k < xs.length
      · obtain ⟨b, off, nm, sx, pl, fr, tw, vfr, vtw, rfl, hx, c0, c1, c2, c3, c4, -, -, -, -, -, hri, -, -, hbl⟩ := (h.below hb).dRul_at hltk
        have hI : (k : Int) < (xs.length : Int) := by omega
        have hle := lenBy_le szdRul xs (k + 1)
        rw [lenBy_take hx.out] at hle
        have HT := Lib.hid (lenBy_take (cnt := szdRul) hx.out)
        have HLE := Lib.hid hle
        clear hle
        go_wp2_with fail
        refine (szRule_any _ _ _ _ _ _ (nm, sx, pl, fr, tw) hri l hl0 hl1).mono ?_
        rintro e w1 ⟨rfl, hb1⟩
        have hB1 : Below w.heap.size w w1 := Below.after hb hb1 sW
        obtain ⟨S, hS⟩ : ∃ S, S = szdRul (nm, sx, pl, fr, tw) := ⟨_, rfl⟩
        rw [← hS] at HT HLE ⊢
        clear hx hri hS c0 c1 c2 c3 c4
        by_cases hneg : l < S
        · rw [if_pos hneg]
          have HF := Lib.hid (show R = -1 by rw [HR.out, if_pos]; have := hl.out; have := HLE.out; omega)
          clear HR hl HT h HLE
          go_wp2
          go_ret
          exact ⟨ret_int HF.out.symm, hB1⟩
        · rw [if_neg hneg]
          have hge2 : ¬ l - (S : Int) < 0 := by omega
          have HL := Lib.hid (show l - (S : Int) = left - xs.length - lenBy szdRul (xs.take (k + 1)) by have := hl.out; have := HT.out; omega)
          clear hl HT h HLE
          go_wp2
          go_roundw
          case rel => exact ⟨k + 1, _, by omega, by go_num, rfl, HL, by omega, by omega, hB1⟩
          case measure => simp [intOf]; omega
      · have HF := Lib.hid (show l = R by
          have h2 := hl.out
          rw [List.take_of_length_le (by omega)] at h2
          rw [HR.out, if_neg (by omega)]; omega)
        clear h hl HR
        go_wp2
        go_ret
        exact ⟨ret_int HF.out, hb⟩

set_option maxRecDepth 20000 in
set_option maxHeartbeats 4000000 in
theorem eqRuleS_b {z z' : Bool} {lo hi lo' hi' : Nat} (w : World) (u v : Value) (xs ys : List Rul) (h : Rd z lo hi w [u] xs) (h' : Rd z' lo' hi' w [v] ys) (r : Bool) (hr : r = decide (xs = ys)) :
    Calls Try.prog 11 #[u, v] w (PostB w r) := by
  subst hr
  obtain ⟨ao, n, cap, rfl, rfl, hnc, hcm, hnone⟩ := h.shape
  obtain ⟨ao', n', cap', rfl, rfl, hnc', hcm', hnone'⟩ := h'.shape
  unfold maxLen at *
  by_cases hl : xs.length = ys.length
  · have HL := Lib.hid hl
    have hl1 : ¬ xs.length < ys.length := by omega
    have hl2 : ¬ ys.length < xs.length := by omega
    have hbne : (((xs.length : Int)) != (ys.length : Int)) = false := by simp [hl]
    clear hl
    go_enter Try.func11, Try.ntmps11
    go_wp2
    go_loopw [5] (fun i wr => ∃ k : Nat, k ≤ xs.length ∧ i = .int .i64 k ∧ Hid (xs.take k = ys.take k) ∧ Below w.heap.size w wr) (fun i _ => xs.length - (intOf i).toNat)
    case atStart => exact ⟨0, Nat.zero_le _, rfl, rfl, Below.refl _ _⟩
    case round =>
      rename_i wr
      obtain ⟨k, hk, rfl, ht, hb⟩ := hrel
      have sW := hb.size
      by_cases hlt : k < xs.length
      · obtain ⟨b, off, nm, sx, pl, fr, tw, vfr, vtw, rfl, hx, p0, p1, p2, p3, p4, -, -, -, -, -, hri, -, -, hbl⟩ := (h.below hb).dRul_at hlt
        obtain ⟨b2, off2, nm2, sx2, pl2, fr2, tw2, vfr2, vtw2, rfl, hy, q0, q1, q2, q3, q4, -, -, -, -, -, hri2, -, -, hbl2⟩ := (h'.below hb).dRul_at (show k < ys.length by omega)
        have hlt' : k < ys.length := by omega
        have hI : (k : Int) < (xs.length : Int) := by omega
        have hI' : (k : Int) < (ys.length : Int) := by omega
        clear h h'
        obtain ⟨r1, hlet_r1⟩ : ∃ r, r = decide (((nm, sx, pl, fr, tw) : Rul) = (nm2, sx2, pl2, fr2, tw2)) := ⟨_, rfl⟩
        have H1 := Lib.hid hlet_r1
        clear hlet_r1
        have HT := Lib.hid (show r1 = true → xs.take (k + 1) = ys.take (k + 1) by
          intro e
          have e2 := of_decide_eq_true (H1.out.symm.trans e)
          rw [take_snoc hx.out, take_snoc hy.out, ht.out, e2])
        have HF := Lib.hid (show r1 = false → decide (xs = ys) = false by
          intro e
          have e2 := of_decide_eq_false (H1.out.symm.trans e)
          rw [decide_eq_false_iff_not]
          intro e3; subst e3
          have := hx.out.symm.trans hy.out
          exact e2 (Option.some.inj this))
        clear ht hx hy
        go_upto_region 6 with fail
        go_region_held3 (fun w' => w'.cell? ⟨b, off + k * 5, none⟩ = some (.string nm) ∧ w'.cell? ⟨b, off + k * 5 + 1, none⟩ = some (.int .i64 sx) ∧ w'.cell? ⟨b, off + k * 5 + 2, none⟩ = some (.int .i64 pl) ∧ w'.cell? ⟨b, off + k * 5 + 3, none⟩ = some (vfr) ∧ w'.cell? ⟨b, off + k * 5 + 4, none⟩ = some (vtw) ∧ w'.cell? ⟨b2, off2 + k * 5, none⟩ = some (.string nm2) ∧ w'.cell? ⟨b2, off2 + k * 5 + 1, none⟩ = some (.int .i64 sx2) ∧ w'.cell? ⟨b2, off2 + k * 5 + 2, none⟩ = some (.int .i64 pl2) ∧ w'.cell? ⟨b2, off2 + k * 5 + 3, none⟩ = some (vfr2) ∧ w'.cell? ⟨b2, off2 + k * 5 + 4, none⟩ = some (vtw2)) (go_keep) (first | (go_at_call 43; refine (eqRule_b _ _ _ _ _ _ _ _ _ _ _ (nm, sx, pl, fr, tw) (nm2, sx2, pl2, fr2, tw2) (hri.below bwT) (hri2.below bwT) r1 H1.out).mono ?_; rintro e w1 ⟨rfl, hb1⟩; have hB1 : Below w.heap.size w w1 := Below.after bwT hb1 (by first | omega | (simp; omega) | simp); obtain ⟨hc1, hf1⟩ := bcell hb1; (try simp only [World.size_alloc, World.size_drew] at hc1 hf1)))
        cases r1
        · go_wp2
          go_ret
          exact ⟨ret_bool (HF.out (by trivial)).symm, hB1⟩
        · have HT2 := Lib.hid (HT.out (by trivial))
          go_wp2
          go_roundw
          case rel => exact ⟨k + 1, by omega, by go_num, HT2, hB1⟩
          case measure => simp [intOf]; omega
      · have HF : Hid (decide (xs = ys) = true) := by
          have e := ht.out
          rw [List.take_of_length_le (by omega), List.take_of_length_le (by omega)] at e
          exact decide_eq_true e
        clear h h' ht
        go_wp2
        go_ret
        exact ⟨ret_bool HF.out.symm, hb⟩
  · have HF : Hid (decide (xs = ys) = false) := by
      simp only [decide_eq_false_iff_not]
      intro e; subst e; exact hl rfl
    have hbne : (((xs.length : Int)) != (ys.length : Int)) = true := by simp; omega
    clear hl h h'
    go_enter Try.func11, Try.ntmps11
    go_wp2
    go_ret
    exact ⟨ret_bool HF.out.symm, Below.refl _ _⟩

set_option maxRecDepth 20000 in
set_option maxHeartbeats 8000000 in
theorem markRuleS_any (w : World) (v : Value) (xs : List Rul) (fp : List Nat) (h : Rep.rep true w [v] xs fp) (hn : fp.Nodup) (k : Int) (hk0 : 0 ≤ k) (hk1 : k + lenBy cntRul xs ≤ 1000000000) :
    Calls Try.prog 24 #[v, .int .i64 k] w (PostMark fp w [v] (marksBy cntRul mkdRul k xs) (k + lenBy cntRul xs)) := by
  have hR : Rd true 0 w.heap.size w [v] xs := ⟨fp, h, fun b hb => ⟨Nat.zero_le _, Rep.lt h b hb⟩⟩
  obtain ⟨ao, n, cap, rfl, rfl, hnc, hcm, hnone⟩ := hR.shape
  clear hR
  unfold maxLen at *
  have HND := Lib.hid hn
  have HK1 := Lib.hid hk1
  clear hk1 hn
  go_enter Try.func24, Try.ntmps24
  go_wp2
  go_loopw [1, 5] (fun s1 s5 wr => ∃ (j : Nat) (q : Int), j ≤ xs.length ∧ s5 = .int .i64 j ∧ s1 = .int .i64 q ∧ Hid (q = k + lenBy cntRul (xs.take j)) ∧ Hid (Rep.rep true wr [.slice ao xs.length cap] ((marksBy cntRul mkdRul k xs).take j ++ xs.drop j) fp) ∧ Hid (OffF fp w wr)) (fun _ s5 _ => xs.length - (intOf s5).toNat)
  case atStart => exact ⟨0, k, Nat.zero_le _, rfl, rfl, Lib.hid (by simp [lenBy]), Lib.hid (by simpa using h), Lib.hid (OffF.refl _ _)⟩
  case round =>
    obtain ⟨j, q, hj, rfl, rfl, hq, hr, ho⟩ := hrel
    clear h
    by_cases hlt : j < xs.length
    · have hI : (j : Int) < (xs.length : Int) := by omega
      obtain ⟨⟨nm, sx, pl, fr, tw⟩, hx0⟩ : ∃ x, xs[j]? = some x := ⟨_, List.getElem?_eq_getElem hlt⟩
      have hcur := (marksBy_cur (cnt := cntRul) (mk := mkdRul) (k := k) hlt).trans hx0
      have HSTEP := Lib.hid (marksBy_step (cnt := cntRul) (mk := mkdRul) (k := k) hx0)
      rw [← hq.out] at HSTEP
      have hT := lenBy_take (cnt := cntRul) hx0
      have hle := lenBy_le cntRul xs (j + 1)
      have hcx : cntRul (nm, sx, pl, fr, tw) = 3 + 2 * fr.length + 2 * tw.length := rfl
      rw [hT, hcx] at hle
      rw [hcx] at hT
      have hq0 : 0 ≤ q := by have := hq.out; omega
      have hq1 : q + 3 + 2 * fr.length + 2 * tw.length ≤ 1000000000 := by have := hq.out; have := HK1.out; omega
      have HQ := Lib.hid (show q + 3 + 2 * fr.length + 2 * tw.length = k + lenBy cntRul (xs.take (j + 1)) by have := hq.out; omega)
      obtain ⟨L, hL⟩ : ∃ L, L = (marksBy cntRul mkdRul k xs).take j ++ xs.drop j := ⟨_, rfl⟩
      rw [← hL] at hcur HSTEP hr
      have HC0 := Lib.hid hcur
      have hLl : j < L.length := (List.getElem?_eq_some_iff.1 hcur).1
      have HLL := Lib.hid hLl
      clear hx0 hcur hL hT hle hcx hq hLl
      obtain ⟨b, off, x1, cs1, f1, rfl, hx1, hp1, hfn1, -, hbb1, hc1, hff1, hback1⟩ := rep_item hr.out HND.out hlt
      have hx1 := Option.some.inj (hx1.out.symm.trans HC0.out)
      subst hx1
      obtain ⟨vfr_1, vtw_1, gfr_1, gtw_1, rfl, hnm_1, hsx_1, hpl_1, hfr_1, htw_1, rfl⟩ := dRul_inv hp1
      have p0 : wr.cell? ⟨b, off + j * 5, none⟩ = some (.string nm) := by have := hc1 0 (.string nm) rfl; simpa [Rep.sz, Nat.add_assoc] using this
      have p1 : wr.cell? ⟨b, off + j * 5 + 1, none⟩ = some (.int .i64 sx) := by have := hc1 1 (.int .i64 sx) rfl; simpa [Rep.sz, Nat.add_assoc] using this
      have p2 : wr.cell? ⟨b, off + j * 5 + 2, none⟩ = some (.int .i64 pl) := by have := hc1 2 (.int .i64 pl) rfl; simpa [Rep.sz, Nat.add_assoc] using this
      have p3 : wr.cell? ⟨b, off + j * 5 + 3, none⟩ = some (vfr_1) := by have := hc1 3 (vfr_1) rfl; simpa [Rep.sz, Nat.add_assoc] using this
      have p4 : wr.cell? ⟨b, off + j * 5 + 4, none⟩ = some (vtw_1) := by have := hc1 4 (vtw_1) rfl; simpa [Rep.sz, Nat.add_assoc] using this
      have hfz : ∀ o, wr.frozen? ⟨b, o, none⟩ = false := rep_frz hr.out (by omega)
      have hblt : b < wr.heap.size := hbb1
      have HPfr_1 := Lib.hid hfr_1
      have HPtw_1 := Lib.hid htw_1
      have HQnm_1 := Lib.hid hnm_1
      have HQsx_1 := Lib.hid hsx_1
      have HQpl_1 := Lib.hid hpl_1
      have HFS1 := Lib.hid hff1
      have HN1 := Lib.hid hfn1
      clear hp1 hfn1 hc1 hff1 hnm_1 hsx_1 hpl_1 hfr_1 htw_1
      have hm := Lib.hid (rep_head hr.out (by omega))
      have hms0 : (markTxt (q).toNat).size ≤ maxLen := by have := markTxt_size (q).toNat; unfold maxLen; omega
      have HMS0 := Lib.hid hms0
      clear hms0
      go_wp2_with fail
      refine (markText_int _ (q) (by omega) (by omega)).mono ?_
      rintro e wm1 ⟨rfl, hbwm1⟩
      have hrm := Lib.hid (Rep.keep hr.out (fun b hb => (hbwm1).block b (Rep.lt hr.out b hb)))
      have hom := Lib.hid (ho.out.below hbwm1)
      clear hbwm1 hfz hblt hback1 p0 p1 p2 p3 p4
      obtain ⟨b2, off2, x2, cs2, f2, eb2, hx2, hp2, hfn2, -, hbb2, hc2, hff2, hback2⟩ := rep_item hrm.out HND.out hlt
      simp only [Option.some.injEq, Addr.mk.injEq, and_true] at eb2
      obtain ⟨rfl, rfl⟩ := eb2
      have hx2 := Option.some.inj (hx2.out.symm.trans HC0.out)
      subst hx2
      obtain ⟨vfr_2, vtw_2, gfr_2, gtw_2, rfl, hnm_2, hsx_2, hpl_2, hfr_2, htw_2, rfl⟩ := dRul_inv hp2
      have p0 : wm1.cell? ⟨b, off + j * 5, none⟩ = some (.string nm) := by have := hc2 0 (.string nm) rfl; simpa [Rep.sz, Nat.add_assoc] using this
      have p1 : wm1.cell? ⟨b, off + j * 5 + 1, none⟩ = some (.int .i64 sx) := by have := hc2 1 (.int .i64 sx) rfl; simpa [Rep.sz, Nat.add_assoc] using this
      have p2 : wm1.cell? ⟨b, off + j * 5 + 2, none⟩ = some (.int .i64 pl) := by have := hc2 2 (.int .i64 pl) rfl; simpa [Rep.sz, Nat.add_assoc] using this
      have p3 : wm1.cell? ⟨b, off + j * 5 + 3, none⟩ = some (vfr_2) := by have := hc2 3 (vfr_2) rfl; simpa [Rep.sz, Nat.add_assoc] using this
      have p4 : wm1.cell? ⟨b, off + j * 5 + 4, none⟩ = some (vtw_2) := by have := hc2 4 (vtw_2) rfl; simpa [Rep.sz, Nat.add_assoc] using this
      have hfz : ∀ o, wm1.frozen? ⟨b, o, none⟩ = false := rep_frz hrm.out (by omega)
      have hblt : b < wm1.heap.size := hbb2
      have HPfr_2 := Lib.hid hfr_2
      have HPtw_2 := Lib.hid htw_2
      have HQnm_2 := Lib.hid hnm_2
      have HQsx_2 := Lib.hid hsx_2
      have HQpl_2 := Lib.hid hpl_2
      have HFS2 := Lib.hid hff2
      have HN2 := Lib.hid hfn2
      clear hp2 hfn2 hc2 hff2 hnm_2 hsx_2 hpl_2 hfr_2 htw_2
      have s1 := rep_setd hrm.out HND.out (i := j) (j := 0) (u := .string (markTxt (q).toNat)) (x := (nm, sx, pl, fr, tw)) (y := ((markTxt (q).toNat), sx, pl, fr, tw)) HC0.out (by show 0 < 5; omega) (fun cs f hr => by obtain ⟨vfr, vtw, ffr, ftw, rfl, hnm, hsx, hpl, hfr, htw, rfl⟩ := dRul_inv hr; exact dRul_mk HMS0.out hsx hpl hfr htw)
      simp only [show Rep.sz Rul = 5 from rfl, ← Nat.add_assoc, Nat.add_zero] at s1
      have S1 := Lib.hid s1
      clear s1
      have HC1 := Lib.hid (set_here (y := ((markTxt (q).toNat), sx, pl, fr, tw)) HC0.out)
      have O1 := Lib.hid (hom.out.setCell (p := ⟨b, off + j * 5, none⟩) hm.out (.string (markTxt (q).toNat)))
      have s2 := rep_setd S1.out HND.out (i := j) (j := 1) (u := .int .i64 (q + 1)) (x := ((markTxt (q).toNat), sx, pl, fr, tw)) (y := ((markTxt (q).toNat), (q + 1), pl, fr, tw)) HC1.out (by show 1 < 5; omega) (fun cs f hr => by obtain ⟨vfr, vtw, ffr, ftw, rfl, hnm, hsx, hpl, hfr, htw, rfl⟩ := dRul_inv hr; exact dRul_mk hnm (by unfold I64; omega) hpl hfr htw)
      simp only [show Rep.sz Rul = 5 from rfl, ← Nat.add_assoc, Nat.add_zero] at s2
      have S2 := Lib.hid s2
      clear s2
      have HC2 := Lib.hid (set_here (y := ((markTxt (q).toNat), (q + 1), pl, fr, tw)) HC1.out)
      have O2 := Lib.hid (O1.out.setCell (p := ⟨b, off + j * 5 + 1, none⟩) hm.out (.int .i64 (q + 1)))
      have s3 := rep_setd S2.out HND.out (i := j) (j := 2) (u := .int .i64 (q + 1 + 1)) (x := ((markTxt (q).toNat), (q + 1), pl, fr, tw)) (y := ((markTxt (q).toNat), (q + 1), (q + 1 + 1), fr, tw)) HC2.out (by show 2 < 5; omega) (fun cs f hr => by obtain ⟨vfr, vtw, ffr, ftw, rfl, hnm, hsx, hpl, hfr, htw, rfl⟩ := dRul_inv hr; exact dRul_mk hnm hsx (by unfold I64; omega) hfr htw)
      simp only [show Rep.sz Rul = 5 from rfl, ← Nat.add_assoc, Nat.add_zero] at s3
      have S3 := Lib.hid s3
      clear s3
      have HC3 := Lib.hid (set_here (y := ((markTxt (q).toNat), (q + 1), (q + 1 + 1), fr, tw)) HC2.out)
      have O3 := Lib.hid (O2.out.setCell (p := ⟨b, off + j * 5 + 2, none⟩) hm.out (.int .i64 (q + 1 + 1)))
      obtain ⟨b3, off3, x3, cs3, f3, eb3, hx3, hp3, hfn3, -, hbb3, hc3, hff3, hback3⟩ := rep_item S3.out HND.out hlt
      simp only [Option.some.injEq, Addr.mk.injEq, and_true] at eb3
      obtain ⟨rfl, rfl⟩ := eb3
      have hx3 := Option.some.inj (hx3.out.symm.trans HC3.out)
      subst hx3
      obtain ⟨vfr_3, vtw_3, gfr_3, gtw_3, rfl, hnm_3, hsx_3, hpl_3, hfr_3, htw_3, rfl⟩ := dRul_inv hp3
      have cc3 := hc3 3 vfr_3 rfl
      simp only [show Rep.sz Rul = 5 from rfl, ← Nat.add_assoc, Nat.add_zero] at cc3
      have ce3 := Option.some.inj (cc3.symm.trans (cell_there (cell_there (cell_there p3 (by omega)) (by omega)) (by omega)))
      subst ce3
      clear cc3
      have cc4 := hc3 4 vtw_3 rfl
      simp only [show Rep.sz Rul = 5 from rfl, ← Nat.add_assoc, Nat.add_zero] at cc4
      have ce4 := Option.some.inj (cc4.symm.trans (cell_there (cell_there (cell_there p4 (by omega)) (by omega)) (by omega)))
      subst ce4
      clear cc4
      have HPfr_3 := Lib.hid hfr_3
      have HPtw_3 := Lib.hid htw_3
      have HQnm_3 := Lib.hid hnm_3
      have HQsx_3 := Lib.hid hsx_3
      have HQpl_3 := Lib.hid hpl_3
      have HFS3 := Lib.hid hff3
      have HN3 := Lib.hid hfn3
      clear hp3 hfn3 hc3 hff3 hnm_3 hsx_3 hpl_3 hfr_3 htw_3
      go_wp2_with fail
      refine (markStepS_any _ _ fr gfr_3 HPfr_3.out (q + 1 + 1 + 1) (by omega) (by omega)).mono ?_
      rintro e wm2 ⟨rfl, hpm, hom⟩
      have S4 := Lib.hid (hback3.out wm2 ((markTxt (q).toNat), (q + 1), (q + 1 + 1), (marksStp (q + 1 + 1 + 1) fr.length), tw) (dRul_mk HQnm_3.out HQsx_3.out HQpl_3.out hpm (Rep.keep HPtw_3.out (fun i hi => hom.block i (Rep.lt HPtw_3.out i hi) (by have hnd := HN3.out; simp only [List.nodup_append] at hnd; intro hm2; first | exact hnd.2.2 _ hi _ hm2 rfl | exact hnd.2.2 _ hm2 _ hi rfl)))) (hom.mono (fun i hi => by simp [hi])))
      have HC4 := Lib.hid (set_here (y := ((markTxt (q).toNat), (q + 1), (q + 1 + 1), (marksStp (q + 1 + 1 + 1) fr.length), tw)) HC3.out)
      have O4 := Lib.hid (O3.out.trans (hom.mono (fun i hi => HFS3.out i (by simp [hi]))))
      clear hpm hom hback3 hfz hblt hback2 p0 p1 p2 p3 p4
      obtain ⟨b4, off4, x4, cs4, f4, eb4, hx4, hp4, hfn4, -, hbb4, hc4, hff4, hback4⟩ := rep_item S4.out HND.out hlt
      simp only [Option.some.injEq, Addr.mk.injEq, and_true] at eb4
      obtain ⟨rfl, rfl⟩ := eb4
      have hx4 := Option.some.inj (hx4.out.symm.trans HC4.out)
      subst hx4
      obtain ⟨vfr_4, vtw_4, gfr_4, gtw_4, rfl, hnm_4, hsx_4, hpl_4, hfr_4, htw_4, rfl⟩ := dRul_inv hp4
      have p0 : wm2.cell? ⟨b, off + j * 5, none⟩ = some (.string (markTxt (q).toNat)) := by have := hc4 0 (.string (markTxt (q).toNat)) rfl; simpa [Rep.sz, Nat.add_assoc] using this
      have p1 : wm2.cell? ⟨b, off + j * 5 + 1, none⟩ = some (.int .i64 (q + 1)) := by have := hc4 1 (.int .i64 (q + 1)) rfl; simpa [Rep.sz, Nat.add_assoc] using this
      have p2 : wm2.cell? ⟨b, off + j * 5 + 2, none⟩ = some (.int .i64 (q + 1 + 1)) := by have := hc4 2 (.int .i64 (q + 1 + 1)) rfl; simpa [Rep.sz, Nat.add_assoc] using this
      have p3 : wm2.cell? ⟨b, off + j * 5 + 3, none⟩ = some (vfr_4) := by have := hc4 3 (vfr_4) rfl; simpa [Rep.sz, Nat.add_assoc] using this
      have p4 : wm2.cell? ⟨b, off + j * 5 + 4, none⟩ = some (vtw_4) := by have := hc4 4 (vtw_4) rfl; simpa [Rep.sz, Nat.add_assoc] using this
      have hfz : ∀ o, wm2.frozen? ⟨b, o, none⟩ = false := rep_frz S4.out (by omega)
      have hblt : b < wm2.heap.size := hbb4
      have HPfr_4 := Lib.hid hfr_4
      have HPtw_4 := Lib.hid htw_4
      have HQnm_4 := Lib.hid hnm_4
      have HQsx_4 := Lib.hid hsx_4
      have HQpl_4 := Lib.hid hpl_4
      have HFS4 := Lib.hid hff4
      have HN4 := Lib.hid hfn4
      clear hp4 hfn4 hc4 hff4 hnm_4 hsx_4 hpl_4 hfr_4 htw_4
      go_wp2_with fail
      refine (markStepS_any _ _ tw gtw_4 HPtw_4.out (q + 1 + 1 + 1 + 2 * (fr.length : Int)) (by omega) (by omega)).mono ?_
      rintro e wm3 ⟨rfl, hpm, hom⟩
      have S5 := Lib.hid (hback4.out wm3 ((markTxt (q).toNat), (q + 1), (q + 1 + 1), (marksStp (q + 1 + 1 + 1) fr.length), (marksStp (q + 1 + 1 + 1 + 2 * (fr.length : Int)) tw.length)) (dRul_mk HQnm_4.out HQsx_4.out HQpl_4.out (Rep.keep HPfr_4.out (fun i hi => hom.block i (Rep.lt HPfr_4.out i hi) (by have hnd := HN4.out; simp only [List.nodup_append] at hnd; intro hm2; first | exact hnd.2.2 _ hi _ hm2 rfl | exact hnd.2.2 _ hm2 _ hi rfl))) hpm) (hom.mono (fun i hi => by simp [hi])))
      have HC5 := Lib.hid (set_here (y := ((markTxt (q).toNat), (q + 1), (q + 1 + 1), (marksStp (q + 1 + 1 + 1) fr.length), (marksStp (q + 1 + 1 + 1 + 2 * (fr.length : Int)) tw.length))) HC4.out)
      have O5 := Lib.hid (O4.out.trans (hom.mono (fun i hi => HFS4.out i (by simp [hi]))))
      clear hpm hom hback4 hfz hblt p0 p1 p2 p3 p4
      have HS := Lib.hid (show Rep.rep true wm3 [.slice (some ⟨b, off, none⟩) xs.length cap] ((marksBy cntRul mkdRul k xs).take (j + 1) ++ xs.drop (j + 1)) fp by
        have e := S5.out
        simp only [List.set_set] at e
        rw [← HSTEP.out]
        exact e)
      have HQE := Lib.hid (show q + 1 + 1 + 1 + 2 * (fr.length : Int) + 2 * (tw.length : Int) = k + lenBy cntRul (xs.take (j + 1)) by have := HQ.out; omega)
      clear S1 HC1 S2 HC2 S3 HC3 S4 HC4 S5 HC5 HSTEP HC0 hr HQ
      go_wp2
      go_roundw
      case rel => exact ⟨j + 1, _, by omega, by go_num, rfl, HQE, HS, O5⟩
      case measure => simp [intOf]; omega
    · obtain rfl : j = xs.length := by omega
      have HS := Lib.hid hr.out
      clear hr
      go_wp2
      go_ret
      refine ⟨ret_int (by rw [hq.out, List.take_length]), ?_, ho.out⟩
      have := HS.out
      rw [List.take_of_length_le (by rw [marksBy_len]; exact Nat.le_refl _)] at this
      simpa using this

end Go.Proofs.Ytoipdgoejichbaa
