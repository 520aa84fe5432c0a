/- Contracts of the laws' helpers on terminologies: size, copy, compare. -/
import Derived.Test.YtcbhdmmohdnjbaaGreatRulM
import Derived.Test.YtcbhdmmohdnjbaaGreatDEntry
import Derived.Test.YtcbhdmmohdnjbaaGreatEnt
namespace Go.Proofs.YtcbhdmmohdnjbaaGreat
set_option linter.unusedVariables false
set_option linter.unusedSimpArgs false
open Go.RowKit

def trmSz (y : Trm) : Nat := sszRul y.1 + sszEnt y.2
instance decEqTrm : DecidableEq (List Rul × List Ent) := instDecidableEqProd
theorem Rd.trm {z : Bool} {lo hi : Nat} {w : World} {a b : Value} {f : Trm} (h : Rd z lo hi w [a, b] f) : Rd z lo hi w [a] f.1 ∧ Rd z lo hi w [b] f.2 := h.two rfl
theorem shapeTrm {z : Bool} {lo hi : Nat} {w : World} {a b : Value} {f : Trm} (h : Rd z lo hi w [a, b] f) : ∃ ao n cap bo m dap, a = .slice ao n cap ∧ b = .slice bo m dap := by
  obtain ⟨h1, h2⟩ := h.trm
  obtain ⟨ao, n, cap, rfl, -⟩ := h1.shape
  obtain ⟨bo, m, dap, rfl, -⟩ := h2.shape
  exact ⟨ao, n, cap, bo, m, dap, rfl, rfl⟩

set_option maxHeartbeats 1000000 in
theorem szTerminology_any {z : Bool} {lo hi : Nat} (w : World) (a b : Value) (f : Trm) (h : Rd z lo hi w [a, b] f) (left : Int) (h0 : 0 ≤ left) (h1 : left ≤ 1048576) :
    Calls Tryz.prog 8 #[.agg #[a, b], .int .i64 left] w (PostI w (if left < (trmSz f : Int) then -1 else left - (trmSz f : Int))) := by
  obtain ⟨ha, hb⟩ := h.trm
  obtain ⟨R, hR⟩ : ∃ R : Int, R = if left < (trmSz f : Int) then -1 else left - (trmSz f : Int) := ⟨_, rfl⟩
  rw [← hR]
  have hfs : trmSz f = sszRul f.1 + sszEnt f.2 := rfl
  have HR := Lib.hid hR
  have HS := Lib.hid hfs
  clear hR hfs h
  go_enter Tryz.func8, Tryz.ntmps8
  go_wp2_with fail
  refine (szRuleS_any _ _ f.1 (ha.below bwT) left h0 h1).mono ?_
  rintro e1 w1 ⟨rfl, hbw1⟩
  have hpw1 : Below w.heap.size w w1 := Below.after bwT hbw1 szT
  have sw1 := hpw1.size
  have hBw1 : Below w.heap.size w w1 := hpw1
  have l_a : w.heap.size < w1.heap.size := by have := hbw1.size; simp at this; omega
  have q_a0 : w1.cell? ⟨w.heap.size, 0, none⟩ = some (a) := oldc hbw1 ltT (by simp [go_sem])
  have q_a1 : w1.cell? ⟨w.heap.size, 1, none⟩ = some (b) := oldc hbw1 ltT (by simp [go_sem])
  clear hbw1 hpw1
  by_cases hlt : left < (sszRul f.1 : Nat)
  · rw [if_pos hlt]
    have HF := Lib.hid (show R = -1 by rw [HR.out, if_pos]; have := HS.out; omega)
    clear HR ha hb
    go_wp2
    go_ret
    exact ⟨ret_int HF.out.symm, hBw1⟩
  rw [if_neg hlt]
  obtain ⟨l, hl⟩ : ∃ l : Int, l = left - (sszRul f.1 : Nat) := ⟨_, rfl⟩
  rw [← hl]
  have hl0 : 0 ≤ l := by omega
  have hl1 : l ≤ 1048576 := by omega
  have hln : ¬ l < 0 := by omega
  have HL := Lib.hid hl
  clear hl hlt
  go_wp2_with fail
  refine (szEntryS_any _ _ f.2 (hb.below bwT) l hl0 hl1).mono ?_
  rintro e2 w2 ⟨rfl, hbw2⟩
  have hpw2 : Below w1.heap.size w1 w2 := Below.after bwT hbw2 szT
  have sw2 := hpw2.size
  have hBw2 : Below w.heap.size w w2 := Below.trans hBw1 (Below.mono hpw2 hBw1.size)
  have q_a0 := oldc hpw2 l_a q_a0
  have q_a1 := oldc hpw2 l_a q_a1
  have l_a := Nat.lt_of_lt_of_le l_a sw2
  clear hbw2 hpw2
  by_cases hlt : l < (sszEnt f.2 : Nat)
  · rw [if_pos hlt]
    have HF := Lib.hid (show R = -1 by rw [HR.out, if_pos]; have := HS.out; have := HL.out; omega)
    clear HR ha hb
    go_wp2
    go_ret
    exact ⟨ret_int HF.out.symm, hBw2⟩
  rw [if_neg hlt]
  have hln2 : ¬ l - (sszEnt f.2 : Int) < 0 := by omega
  have HF := Lib.hid (show l - (sszEnt f.2 : Int) = R by have := HS.out; have := HL.out; rw [HR.out, if_neg (by omega)]; omega)
  clear HR ha hb
  go_wp2
  go_ret
  exact ⟨ret_int HF.out, hBw2⟩

set_option maxHeartbeats 1000000 in
theorem toTerminology_any {z : Bool} {lo hi : Nat} (w : World) (a b : Value) (c : Trm) (h : Rd z lo hi w [a, b] c) (h1 : sszRul c.1 ≤ 1048576) (h2 : sszEnt c.2 ≤ 1048576) :
    Calls Tryz.prog 11 #[.agg #[a, b]] w (PostOw2 w c) := by
  obtain ⟨ha, hb⟩ := h.trm
  go_enter Tryz.func11, Tryz.ntmps11
  go_wp2_with fail
  refine (toRuleS_any _ _ _ (ha.below (by go_grown)) h1).mono ?_
  rintro e w1 ⟨u, rfl, how1, hb1⟩
  have hB1 : Below w.heap.size w w1 := Below.after (by go_grown) hb1 (by simp; omega)
  have s1 := hb1.size
  obtain ⟨hc, hf⟩ := bcell hb1
  simp only [World.size_alloc] at how1 s1 hc hf
  obtain ⟨ao1, n1, cap1, rfl, -⟩ := how1.rd.shape
  obtain ⟨l0, l1, l2⟩ : w.heap.size < w1.heap.size ∧ w.heap.size + 1 < w1.heap.size ∧ w.heap.size + 1 + 1 < w1.heap.size := by omega
  go_wp2_with fail
  refine (toEntryS_any _ _ _ (hb.below (by go_grown)) h2).mono ?_
  rintro e w2 ⟨v, rfl, how2, hb2⟩
  have hB2 : Below w.heap.size w w2 := Below.after (by go_grown) hb2 (by simp; omega)
  have s2 := hb2.size
  obtain ⟨hc2, hf2⟩ := bcell hb2
  simp only [World.size_alloc, World.size_setCell] at how2 s2 hc2 hf2
  obtain ⟨ao2, n2, cap2, rfl, -⟩ := how2.rd.shape
  obtain ⟨m0, m1, m2⟩ : w.heap.size < w2.heap.size ∧ w.heap.size + 1 < w2.heap.size ∧ w.heap.size + 1 + 1 < w2.heap.size := by omega
  have HO := Lib.hid (Ow.pair (how1.keep (((Zone.refl _ _ _).setCell (.inl (by simp)) _).below hb2 (by simp))) how2 (.inl (Nat.le_refl _)) (l := w.heap.size + 1 + 1 + 1) (h := w2.heap.size) (by omega) (by omega) (by omega) (by omega))
  clear how1 how2 ha hb h
  clear hb1 hb2
  go_wp2
  exact bodyPost_ret (v := .agg #[.slice ao1 n1 cap1, .slice ao2 n2 cap2]) (by simp [results, Tryz.results11, go_sem, hc, hc2, l0, l1, l2, m0, m1, m2]) rfl ⟨_, _, rfl, (HO.out.keep znT).top.mono (by omega) (by simp), bwT⟩

set_option maxHeartbeats 1000000 in
theorem eqTerminology_b {z z' : Bool} {lo hi lo' hi' : Nat} (w : World) (u1 u2 v1 v2 : Value) (x y : Trm) (h : Rd z lo hi w [u1, u2] x) (h' : Rd z' lo' hi' w [v1, v2] y) (b : Bool) (hb : b = decide (x = y)) :
    Calls Tryz.prog 14 #[.agg #[u1, u2], .agg #[v1, v2]] w (PostB w b) := by
  obtain ⟨x1, x2⟩ := x
  obtain ⟨y1, y2⟩ := y
  obtain ⟨hx1, hx2⟩ := h.trm
  obtain ⟨hy1, hy2⟩ := h'.trm
  obtain ⟨r1, hlet_r1⟩ : ∃ r, r = decide (x1 = y1) := ⟨_, rfl⟩
  have H1 := Lib.hid hlet_r1
  clear hlet_r1
  obtain ⟨r2, hlet_r2⟩ : ∃ r, r = decide (x2 = y2) := ⟨_, rfl⟩
  have H2 := Lib.hid hlet_r2
  clear hlet_r2
  have HR := Lib.hid (show b = (r1 && r2) by rw [hb, H1.out, H2.out]; simp [Prod.mk.injEq])
  clear hb h h'
  dsimp only at hx1 hx2 hy1 hy2
  go_enter Tryz.func14, Tryz.ntmps14
  go_wp2_with fail
  refine (eqRuleS_b _ _ _ x1 y1 (hx1.below bwT) (hy1.below bwT) _ H1.out).mono ?_
  rintro e3 w3 ⟨rfl, hbw3⟩
  have hpw3 : Below w.heap.size w w3 := Below.after bwT hbw3 szT
  have sw3 := hpw3.size
  have hBw3 : Below w.heap.size w w3 := hpw3
  have l_a : w.heap.size < w3.heap.size := by have := hbw3.size; simp at this; omega
  have q_a0 : w3.cell? ⟨w.heap.size, 0, none⟩ = some (u1) := oldc hbw3 ltT (by simp [go_sem])
  have q_a1 : w3.cell? ⟨w.heap.size, 1, none⟩ = some (u2) := oldc hbw3 ltT (by simp [go_sem])
  have l_b : w.heap.size + 1 < w3.heap.size := by have := hbw3.size; simp at this; omega
  have q_b0 : w3.cell? ⟨w.heap.size + 1, 0, none⟩ = some (v1) := oldc hbw3 ltT (by simp [go_sem])
  have q_b1 : w3.cell? ⟨w.heap.size + 1, 1, none⟩ = some (v2) := oldc hbw3 ltT (by simp [go_sem])
  clear hbw3 hpw3
  cases r1
  · go_wp2
    go_ret
    exact ⟨ret_bool (by rw [HR.out]; rfl), hBw3⟩
  go_wp2_with fail
  refine (eqEntryS_b _ _ _ x2 y2 (hx2.below bwT) (hy2.below bwT) _ H2.out).mono ?_
  rintro e4 w4 ⟨rfl, hbw4⟩
  have hpw4 : Below w3.heap.size w3 w4 := Below.after bwT hbw4 szT
  have sw4 := hpw4.size
  have hBw4 : Below w.heap.size w w4 := Below.trans hBw3 (Below.mono hpw4 hBw3.size)
  have q_a0 := oldc hpw4 l_a q_a0
  have q_a1 := oldc hpw4 l_a q_a1
  have q_b0 := oldc hpw4 l_b q_b0
  have q_b1 := oldc hpw4 l_b q_b1
  have l_a := Nat.lt_of_lt_of_le l_a sw4
  have l_b := Nat.lt_of_lt_of_le l_b sw4
  clear hbw4 hpw4
  cases r2
  · go_wp2
    go_ret
    exact ⟨ret_bool (by rw [HR.out]; rfl), hBw4⟩
  go_wp2
  go_ret
  exact ⟨ret_bool (by rw [HR.out]; rfl), hBw4⟩
end Go.Proofs.YtcbhdmmohdnjbaaGreat
