/- Contracts of the laws' helpers on families: size, copy, compare. -/
import Derived.Test.YtiingmngeiakgaaTyPerson
import Derived.Test.YtiingmngeiakgaaTyUnion
import Derived.Test.YtiingmngeiakgaaCls
namespace Go.Proofs.Ytiingmngeiakgaa
set_option linter.unusedVariables false
set_option linter.unusedSimpArgs false
open Go.RowKit

def nmSum : List Per → Nat
  | [] => 0
  | p :: ps => p.1.size + nmSum ps
theorem nmSum_app : ∀ a b : List Per, nmSum (a ++ b) = nmSum a + nmSum b
  | [], b => by simp [nmSum]
  | p :: a, b => by rw [List.cons_append, nmSum, nmSum, nmSum_app a b]; omega
theorem nmSum_take {ps : List Per} {k : Nat} {p : Per} (h : ps[k]? = some p) : nmSum (ps.take (k + 1)) = nmSum (ps.take k) + p.1.size := by
  rw [take_snoc h, nmSum_app]; simp [nmSum]
theorem nmSum_le (ps : List Per) (k : Nat) : nmSum (ps.take k) ≤ nmSum ps := by
  have := nmSum_app (ps.take k) (ps.drop k)
  rw [List.take_append_drop] at this; omega
instance decEqPers : DecidableEq (List Per) := fun a b => instDecidableEqList a b
instance decEqUnis : DecidableEq (List Uni) := fun a b => instDecidableEqList a b
instance decEqFam : DecidableEq (List Per × List Uni) := instDecidableEqProd
def famSz (f : Fam) : Nat := f.1.length + nmSum f.1 + f.2.length

theorem szPerson_any (w : World) (nm : ByteArray) (sx fa mo bo di : Int) (hs : nm.size ≤ maxLen) (left : Int) (h0 : 0 ≤ left) (h1 : left ≤ 1048576) :
    Calls Try.prog 50 #[.agg #[.string nm, .int .i64 sx, .int .i64 fa, .int .i64 mo, .int .i64 bo, .int .i64 di], .int .i64 left] w (PostI w (if left < nm.size then -1 else left - nm.size)) := by
  unfold maxLen at *
  by_cases hlt : left < nm.size
  · have q : wrap64 (left - (nm.size : Int)) = left - nm.size := IntWalk.wrap64_in _ (by omega)
    go_enter Try.func50, Try.ntmps50
    go_wp2
    go_ret
    exact ⟨by first | rfl | exact ret_int (if_pos hlt).symm, bwT⟩
  · have q : wrap64 (left - (nm.size : Int)) = left - nm.size := IntWalk.wrap64_in _ (by omega)
    go_enter Try.func50, Try.ntmps50
    go_wp2
    go_ret
    exact ⟨by first | rfl | exact ret_int (if_neg hlt).symm, bwT⟩

set_option maxHeartbeats 1000000 in
theorem szPersonS_any {z : Bool} {lo hi : Nat} (w : World) (v : Value) (xs : List Per) (h : Rd z lo hi w [v] xs) (left : Int) (h0 : 0 ≤ left) (h1 : left ≤ 1048576) :
    Calls Try.prog 27 #[v, .int .i64 left] w (PostI w (if left < (xs.length + nmSum xs : Nat) then -1 else left - (xs.length + nmSum xs : Nat))) := by
  obtain ⟨ao, n, cap, rfl, rfl, hnc, hcm, hnone⟩ := h.shape
  unfold maxLen at *
  obtain ⟨R, hR⟩ : ∃ R : Int, R = if left < (xs.length + nmSum xs : Nat) then -1 else left - (xs.length + nmSum xs : Nat) := ⟨_, rfl⟩
  rw [← hR]
  have HR := Lib.hid hR
  clear hR
  have q : wrap64 (left - (xs.length : Int)) = left - xs.length := IntWalk.wrap64_in _ (by omega)
  by_cases hlt : left < xs.length
  · have HF := Lib.hid (show R = -1 by rw [HR.out, if_pos (by omega)])
    clear HR h
    go_enter Try.func27, Try.ntmps27
    go_wp2
    go_ret
    exact ⟨ret_int HF.out.symm, Below.refl _ _⟩
  · have hge : ¬ left - (xs.length : Int) < 0 := by omega
    go_enter Try.func27, Try.ntmps27
    go_wp2
    go_loopw [1, 5] (fun s1 s5 wr => ∃ (k : Nat) (l : Int), k ≤ xs.length ∧ s5 = .int .i64 k ∧ s1 = .int .i64 l ∧ Hid (l = left - xs.length - nmSum (xs.take k)) ∧ 0 ≤ l ∧ l ≤ 1048576 ∧ Below w.heap.size w wr) (fun _ s5 _ => xs.length - (intOf s5).toNat)
    case atStart => exact ⟨0, _, Nat.zero_le _, rfl, rfl, Lib.hid (by simp [nmSum]), by omega, by omega, Below.refl _ _⟩
    case round =>
      rename_i wr
      obtain ⟨k, l, hk, rfl, rfl, hl, hl0, hl1, hb⟩ := hrel
      have sW := hb.size
      by_cases hltk : k < xs.length
      · obtain ⟨b, off, nm, sx, fa, mo, bo, di, rfl, hx, c0, c1, c2, c3, c4, c5, hs, -, -, -, -, -, -, -, hbl, -⟩ := (h.below hb).per_at hltk
        have hI : (k : Int) < (xs.length : Int) := by omega
        have hle := nmSum_le xs (k + 1)
        rw [nmSum_take hx.out] at hle
        dsimp only at hle
        have HT := Lib.hid (nmSum_take hx.out)
        go_wp2_with fail
        refine (szPerson_any _ nm sx fa mo bo di hs l hl0 hl1).mono ?_
        rintro e w1 ⟨rfl, hb1⟩
        have hB1 : Below w.heap.size w w1 := Below.after hb hb1 sW
        clear hx c0 c1 c2 c3 c4 c5
        by_cases hneg : l < nm.size
        · rw [if_pos hneg]
          have HF := Lib.hid (show R = -1 by rw [HR.out, if_pos]; have := hl.out; omega)
          clear HR hl HT h hle
          go_wp2
          go_ret
          exact ⟨ret_int HF.out.symm, hB1⟩
        · rw [if_neg hneg]
          have hge2 : ¬ l - (nm.size : Int) < 0 := by omega
          have HL := Lib.hid (show l - (nm.size : Int) = left - xs.length - nmSum (xs.take (k + 1)) by have := hl.out; have := HT.out; (try dsimp only at this); omega)
          clear hl HT h hle
          go_wp2
          go_roundw
          case rel => exact ⟨k + 1, _, by omega, by go_num, rfl, HL, by omega, by omega, hB1⟩
          case measure => simp [intOf]; omega
      · have HF := Lib.hid (show l = R by
          have h2 := hl.out
          rw [List.take_of_length_le (by omega)] at h2
          rw [HR.out, if_neg (by omega)]; omega)
        clear h hl HR
        go_wp2
        go_ret
        exact ⟨ret_int HF.out, hb⟩
theorem szUnionS_any {z : Bool} {lo hi : Nat} (w : World) (v : Value) (xs : List Uni) (h : Rd z lo hi w [v] xs) (left : Int) (h0 : 0 ≤ left) (h1 : left ≤ 1048576) :
    Calls Try.prog 28 #[v, .int .i64 left] w (PostI w (if left < xs.length then -1 else left - xs.length)) := by
  obtain ⟨ao, n, cap, rfl, rfl, hnc, hcm, hnone⟩ := h.shape
  clear h
  unfold maxLen at *
  by_cases hlt : left < xs.length
  · go_enter Try.func28, Try.ntmps28
    go_wp2
    go_ret
    exact ⟨by first | rfl | exact ret_int (if_pos hlt).symm, Below.refl _ _⟩
  · go_enter Try.func28, Try.ntmps28
    go_wp2
    go_ret
    exact ⟨by first | rfl | exact ret_int (if_neg hlt).symm, Below.refl _ _⟩

theorem Rd.fam {z : Bool} {lo hi : Nat} {w : World} {a b : Value} {f : Fam} (h : Rd z lo hi w [a, b] f) : Rd z lo hi w [a] f.1 ∧ Rd z lo hi w [b] f.2 := h.two rfl
theorem shapeFam {z : Bool} {lo hi : Nat} {w : World} {a b : Value} {f : Fam} (h : Rd z lo hi w [a, b] f) : ∃ ao n cap bo m dap, a = .slice ao n cap ∧ b = .slice bo m dap := by
  obtain ⟨h1, h2⟩ := h.fam
  obtain ⟨ao, n, cap, rfl, -⟩ := h1.shape
  obtain ⟨bo, m, dap, rfl, -⟩ := h2.shape
  exact ⟨ao, n, cap, bo, m, dap, rfl, rfl⟩

set_option maxHeartbeats 1000000 in
theorem szFamily_any {z : Bool} {lo hi : Nat} (w : World) (a b : Value) (f : Fam) (h : Rd z lo hi w [a, b] f) (left : Int) (h0 : 0 ≤ left) (h1 : left ≤ 1048576) :
    Calls Try.prog 6 #[.agg #[a, b], .int .i64 left] w (PostI w (if left < (famSz f : Int) then -1 else left - (famSz f : Int))) := by
  obtain ⟨ha, hb⟩ := h.fam
  obtain ⟨R, hR⟩ : ∃ R : Int, R = if left < (famSz f : Int) then -1 else left - (famSz f : Int) := ⟨_, rfl⟩
  rw [← hR]
  have hfs : famSz f = f.1.length + nmSum f.1 + f.2.length := rfl
  have HR := Lib.hid hR
  have HS := Lib.hid hfs
  clear hR hfs h
  go_enter Try.func6, Try.ntmps6
  go_wp2_with fail
  refine (szPersonS_any _ _ f.1 (ha.below bwT) left h0 h1).mono ?_
  rintro e1 w1 ⟨rfl, hbw1⟩
  have hpw1 : Below w.heap.size w w1 := Below.after bwT hbw1 szT
  have sw1 := hpw1.size
  have hBw1 : Below w.heap.size w w1 := hpw1
  have l_a : w.heap.size < w1.heap.size := by have := hbw1.size; simp at this; omega
  have q_a0 : w1.cell? ⟨w.heap.size, 0, none⟩ = some (a) := oldc hbw1 ltT (by simp [go_sem])
  have q_a1 : w1.cell? ⟨w.heap.size, 1, none⟩ = some (b) := oldc hbw1 ltT (by simp [go_sem])
  clear hbw1 hpw1
  by_cases hlt : left < (f.1.length + nmSum f.1 : Nat)
  · rw [if_pos hlt]
    have HF := Lib.hid (show R = -1 by rw [HR.out, if_pos]; have := HS.out; omega)
    clear HR ha hb
    go_wp2
    go_ret
    exact ⟨ret_int HF.out.symm, hBw1⟩
  rw [if_neg hlt]
  obtain ⟨l, hl⟩ : ∃ l : Int, l = left - (f.1.length + nmSum f.1 : Nat) := ⟨_, rfl⟩
  rw [← hl]
  have hl0 : 0 ≤ l := by omega
  have hl1 : l ≤ 1048576 := by omega
  have hln : ¬ l < 0 := by omega
  have HL := Lib.hid hl
  clear hl hlt
  go_wp2_with fail
  refine (szUnionS_any _ _ f.2 (hb.below bwT) l hl0 hl1).mono ?_
  rintro e2 w2 ⟨rfl, hbw2⟩
  have hpw2 : Below w1.heap.size w1 w2 := Below.after bwT hbw2 szT
  have sw2 := hpw2.size
  have hBw2 : Below w.heap.size w w2 := Below.trans hBw1 (Below.mono hpw2 hBw1.size)
  have q_a0 := oldc hpw2 l_a q_a0
  have q_a1 := oldc hpw2 l_a q_a1
  have l_a := Nat.lt_of_lt_of_le l_a sw2
  clear hbw2 hpw2
  by_cases hlt : l < (f.2.length : Nat)
  · rw [if_pos hlt]
    have HF := Lib.hid (show R = -1 by rw [HR.out, if_pos]; have := HS.out; have := HL.out; omega)
    clear HR ha hb
    go_wp2
    go_ret
    exact ⟨ret_int HF.out.symm, hBw2⟩
  rw [if_neg hlt]
  have hln2 : ¬ l - (f.2.length : Int) < 0 := by omega
  have HF := Lib.hid (show l - (f.2.length : Int) = R by have := HS.out; have := HL.out; rw [HR.out, if_neg (by omega)]; omega)
  clear HR ha hb
  go_wp2
  go_ret
  exact ⟨ret_int HF.out, hBw2⟩

set_option maxHeartbeats 1000000 in
theorem toFamily_any {z : Bool} {lo hi : Nat} (w : World) (a b : Value) (c : Fam) (h : Rd z lo hi w [a, b] c) (h1 : c.1.length ≤ 1048576) (h2 : c.2.length ≤ 1048576) :
    Calls Try.prog 8 #[.agg #[a, b]] w (PostOw2 w c) := by
  obtain ⟨ha, hb⟩ := h.fam
  go_enter Try.func8, Try.ntmps8
  go_wp2_with fail
  refine (toPersonS_any _ _ _ (ha.below (by go_grown)) h1).mono ?_
  rintro e w1 ⟨u, rfl, how1, hb1⟩
  have hB1 : Below w.heap.size w w1 := Below.after (by go_grown) hb1 (by simp; omega)
  have s1 := hb1.size
  obtain ⟨hc, hf⟩ := bcell hb1
  simp only [World.size_alloc] at how1 s1 hc hf
  obtain ⟨ao1, n1, cap1, rfl, -⟩ := how1.rd.shape
  obtain ⟨l0, l1, l2⟩ : w.heap.size < w1.heap.size ∧ w.heap.size + 1 < w1.heap.size ∧ w.heap.size + 1 + 1 < w1.heap.size := by omega
  go_wp2_with fail
  refine (toUnionS_any _ _ _ (hb.below (by go_grown)) h2).mono ?_
  rintro e w2 ⟨v, rfl, how2, hb2⟩
  have hB2 : Below w.heap.size w w2 := Below.after (by go_grown) hb2 (by simp; omega)
  have s2 := hb2.size
  obtain ⟨hc2, hf2⟩ := bcell hb2
  simp only [World.size_alloc, World.size_setCell] at how2 s2 hc2 hf2
  obtain ⟨ao2, n2, cap2, rfl, -⟩ := how2.rd.shape
  obtain ⟨m0, m1, m2⟩ : w.heap.size < w2.heap.size ∧ w.heap.size + 1 < w2.heap.size ∧ w.heap.size + 1 + 1 < w2.heap.size := by omega
  have HO := Lib.hid (Ow.pair (how1.keep (((Zone.refl _ _ _).setCell (.inl (by simp)) _).below hb2 (by simp))) how2 (.inl (Nat.le_refl _)) (l := w.heap.size + 1 + 1 + 1) (h := w2.heap.size) (by omega) (by omega) (by omega) (by omega))
  clear how1 how2 ha hb h
  clear hb1 hb2
  go_wp2
  exact bodyPost_ret (v := .agg #[.slice ao1 n1 cap1, .slice ao2 n2 cap2]) (by simp [results, Try.results8, go_sem, hc, hc2, l0, l1, l2, m0, m1, m2]) rfl ⟨_, _, rfl, (HO.out.keep znT).top.mono (by omega) (by simp), bwT⟩

set_option maxHeartbeats 1000000 in
theorem eqFamily_b {z z' : Bool} {lo hi lo' hi' : Nat} (w : World) (u1 u2 v1 v2 : Value) (x y : Fam) (h : Rd z lo hi w [u1, u2] x) (h' : Rd z' lo' hi' w [v1, v2] y) (b : Bool) (hb : b = decide (x = y)) :
    Calls Try.prog 11 #[.agg #[u1, u2], .agg #[v1, v2]] w (PostB w b) := by
  obtain ⟨x1, x2⟩ := x
  obtain ⟨y1, y2⟩ := y
  obtain ⟨hx1, hx2⟩ := h.fam
  obtain ⟨hy1, hy2⟩ := h'.fam
  obtain ⟨r1, hlet_r1⟩ : ∃ r, r = decide (x1 = y1) := ⟨_, rfl⟩
  have H1 := Lib.hid hlet_r1
  clear hlet_r1
  obtain ⟨r2, hlet_r2⟩ : ∃ r, r = decide (x2 = y2) := ⟨_, rfl⟩
  have H2 := Lib.hid hlet_r2
  clear hlet_r2
  have HR := Lib.hid (show b = (r1 && r2) by rw [hb, H1.out, H2.out]; simp [Prod.mk.injEq])
  clear hb h h'
  dsimp only at hx1 hx2 hy1 hy2
  go_enter Try.func11, Try.ntmps11
  go_wp2_with fail
  refine (eqPersonS_b _ _ _ x1 y1 (hx1.below bwT) (hy1.below bwT) _ H1.out).mono ?_
  rintro e3 w3 ⟨rfl, hbw3⟩
  have hpw3 : Below w.heap.size w w3 := Below.after bwT hbw3 szT
  have sw3 := hpw3.size
  have hBw3 : Below w.heap.size w w3 := hpw3
  have l_a : w.heap.size < w3.heap.size := by have := hbw3.size; simp at this; omega
  have q_a0 : w3.cell? ⟨w.heap.size, 0, none⟩ = some (u1) := oldc hbw3 ltT (by simp [go_sem])
  have q_a1 : w3.cell? ⟨w.heap.size, 1, none⟩ = some (u2) := oldc hbw3 ltT (by simp [go_sem])
  have l_b : w.heap.size + 1 < w3.heap.size := by have := hbw3.size; simp at this; omega
  have q_b0 : w3.cell? ⟨w.heap.size + 1, 0, none⟩ = some (v1) := oldc hbw3 ltT (by simp [go_sem])
  have q_b1 : w3.cell? ⟨w.heap.size + 1, 1, none⟩ = some (v2) := oldc hbw3 ltT (by simp [go_sem])
  clear hbw3 hpw3
  cases r1
  · go_wp2
    go_ret
    exact ⟨ret_bool (by rw [HR.out]; rfl), hBw3⟩
  go_wp2_with fail
  refine (eqUnionS_b _ _ _ x2 y2 (hx2.below bwT) (hy2.below bwT) _ H2.out).mono ?_
  rintro e4 w4 ⟨rfl, hbw4⟩
  have hpw4 : Below w3.heap.size w3 w4 := Below.after bwT hbw4 szT
  have sw4 := hpw4.size
  have hBw4 : Below w.heap.size w w4 := Below.trans hBw3 (Below.mono hpw4 hBw3.size)
  have q_a0 := oldc hpw4 l_a q_a0
  have q_a1 := oldc hpw4 l_a q_a1
  have q_b0 := oldc hpw4 l_b q_b0
  have q_b1 := oldc hpw4 l_b q_b1
  have l_a := Nat.lt_of_lt_of_le l_a sw4
  have l_b := Nat.lt_of_lt_of_le l_b sw4
  clear hbw4 hpw4
  cases r2
  · go_wp2
    go_ret
    exact ⟨ret_bool (by rw [HR.out]; rfl), hBw4⟩
  go_wp2
  go_ret
  exact ⟨ret_bool (by rw [HR.out]; rfl), hBw4⟩
end Go.Proofs.Ytiingmngeiakgaa
