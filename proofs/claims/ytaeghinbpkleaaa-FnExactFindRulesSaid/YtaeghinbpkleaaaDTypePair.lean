/- Contracts of the laws' helpers on the type TypePair: items with lists of steps. Written by deep.py. -/
import Derived.Test.YtaeghinbpkleaaaBase
import Derived.Test.YtaeghinbpkleaaaEnt
namespace Go.Proofs.Ytaeghinbpkleaaa
set_option linter.unusedVariables false
set_option linter.unusedSimpArgs false
open Go.RowKit

theorem slTypePair : SlTy Try.prog 31 67 (.agg #[.int .i64 0, .slice none 0 0, .int .i64 0, .slice none 0 0]) 4 64 := SlTy.of Try.underlying31 (by kernel_rfl) rfl
theorem dTPr_inv {z : Bool} {w : World} {cs : List Value} {kae : Int} {kal : List Stp} {kbe : Int} {kbl : List Stp} {fp : List Nat} (h : Rep.rep z w cs (((kae, kal), (kbe, kbl)) : TPr) fp) : ∃ (vkal vkbl : Value) (fkal fkbl : List Nat), cs = [.int .i64 kae, vkal, .int .i64 kbe, vkbl] ∧ I64 kae ∧ I64 kbe ∧ Rep.rep z w [vkal] kal fkal ∧ Rep.rep z w [vkbl] kbl fkbl ∧ fkal ++ fkbl = fp := by
  obtain ⟨_, _, _, _, rfl, rfl, ⟨_, _, _, _, rfl, rfl, ⟨rfl, hkae, rfl⟩, hkal⟩, ⟨_, _, _, _, rfl, rfl, ⟨rfl, hkbe, rfl⟩, hkbl⟩⟩ := h
  have gkal := hkal
  obtain ⟨vkal, rfl, -⟩ := gkal
  have gkbl := hkbl
  obtain ⟨vkbl, rfl, -⟩ := gkbl
  exact ⟨vkal, vkbl, _, _, rfl, hkae, hkbe, hkal, hkbl, by simp⟩
theorem dTPr_mk {z : Bool} {w : World} {kae : Int} {kal : List Stp} {kbe : Int} {kbl : List Stp} {vkal vkbl : Value} {fkal fkbl : List Nat} (hkae : I64 kae) (hkbe : I64 kbe) (hkal : Rep.rep z w [vkal] kal fkal) (hkbl : Rep.rep z w [vkbl] kbl fkbl) : Rep.rep z w [.int .i64 kae, vkal, .int .i64 kbe, vkbl] (((kae, kal), (kbe, kbl)) : TPr) (fkal ++ fkbl) :=
  ⟨[.int .i64 kae, vkal], [.int .i64 kbe, vkbl], (fkal), (fkbl), rfl, by simp, ⟨[.int .i64 kae], [vkal], [], (fkal), rfl, by simp, ⟨rfl, hkae, rfl⟩, hkal⟩, ⟨[.int .i64 kbe], [vkbl], [], (fkbl), rfl, by simp, ⟨rfl, hkbe, rfl⟩, hkbl⟩⟩
theorem Rd.dTPr {z : Bool} {lo hi : Nat} {w : World} {cs : List Value} {kae : Int} {kal : List Stp} {kbe : Int} {kbl : List Stp} (h : Rd z lo hi w cs (((kae, kal), (kbe, kbl)) : TPr)) : ∃ (vkal vkbl : Value), cs = [.int .i64 kae, vkal, .int .i64 kbe, vkbl] ∧ I64 kae ∧ I64 kbe ∧ Rd z lo hi w [vkal] kal ∧ Rd z lo hi w [vkbl] kbl := by
  obtain ⟨fp, hr, hz⟩ := h
  obtain ⟨vkal, vkbl, fkal, fkbl, rfl, hkae, hkbe, hkal, hkbl, rfl⟩ := dTPr_inv hr
  exact ⟨vkal, vkbl, rfl, hkae, hkbe, ⟨fkal, hkal, fun b hb => hz b (by simp [hb])⟩, ⟨fkbl, hkbl, fun b hb => hz b (by simp [hb])⟩⟩
theorem Rd.dTPr_at {z : Bool} {lo hi : Nat} {w : World} {xs : List TPr} {ao : Option Addr} {n cap : Nat} (h : Rd z lo hi w [.slice ao n cap] xs) {i : Nat} (hi' : i < n) :
    ∃ (b off : Nat) (kae : Int) (kal : List Stp) (kbe : Int) (kbl : List Stp) (vkal vkbl : Value), ao = some ⟨b, off, none⟩ ∧ Hid (xs[i]? = some ((kae, kal), (kbe, kbl))) ∧ w.cell? ⟨b, off + i * 4, none⟩ = some (.int .i64 kae) ∧ w.cell? ⟨b, off + i * 4 + 1, none⟩ = some (vkal) ∧ w.cell? ⟨b, off + i * 4 + 2, none⟩ = some (.int .i64 kbe) ∧ w.cell? ⟨b, off + i * 4 + 3, none⟩ = some (vkbl) ∧ I64 kae ∧ I64 kbe ∧ Rd z lo hi w [vkal] kal ∧ Rd z lo hi w [vkbl] kbl ∧ Rd z lo hi w [.int .i64 kae, vkal, .int .i64 kbe, vkbl] (((kae, kal), (kbe, kbl)) : TPr) ∧ lo ≤ b ∧ b < hi ∧ b < w.heap.size := by
  obtain ⟨b, off, ⟨⟨kae, kal⟩, ⟨kbe, kbl⟩⟩, cs, e, hx, hr, _, g1, g2, g3, hc, hf⟩ := h.at hi'
  have hr0 := hr
  obtain ⟨vkal, vkbl, rfl, hkae, hkbe, hkal, hkbl⟩ := Rd.dTPr hr
  refine ⟨b, off, kae, kal, kbe, kbl, vkal, vkbl, e, hx, ?_, ?_, ?_, ?_, hkae, hkbe, hkal, hkbl, hr0, g1, g2, g3⟩
  · have := hc 0 (.int .i64 kae) rfl; simpa [Rep.sz, Nat.add_assoc] using this
  · have := hc 1 (vkal) rfl; simpa [Rep.sz, Nat.add_assoc] using this
  · have := hc 2 (.int .i64 kbe) rfl; simpa [Rep.sz, Nat.add_assoc] using this
  · have := hc 3 (vkbl) rfl; simpa [Rep.sz, Nat.add_assoc] using this
theorem Rd.part_ka {z : Bool} {lo hi : Nat} {w : World} {kae : Int} {kal : List Stp} {kbe : Int} {kbl : List Stp} {vkal vkbl : Value} (h : Rd z lo hi w [.int .i64 kae, vkal, .int .i64 kbe, vkbl] (((kae, kal), (kbe, kbl)) : TPr)) : Rd z lo hi w [.int .i64 kae, vkal] ((kae, kal) : Kin) := by
  obtain ⟨xkal, xkbl, e, gkae, gkbe, hkal, hkbl⟩ := Rd.dTPr h
  simp only [List.cons.injEq, and_true, true_and] at e
  obtain ⟨rfl, rfl⟩ := e
  exact Rd.kin_mk gkae hkal
theorem Rd.part_kb {z : Bool} {lo hi : Nat} {w : World} {kae : Int} {kal : List Stp} {kbe : Int} {kbl : List Stp} {vkal vkbl : Value} (h : Rd z lo hi w [.int .i64 kae, vkal, .int .i64 kbe, vkbl] (((kae, kal), (kbe, kbl)) : TPr)) : Rd z lo hi w [.int .i64 kbe, vkbl] ((kbe, kbl) : Kin) := by
  obtain ⟨xkal, xkbl, e, gkae, gkbe, hkal, hkbl⟩ := Rd.dTPr h
  simp only [List.cons.injEq, and_true, true_and] at e
  obtain ⟨rfl, rfl⟩ := e
  exact Rd.kin_mk gkbe hkbl
theorem dTPr_zero (w : World) : Rep.rep true w (Value.agg #[.int .i64 0, .slice none 0 0, .int .i64 0, .slice none 0 0]).cells.toList (((0, []), (0, [])) : TPr) [] := by
  have hz : Rep.rep true w [.slice none 0 0] ([] : List Stp) [] := ⟨_, rfl, none, 0, 0, rfl, rfl, Nat.le_refl _, by simp [maxLen], fun _ => rfl, .inl ⟨rfl, rfl⟩⟩
  exact dTPr_mk (by unfold I64; omega) (by unfold I64; omega) hz hz
def cntTPr : TPr → Nat := fun ((kae, kal), (kbe, kbl)) => 2 + 2 * kal.length + 2 * kbl.length
def szdTPr : TPr → Nat := fun ((kae, kal), (kbe, kbl)) => kal.length + kbl.length
def sszTPr (xs : List TPr) : Nat := xs.length + lenBy szdTPr xs
theorem cntTPr_le (xs : List TPr) : lenBy cntTPr xs ≤ 3 * sszTPr xs := by
  unfold sszTPr
  induction xs with
  | nil => simp [lenBy]
  | cons x xs ih =>
    obtain ⟨⟨kae, kal⟩, ⟨kbe, kbl⟩⟩ := x
    rw [lenBy, lenBy, List.length_cons]
    have : cntTPr ((kae, kal), (kbe, kbl)) ≤ 3 + 3 * szdTPr ((kae, kal), (kbe, kbl)) := by unfold cntTPr szdTPr; dsimp only; omega
    omega
def mkdTPr (k : Int) : TPr → TPr := fun ((kae, kal), (kbe, kbl)) => ((k, marksStp (k + 1) kal.length), (k + 1 + 2 * (kal.length : Nat), marksStp (k + 1 + 2 * (kal.length : Nat) + 1) kbl.length))
instance decEqLTPr : DecidableEq (List TPr) := fun a b => instDecidableEqList a b

set_option maxRecDepth 20000 in
set_option maxHeartbeats 4000000 in
theorem eqTypePair_b {z z' : Bool} {lo hi lo' hi' : Nat} (w : World) (u0 u1 u2 u3 y0 y1 y2 y3 : Value) (x y : TPr) (h : Rd z lo hi w [u0, u1, u2, u3] x) (h' : Rd z' lo' hi' w [y0, y1, y2, y3] y) (r : Bool) (hr : r = decide (x = y)) :
    Calls Try.prog 38 #[.agg #[u0, u1, u2, u3], .agg #[y0, y1, y2, y3]] w (PostB w r) := by
  obtain ⟨⟨kae, kal⟩, ⟨kbe, kbl⟩⟩ := x
  obtain ⟨⟨kae2, kal2⟩, ⟨kbe2, kbl2⟩⟩ := y
  obtain ⟨vkal, vkbl, e1, -, -, hkal, hkbl⟩ := Rd.dTPr h
  obtain ⟨vkal2, vkbl2, e2, -, -, hkal2, hkbl2⟩ := Rd.dTPr h'
  simp only [List.cons.injEq, and_true] at e1 e2
  obtain ⟨rfl, rfl, rfl, rfl⟩ := e1
  obtain ⟨rfl, rfl, rfl, rfl⟩ := e2
  have hka := Rd.part_ka h
  have hka2 := Rd.part_ka h'
  have hkb := Rd.part_kb h
  have hkb2 := Rd.part_kb h'
  obtain ⟨r0, hlet_r0⟩ : ∃ r, r = decide (((kae, kal) : Kin) = ((kae2, kal2) : Kin)) := ⟨_, rfl⟩
  have H0 := Lib.hid hlet_r0
  clear hlet_r0
  obtain ⟨r1, hlet_r1⟩ : ∃ r, r = decide (((kbe, kbl) : Kin) = ((kbe2, kbl2) : Kin)) := ⟨_, rfl⟩
  have H1 := Lib.hid hlet_r1
  clear hlet_r1
  have HR := Lib.hid (show r = (r0 && (r1)) by rw [hr, H0.out, H1.out]; simp [Prod.mk.injEq, and_assoc, Bool.and_assoc])
  clear hr h h'
  go_enter Try.func38, Try.ntmps38
  go_wp2_with fail
  refine (eqKinType_b _ _ _ _ _ (kae, kal) (kae2, kal2) (hka.below bwT) (hka2.below bwT) _ H0.out).mono ?_
  rintro e1 w1 ⟨rfl, hbw1⟩
  have hpw1 : Below w.heap.size w w1 := Below.after bwT hbw1 szT
  have sw1 := hpw1.size
  have hBw1 : Below w.heap.size w w1 := hpw1
  have l_a : w.heap.size < w1.heap.size := by have := hbw1.size; simp at this; omega
  have q_a0 : w1.cell? ⟨w.heap.size, 0, none⟩ = some (.int .i64 kae) := oldc hbw1 ltT (by simp [go_sem])
  have q_a1 : w1.cell? ⟨w.heap.size, 1, none⟩ = some (u1) := oldc hbw1 ltT (by simp [go_sem])
  have q_a2 : w1.cell? ⟨w.heap.size, 2, none⟩ = some (.int .i64 kbe) := oldc hbw1 ltT (by simp [go_sem])
  have q_a3 : w1.cell? ⟨w.heap.size, 3, none⟩ = some (u3) := oldc hbw1 ltT (by simp [go_sem])
  have l_b : w.heap.size + 1 < w1.heap.size := by have := hbw1.size; simp at this; omega
  have q_b0 : w1.cell? ⟨w.heap.size + 1, 0, none⟩ = some (.int .i64 kae2) := oldc hbw1 ltT (by simp [go_sem])
  have q_b1 : w1.cell? ⟨w.heap.size + 1, 1, none⟩ = some (y1) := oldc hbw1 ltT (by simp [go_sem])
  have q_b2 : w1.cell? ⟨w.heap.size + 1, 2, none⟩ = some (.int .i64 kbe2) := oldc hbw1 ltT (by simp [go_sem])
  have q_b3 : w1.cell? ⟨w.heap.size + 1, 3, none⟩ = some (y3) := oldc hbw1 ltT (by simp [go_sem])
  clear hbw1 hpw1
  cases r0
  · go_wp2
    go_ret
    exact ⟨ret_bool (by rw [HR.out]; rfl), hBw1⟩
  go_wp2_with fail
  refine (eqKinType_b _ _ _ _ _ (kbe, kbl) (kbe2, kbl2) (hkb.below bwT) (hkb2.below bwT) _ H1.out).mono ?_
  rintro e2 w2 ⟨rfl, hbw2⟩
  have hpw2 : Below w1.heap.size w1 w2 := Below.after bwT hbw2 szT
  have sw2 := hpw2.size
  have hBw2 : Below w.heap.size w w2 := Below.trans hBw1 (Below.mono hpw2 hBw1.size)
  have q_a0 := oldc hpw2 l_a q_a0
  have q_a1 := oldc hpw2 l_a q_a1
  have q_a2 := oldc hpw2 l_a q_a2
  have q_a3 := oldc hpw2 l_a q_a3
  have q_b0 := oldc hpw2 l_b q_b0
  have q_b1 := oldc hpw2 l_b q_b1
  have q_b2 := oldc hpw2 l_b q_b2
  have q_b3 := oldc hpw2 l_b q_b3
  have l_a := Nat.lt_of_lt_of_le l_a sw2
  have l_b := Nat.lt_of_lt_of_le l_b sw2
  clear hbw2 hpw2
  cases r1
  · go_wp2
    go_ret
    exact ⟨ret_bool (by rw [HR.out]; rfl), hBw2⟩
  go_wp2
  go_ret
  exact ⟨ret_bool (by rw [HR.out]; rfl), hBw2⟩

set_option maxRecDepth 20000 in
set_option maxHeartbeats 4000000 in
theorem szTypePair_any {z : Bool} {lo hi : Nat} (w : World) (u0 u1 u2 u3 : Value) (x : TPr) (h : Rd z lo hi w [u0, u1, u2, u3] x) (left : Int) (h0 : 0 ≤ left) (h1 : left ≤ 1048576) :
    Calls Try.prog 28 #[.agg #[u0, u1, u2, u3], .int .i64 left] w (PostI w (if left < (szdTPr x : Int) then -1 else left - (szdTPr x : Int))) := by
  obtain ⟨⟨kae, kal⟩, ⟨kbe, kbl⟩⟩ := x
  obtain ⟨vkal, vkbl, e1, gkae, gkbe, hkal, hkbl⟩ := Rd.dTPr h
  simp only [List.cons.injEq, and_true] at e1
  obtain ⟨rfl, rfl, rfl, rfl⟩ := e1
  have hka := Rd.part_ka h
  have hkb := Rd.part_kb h
  unfold maxLen at *
  obtain ⟨R, hR⟩ : ∃ R : Int, R = if left < (szdTPr ((kae, kal), (kbe, kbl)) : Int) then -1 else left - (szdTPr ((kae, kal), (kbe, kbl)) : Int) := ⟨_, rfl⟩
  rw [← hR]
  have hS : szdTPr ((kae, kal), (kbe, kbl)) = kal.length + kbl.length := rfl
  have HR := Lib.hid (show R = if left < ((kal.length + kbl.length : Nat) : Int) then -1 else left - ((kal.length + kbl.length : Nat) : Int) by rw [hR, hS])
  clear hR hS h
  go_enter Try.func28, Try.ntmps28
  go_wp2_with fail
  refine (szKinType_any _ _ _ (kae, kal) (hka.below bwT) left (by omega) (by omega)).mono ?_
  rintro e3 w3 ⟨rfl, hbw3⟩
  have hpw3 : Below w.heap.size w w3 := Below.after bwT hbw3 szT
  have sw3 := hpw3.size
  have hBw3 : Below w.heap.size w w3 := hpw3
  have l_a : w.heap.size < w3.heap.size := by have := hbw3.size; simp at this; omega
  have q_a0 : w3.cell? ⟨w.heap.size, 0, none⟩ = some (.int .i64 kae) := oldc hbw3 ltT (by simp [go_sem])
  have q_a1 : w3.cell? ⟨w.heap.size, 1, none⟩ = some (u1) := oldc hbw3 ltT (by simp [go_sem])
  have q_a2 : w3.cell? ⟨w.heap.size, 2, none⟩ = some (.int .i64 kbe) := oldc hbw3 ltT (by simp [go_sem])
  have q_a3 : w3.cell? ⟨w.heap.size, 3, none⟩ = some (u3) := oldc hbw3 ltT (by simp [go_sem])
  clear hbw3 hpw3
  dsimp only
  by_cases p0 : left < kal.length
  · rw [if_pos p0]
    have HF := Lib.hid (show R = -1 by rw [HR.out, if_pos (by omega)])
    clear HR hkal hkbl hka hkb
    go_wp2
    go_ret
    exact ⟨ret_int HF.out.symm, hBw3⟩
  rw [if_neg p0]
  have pn0 : ¬ left - (kal.length : Int) < 0 := by omega
  obtain ⟨l0, hl0⟩ : ∃ l : Int, l = left - (kal.length : Int) := ⟨_, rfl⟩
  rw [← hl0]
  rw [← hl0] at pn0
  have hL0 := Lib.hid hl0
  have ha0 : 0 ≤ l0 := by omega
  have hb0 : l0 ≤ 1048576 := by omega
  clear hl0
  go_wp2_with fail
  refine (szKinType_any _ _ _ (kbe, kbl) (hkb.below bwT) l0 (by omega) (by omega)).mono ?_
  rintro e4 w4 ⟨rfl, hbw4⟩
  have hpw4 : Below w3.heap.size w3 w4 := Below.after bwT hbw4 szT
  have sw4 := hpw4.size
  have hBw4 : Below w.heap.size w w4 := Below.trans hBw3 (Below.mono hpw4 hBw3.size)
  have q_a0 := oldc hpw4 l_a q_a0
  have q_a1 := oldc hpw4 l_a q_a1
  have q_a2 := oldc hpw4 l_a q_a2
  have q_a3 := oldc hpw4 l_a q_a3
  have l_a := Nat.lt_of_lt_of_le l_a sw4
  clear hbw4 hpw4
  dsimp only
  by_cases p1 : l0 < kbl.length
  · rw [if_pos p1]
    have HF := Lib.hid (show R = -1 by have := hL0.out; rw [HR.out, if_pos (by omega)])
    clear HR hkal hkbl hka hkb
    go_wp2
    go_ret
    exact ⟨ret_int HF.out.symm, hBw4⟩
  rw [if_neg p1]
  have pn1 : ¬ l0 - (kbl.length : Int) < 0 := by omega
  have HF := Lib.hid (show R = l0 - (kbl.length : Int) by have := hL0.out; rw [HR.out, if_neg (by omega)]; omega)
  clear HR hkal hkbl hka hkb
  go_wp2
  go_ret
  exact ⟨ret_int HF.out.symm, hBw4⟩

/-- An owned item comes back. -/
def PostDTPr (w : World) (x : TPr) (e : Ending) (w' : World) : Prop := ∃ (u0 u1 u2 u3 : Value), e = .returned (.agg #[u0, u1, u2, u3]) ∧ Ow w.heap.size w'.heap.size w' [u0, u1, u2, u3] x ∧ Below w.heap.size w w'
set_option maxRecDepth 20000 in
set_option maxHeartbeats 4000000 in
theorem toTypePair_any {z : Bool} {lo hi : Nat} (w : World) (u0 u1 u2 u3 : Value) (kae : Int) (kal : List Stp) (kbe : Int) (kbl : List Stp) (h : Rd z lo hi w [u0, u1, u2, u3] (((kae, kal), (kbe, kbl)) : TPr)) (lkal : kal.length ≤ 1048576) (lkbl : kbl.length ≤ 1048576) :
    Calls Try.prog 33 #[.agg #[u0, u1, u2, u3]] w (PostDTPr w ((kae, kal), (kbe, kbl))) := by
  obtain ⟨vkal, vkbl, e1, gkae, gkbe, hkal, hkbl⟩ := Rd.dTPr h
  simp only [List.cons.injEq, and_true] at e1
  obtain ⟨rfl, rfl, rfl, rfl⟩ := e1
  have hka := Rd.part_ka h
  have hkb := Rd.part_kb h
  have Gkae := Lib.hid gkae
  have Gkbe := Lib.hid gkbe
  clear h gkae gkbe
  go_enter Try.func33, Try.ntmps33
  go_wp2_with fail
  refine (toKinType_any _ _ _ (kae, kal) (hka.below (by go_grown)) lkal).mono ?_
  rintro e w1 ⟨te1, tl1, rfl, how1, hb1⟩
  obtain ⟨rfl, -, hs1⟩ := how1.rd.kin
  obtain ⟨ao1, n1, cap1, rfl, -⟩ := hs1.shape
  clear hs1
  have hB1 : Below w.heap.size w w1 := Below.after (by go_grown) hb1 (by simp; omega)
  have s1 := hb1.size
  obtain ⟨hc1, hf1⟩ := bcell hb1
  simp only [World.size_alloc, World.size_setCell] at how1 s1 hc1 hf1
  obtain ⟨a10, a11, a12⟩ : w.heap.size < w1.heap.size ∧ w.heap.size + 1 < w1.heap.size ∧ w.heap.size + 1 + 1 < w1.heap.size := by omega
  go_wp2_with fail
  refine (toKinType_any _ _ _ (kbe, kbl) (hkb.below (by go_grown)) lkbl).mono ?_
  rintro e w2 ⟨te2, tl2, rfl, how2, hb2⟩
  obtain ⟨rfl, -, hs2⟩ := how2.rd.kin
  obtain ⟨ao2, n2, cap2, rfl, -⟩ := hs2.shape
  clear hs2
  have hB2 : Below w.heap.size w w2 := Below.after (by go_grown) hb2 (by simp; omega)
  have s2 := hb2.size
  obtain ⟨hc2, hf2⟩ := bcell hb2
  simp only [World.size_alloc, World.size_setCell] at how2 s2 hc2 hf2
  obtain ⟨a20, a21, a22⟩ : w.heap.size < w2.heap.size ∧ w.heap.size + 1 < w2.heap.size ∧ w.heap.size + 1 + 1 < w2.heap.size := by omega
  have how1 := how1.keep ((((Zone.refl _ _ _).setCell (.inl (by simp)) _).setCell (.inl (by simp)) _).below hb2 (by simp))
  have HO := Lib.hid (show Ow (w.heap.size + 1 + 1 + 1) w2.heap.size w2 [.int .i64 kae, .slice ao1 n1 cap1, .int .i64 kbe, .slice ao2 n2 cap2] ((((kae, kal), (kbe, kbl))) : TPr) from Ow.pair (c1 := [.int .i64 kae, .slice ao1 n1 cap1]) how1 how2 (.inl (Nat.le_refl _)) (l := w.heap.size + 1 + 1 + 1) (h := w2.heap.size) (by omega) (by omega) (by omega) (by omega))
  clear how1 hb1 how2 hb2 hkal hkbl hka hkb
  go_wp2
  exact bodyPost_ret (v := .agg #[.int .i64 kae, .slice ao1 n1 cap1, .int .i64 kbe, .slice ao2 n2 cap2]) (by simp [results, Try.results33, go_sem, hc1, hc2, a10, a11, a12, a20, a21, a22]) rfl ⟨_, _, _, _, rfl, (HO.out.keep znT).top.mono (by omega) (by simp), bwT⟩

set_option maxRecDepth 20000 in
set_option maxHeartbeats 4000000 in
theorem toTypePairS_any {z : Bool} {lo hi : Nat} (w : World) (v : Value) (xs : List TPr) (h : Rd z lo hi w [v] xs) (hl0 : sszTPr xs ≤ 1048576) :
    Calls Try.prog 10 #[v] w (PostOw w xs) := by
  have hl : xs.length + lenBy szdTPr xs ≤ 1048576 := hl0
  clear hl0
  obtain ⟨ao, n, cap, rfl, rfl, hnc, hcm, hnone⟩ := h.shape
  unfold maxLen at *
  have HLN := Lib.hid (show ∀ x ∈ xs, szdTPr x ≤ 1048576 from fun x hx => by have := lenBy_mem (cnt := szdTPr) hx; omega)
  have hl2 : xs.length ≤ 1048576 := by omega
  clear hl
  go_enter Try.func10, Try.ntmps10
  go_wp2_with (at_make; refine wpList_mk (α := TPr) rfl rfl slTypePair (y0 := ((0, []), (0, []))) (fun _ => dTPr_zero _) rfl rfl rfl rfl (by omega) (by unfold maxLen; omega) ?_; intro w1 how hb1 hlt)
  go_loopw [4] (fun i wr => ∃ k : Nat, k ≤ xs.length ∧ i = .int .i64 k ∧ Hid (Ow w.heap.size wr.heap.size wr [.slice (some ⟨w.heap.size, 0, none⟩) xs.length xs.length] (xs.take k ++ List.replicate (xs.length - k) ((0, []), (0, [])))) ∧ Below w.heap.size w wr ∧ w.heap.size < wr.heap.size) (fun i _ => xs.length - (intOf i).toNat)
  case atStart => exact ⟨0, Nat.zero_le _, rfl, Lib.hid (by simpa using how.top), hb1, hlt⟩
  case round =>
    rename_i wr
    obtain ⟨k, hk, rfl, how', hb, hlt2⟩ := hrel
    have sW := hb.size
    clear how hb1 hlt
    by_cases hlt : k < xs.length
    · obtain ⟨b, off, kae, kal, kbe, kbl, vkal, vkbl, rfl, hx, p0, p1, p2, p3, -, -, -, -, hri, -, -, hbl⟩ := (h.below hb).dTPr_at hlt
      have hI : (k : Int) < (xs.length : Int) := by omega
      have HZ := Lib.hid (HLN.out _ (List.mem_of_getElem? hx.out))
      have HX := Lib.hid (take_rep_snoc (y0 := (((0, []), (0, [])) : TPr)) hx.out)
      clear hx h
      go_wp2_with fail
      refine (toTypePair_any _ _ _ _ _ kae kal kbe kbl hri (by have := HZ.out; unfold szdTPr at this; dsimp only at this; omega) (by have := HZ.out; unfold szdTPr at this; dsimp only at this; omega)).mono ?_
      rintro e w2 ⟨u0, u1, u2, u3, rfl, how2, hb2⟩
      obtain ⟨tkal, tkbl, eu, -, -, gkal, gkbl⟩ := Rd.dTPr how2.rd
      simp only [List.cons.injEq, and_true] at eu
      obtain ⟨rfl, rfl, rfl, rfl⟩ := eu
      obtain ⟨ao1, n1, cap1, rfl, -⟩ := gkal.shape
      obtain ⟨ao3, n3, cap3, rfl, -⟩ := gkbl.shape
      clear gkal gkbl
      have hB2 : Below w.heap.size w w2 := Below.after hb hb2 sW
      have s2 := hb2.size
      have how3 := how'.out.below hb2
      obtain ⟨_, _, kae0, kal0, kbe0, kbl0, vkal0, vkbl0, ee, -, q0, q1, q2, q3, -, -, -, -, -, -, -, hbl2⟩ := how3.rd.dTPr_at hlt
      simp only [Option.some.injEq, Addr.mk.injEq, and_true] at ee
      obtain ⟨rfl, rfl⟩ := ee
      have hf2 : ∀ o, w2.frozen? ⟨w.heap.size, o, none⟩ = false := how3.frz hlt
      simp only [Nat.zero_add] at q0 q1 q2 q3
      have HW := Lib.hid (show Ow w.heap.size w2.heap.size ((((w2.setCell ⟨w.heap.size, k * 4, none⟩ (.int .i64 kae)).setCell ⟨w.heap.size, k * 4 + 1, none⟩ (.slice ao1 n1 cap1)).setCell ⟨w.heap.size, k * 4 + 2, none⟩ (.int .i64 kbe)).setCell ⟨w.heap.size, k * 4 + 3, none⟩ (.slice ao3 n3 cap3)) [.slice (some ⟨w.heap.size, 0, none⟩) xs.length xs.length] ((xs.take k ++ List.replicate (xs.length - k) ((0, []), (0, []))).set k ((kae, kal), (kbe, kbl))) from
        Ow.put_new (i := k) (off := 0) (how3) hlt how2 (Nat.le_refl _) s2 (by omega) (((((Wr.refl w.heap.size (0 + k * 4) 4 w2).setCell (p := k * 4) (by omega) (by omega) (.int .i64 kae)).setCell (p := k * 4 + 1) (by omega) (by omega) (.slice ao1 n1 cap1)).setCell (p := k * 4 + 2) (by omega) (by omega) (.int .i64 kbe)).setCell (p := k * 4 + 3) (by omega) (by omega) (.slice ao3 n3 cap3)) (by
          intro j c hj
          match j, hj with
          | 0, hj => simp at hj; subst hj; simp only [Nat.zero_add, Rep.sz, Nat.reduceAdd, Nat.add_zero]; exact (cell_there (cell_there (cell_there (cell_here q0) (by omega)) (by omega)) (by omega))
          | 1, hj => simp at hj; subst hj; simp only [Nat.zero_add, Rep.sz, Nat.reduceAdd, Nat.add_zero]; exact (cell_there (cell_there (cell_here (cell_there q1 (by omega))) (by omega)) (by omega))
          | 2, hj => simp at hj; subst hj; simp only [Nat.zero_add, Rep.sz, Nat.reduceAdd, Nat.add_zero]; exact (cell_there (cell_here (cell_there (cell_there q2 (by omega)) (by omega))) (by omega))
          | 3, hj => simp at hj; subst hj; simp only [Nat.zero_add, Rep.sz, Nat.reduceAdd, Nat.add_zero]; exact (cell_here (cell_there (cell_there (cell_there q3 (by omega)) (by omega)) (by omega)))
          ))
      rw [HX.out] at HW
      have hbW : Below w.heap.size w ((((w2.setCell ⟨w.heap.size, k * 4, none⟩ (.int .i64 kae)).setCell ⟨w.heap.size, k * 4 + 1, none⟩ (.slice ao1 n1 cap1)).setCell ⟨w.heap.size, k * 4 + 2, none⟩ (.int .i64 kbe)).setCell ⟨w.heap.size, k * 4 + 3, none⟩ (.slice ao3 n3 cap3)) := bwT
      clear how2 how3 how' p0 p1 p2 p3 hb2 HX hri
      go_wp2
      go_roundw
      case rel => exact ⟨k + 1, by omega, by go_num, Lib.hid (HW.out.mono (Nat.le_refl _) (by simp)), hbW, by simp; omega⟩
      case measure => simp [intOf]; omega
    · have e : k = xs.length := by omega
      subst e
      have HS := Lib.hid how'.out
      clear how' h
      go_wp2
      go_ret
      exact ⟨_, rfl, by simpa using HS.out, hb⟩

set_option maxRecDepth 20000 in
set_option maxHeartbeats 4000000 in
theorem szTypePairS_any {z : Bool} {lo hi : Nat} (w : World) (v : Value) (xs : List TPr) (h : Rd z lo hi w [v] xs) (left : Int) (h0 : 0 ≤ left) (h1 : left ≤ 1048576) :
    Calls Try.prog 7 #[v, .int .i64 left] w (PostI w (if left < (sszTPr xs : Int) then -1 else left - (sszTPr xs : Int))) := by
  show Calls Try.prog 7 #[v, .int .i64 left] w (PostI w (if left < (xs.length + lenBy szdTPr xs : Nat) then -1 else left - (xs.length + lenBy szdTPr xs : Nat)))
  obtain ⟨ao, n, cap, rfl, rfl, hnc, hcm, hnone⟩ := h.shape
  unfold maxLen at *
  obtain ⟨R, hR⟩ : ∃ R : Int, R = if left < (xs.length + lenBy szdTPr xs : Nat) then -1 else left - (xs.length + lenBy szdTPr xs : Nat) := ⟨_, rfl⟩
  rw [← hR]
  have HR := Lib.hid hR
  clear hR
  have q : wrap64 (left - (xs.length : Int)) = left - xs.length := IntWalk.wrap64_in _ (by omega)
  by_cases hlt : left < xs.length
  · have HF := Lib.hid (show R = -1 by rw [HR.out, if_pos (by omega)])
    clear HR h
    go_enter Try.func7, Try.ntmps7
    go_wp2
    go_ret
    exact ⟨ret_int HF.out.symm, Below.refl _ _⟩
  · have hge : ¬ left - (xs.length : Int) < 0 := by omega
    go_enter Try.func7, Try.ntmps7
    go_wp2
    go_loopw [1, 5] (fun s1 s5 wr => ∃ (k : Nat) (l : Int), k ≤ xs.length ∧ s5 = .int .i64 k ∧ s1 = .int .i64 l ∧ Hid (l = left - xs.length - lenBy szdTPr (xs.take k)) ∧ 0 ≤ l ∧ l ≤ 1048576 ∧ Below w.heap.size w wr) (fun _ s5 _ => xs.length - (intOf s5).toNat)
    case atStart => exact ⟨0, _, Nat.zero_le _, rfl, rfl, Lib.hid (by simp [lenBy]), by omega, by omega, Below.refl _ _⟩
    case round =>
      rename_i wr
      obtain ⟨k, l, hk, rfl, rfl, hl, hl0, hl1, hb⟩ := hrel
      have sW := hb.size
      by_cases hltk : k < xs.length
      · obtain ⟨b, off, kae, kal, kbe, kbl, vkal, vkbl, rfl, hx, c0, c1, c2, c3, -, -, -, -, hri, -, -, hbl⟩ := (h.below hb).dTPr_at hltk
        have hI : (k : Int) < (xs.length : Int) := by omega
        have hle := lenBy_le szdTPr xs (k + 1)
        rw [lenBy_take hx.out] at hle
        have HT := Lib.hid (lenBy_take (cnt := szdTPr) hx.out)
        have HLE := Lib.hid hle
        clear hle
        go_wp2_with fail
        refine (szTypePair_any _ _ _ _ _ ((kae, kal), (kbe, kbl)) hri l hl0 hl1).mono ?_
        rintro e w1 ⟨rfl, hb1⟩
        have hB1 : Below w.heap.size w w1 := Below.after hb hb1 sW
        obtain ⟨S, hS⟩ : ∃ S, S = szdTPr ((kae, kal), (kbe, kbl)) := ⟨_, rfl⟩
        rw [← hS] at HT HLE ⊢
        clear hx hri hS c0 c1 c2 c3
        by_cases hneg : l < S
        · rw [if_pos hneg]
          have HF := Lib.hid (show R = -1 by rw [HR.out, if_pos]; have := hl.out; have := HLE.out; omega)
          clear HR hl HT h HLE
          go_wp2
          go_ret
          exact ⟨ret_int HF.out.symm, hB1⟩
        · rw [if_neg hneg]
          have hge2 : ¬ l - (S : Int) < 0 := by omega
          have HL := Lib.hid (show l - (S : Int) = left - xs.length - lenBy szdTPr (xs.take (k + 1)) by have := hl.out; have := HT.out; omega)
          clear hl HT h HLE
          go_wp2
          go_roundw
          case rel => exact ⟨k + 1, _, by omega, by go_num, rfl, HL, by omega, by omega, hB1⟩
          case measure => simp [intOf]; omega
      · have HF := Lib.hid (show l = R by
          have h2 := hl.out
          rw [List.take_of_length_le (by omega)] at h2
          rw [HR.out, if_neg (by omega)]; omega)
        clear h hl HR
        go_wp2
        go_ret
        exact ⟨ret_int HF.out, hb⟩

set_option maxRecDepth 20000 in
set_option maxHeartbeats 4000000 in
theorem eqTypePairS_b {z z' : Bool} {lo hi lo' hi' : Nat} (w : World) (u v : Value) (xs ys : List TPr) (h : Rd z lo hi w [u] xs) (h' : Rd z' lo' hi' w [v] ys) (r : Bool) (hr : r = decide (xs = ys)) :
    Calls Try.prog 14 #[u, v] w (PostB w r) := by
  subst hr
  obtain ⟨ao, n, cap, rfl, rfl, hnc, hcm, hnone⟩ := h.shape
  obtain ⟨ao', n', cap', rfl, rfl, hnc', hcm', hnone'⟩ := h'.shape
  unfold maxLen at *
  by_cases hl : xs.length = ys.length
  · have HL := Lib.hid hl
    have hl1 : ¬ xs.length < ys.length := by omega
    have hl2 : ¬ ys.length < xs.length := by omega
    have hbne : (((xs.length : Int)) != (ys.length : Int)) = false := by simp [hl]
    clear hl
    go_enter Try.func14, Try.ntmps14
    go_wp2
    go_loopw [5] (fun i wr => ∃ k : Nat, k ≤ xs.length ∧ i = .int .i64 k ∧ Hid (xs.take k = ys.take k) ∧ Below w.heap.size w wr) (fun i _ => xs.length - (intOf i).toNat)
    case atStart => exact ⟨0, Nat.zero_le _, rfl, rfl, Below.refl _ _⟩
    case round =>
      rename_i wr
      obtain ⟨k, hk, rfl, ht, hb⟩ := hrel
      have sW := hb.size
      by_cases hlt : k < xs.length
      · obtain ⟨b, off, kae, kal, kbe, kbl, vkal, vkbl, rfl, hx, p0, p1, p2, p3, -, -, -, -, hri, -, -, hbl⟩ := (h.below hb).dTPr_at hlt
        obtain ⟨b2, off2, kae2, kal2, kbe2, kbl2, vkal2, vkbl2, rfl, hy, q0, q1, q2, q3, -, -, -, -, hri2, -, -, hbl2⟩ := (h'.below hb).dTPr_at (show k < ys.length by omega)
        have hlt' : k < ys.length := by omega
        have hI : (k : Int) < (xs.length : Int) := by omega
        have hI' : (k : Int) < (ys.length : Int) := by omega
        clear h h'
        obtain ⟨r1, hlet_r1⟩ : ∃ r, r = decide ((((kae, kal), (kbe, kbl)) : TPr) = ((kae2, kal2), (kbe2, kbl2))) := ⟨_, rfl⟩
        have H1 := Lib.hid hlet_r1
        clear hlet_r1
        have HT := Lib.hid (show r1 = true → xs.take (k + 1) = ys.take (k + 1) by
          intro e
          have e2 := of_decide_eq_true (H1.out.symm.trans e)
          rw [take_snoc hx.out, take_snoc hy.out, ht.out, e2])
        have HF := Lib.hid (show r1 = false → decide (xs = ys) = false by
          intro e
          have e2 := of_decide_eq_false (H1.out.symm.trans e)
          rw [decide_eq_false_iff_not]
          intro e3; subst e3
          have := hx.out.symm.trans hy.out
          exact e2 (Option.some.inj this))
        clear ht hx hy
        go_upto_region 6 with fail
        go_region_held3 (fun w' => w'.cell? ⟨b, off + k * 4, none⟩ = some (.int .i64 kae) ∧ w'.cell? ⟨b, off + k * 4 + 1, none⟩ = some (vkal) ∧ w'.cell? ⟨b, off + k * 4 + 2, none⟩ = some (.int .i64 kbe) ∧ w'.cell? ⟨b, off + k * 4 + 3, none⟩ = some (vkbl) ∧ w'.cell? ⟨b2, off2 + k * 4, none⟩ = some (.int .i64 kae2) ∧ w'.cell? ⟨b2, off2 + k * 4 + 1, none⟩ = some (vkal2) ∧ w'.cell? ⟨b2, off2 + k * 4 + 2, none⟩ = some (.int .i64 kbe2) ∧ w'.cell? ⟨b2, off2 + k * 4 + 3, none⟩ = some (vkbl2)) (go_keep) (first | (go_at_call 38; refine (eqTypePair_b _ _ _ _ _ _ _ _ _ ((kae, kal), (kbe, kbl)) ((kae2, kal2), (kbe2, kbl2)) (hri.below bwT) (hri2.below bwT) r1 H1.out).mono ?_; rintro e w1 ⟨rfl, hb1⟩; have hB1 : Below w.heap.size w w1 := Below.after bwT hb1 (by first | omega | (simp; omega) | simp); obtain ⟨hc1, hf1⟩ := bcell hb1; (try simp only [World.size_alloc, World.size_drew] at hc1 hf1)))
        cases r1
        · go_wp2
          go_ret
          exact ⟨ret_bool (HF.out (by trivial)).symm, hB1⟩
        · have HT2 := Lib.hid (HT.out (by trivial))
          go_wp2
          go_roundw
          case rel => exact ⟨k + 1, by omega, by go_num, HT2, hB1⟩
          case measure => simp [intOf]; omega
      · have HF : Hid (decide (xs = ys) = true) := by
          have e := ht.out
          rw [List.take_of_length_le (by omega), List.take_of_length_le (by omega)] at e
          exact decide_eq_true e
        clear h h' ht
        go_wp2
        go_ret
        exact ⟨ret_bool HF.out.symm, hb⟩
  · have HF : Hid (decide (xs = ys) = false) := by
      simp only [decide_eq_false_iff_not]
      intro e; subst e; exact hl rfl
    have hbne : (((xs.length : Int)) != (ys.length : Int)) = true := by simp; omega
    clear hl h h'
    go_enter Try.func14, Try.ntmps14
    go_wp2
    go_ret
    exact ⟨ret_bool HF.out.symm, Below.refl _ _⟩

set_option maxRecDepth 20000 in
set_option maxHeartbeats 8000000 in
theorem markTypePairS_any (w : World) (v : Value) (xs : List TPr) (fp : List Nat) (h : Rep.rep true w [v] xs fp) (hn : fp.Nodup) (k : Int) (hk0 : 0 ≤ k) (hk1 : k + lenBy cntTPr xs ≤ 1000000000) :
    Calls Try.prog 16 #[v, .int .i64 k] w (PostMark fp w [v] (marksBy cntTPr mkdTPr k xs) (k + lenBy cntTPr xs)) := by
  have hR : Rd true 0 w.heap.size w [v] xs := ⟨fp, h, fun b hb => ⟨Nat.zero_le _, Rep.lt h b hb⟩⟩
  obtain ⟨ao, n, cap, rfl, rfl, hnc, hcm, hnone⟩ := hR.shape
  clear hR
  unfold maxLen at *
  have HND := Lib.hid hn
  have HK1 := Lib.hid hk1
  clear hk1 hn
  go_enter Try.func16, Try.ntmps16
  go_wp2
  go_loopw [1, 5] (fun s1 s5 wr => ∃ (j : Nat) (q : Int), j ≤ xs.length ∧ s5 = .int .i64 j ∧ s1 = .int .i64 q ∧ Hid (q = k + lenBy cntTPr (xs.take j)) ∧ Hid (Rep.rep true wr [.slice ao xs.length cap] ((marksBy cntTPr mkdTPr k xs).take j ++ xs.drop j) fp) ∧ Hid (OffF fp w wr)) (fun _ s5 _ => xs.length - (intOf s5).toNat)
  case atStart => exact ⟨0, k, Nat.zero_le _, rfl, rfl, Lib.hid (by simp [lenBy]), Lib.hid (by simpa using h), Lib.hid (OffF.refl _ _)⟩
  case round =>
    obtain ⟨j, q, hj, rfl, rfl, hq, hr, ho⟩ := hrel
    clear h
    by_cases hlt : j < xs.length
    · have hI : (j : Int) < (xs.length : Int) := by omega
      obtain ⟨⟨⟨kae, kal⟩, ⟨kbe, kbl⟩⟩, hx0⟩ : ∃ x, xs[j]? = some x := ⟨_, List.getElem?_eq_getElem hlt⟩
      have hcur := (marksBy_cur (cnt := cntTPr) (mk := mkdTPr) (k := k) hlt).trans hx0
      have HSTEP := Lib.hid (marksBy_step (cnt := cntTPr) (mk := mkdTPr) (k := k) hx0)
      rw [← hq.out] at HSTEP
      have hT := lenBy_take (cnt := cntTPr) hx0
      have hle := lenBy_le cntTPr xs (j + 1)
      have hcx : cntTPr ((kae, kal), (kbe, kbl)) = 2 + 2 * kal.length + 2 * kbl.length := rfl
      rw [hT, hcx] at hle
      rw [hcx] at hT
      have hq0 : 0 ≤ q := by have := hq.out; omega
      have hq1 : q + 2 + 2 * kal.length + 2 * kbl.length ≤ 1000000000 := by have := hq.out; have := HK1.out; omega
      have HQ := Lib.hid (show q + 2 + 2 * kal.length + 2 * kbl.length = k + lenBy cntTPr (xs.take (j + 1)) by have := hq.out; omega)
      obtain ⟨L, hL⟩ : ∃ L, L = (marksBy cntTPr mkdTPr k xs).take j ++ xs.drop j := ⟨_, rfl⟩
      rw [← hL] at hcur HSTEP hr
      have HC0 := Lib.hid hcur
      have hLl : j < L.length := (List.getElem?_eq_some_iff.1 hcur).1
      have HLL := Lib.hid hLl
      clear hx0 hcur hL hT hle hcx hq hLl
      obtain ⟨b, off, x1, cs1, f1, rfl, hx1, hp1, hfn1, -, hbb1, hc1, hff1, hback1⟩ := rep_item hr.out HND.out hlt
      have hx1 := Option.some.inj (hx1.out.symm.trans HC0.out)
      subst hx1
      obtain ⟨vkal_1, vkbl_1, gkal_1, gkbl_1, rfl, hkae_1, hkbe_1, hkal_1, hkbl_1, rfl⟩ := dTPr_inv hp1
      have p0 : wr.cell? ⟨b, off + j * 4, none⟩ = some (.int .i64 kae) := by have := hc1 0 (.int .i64 kae) rfl; simpa [Rep.sz, Nat.add_assoc] using this
      have p1 : wr.cell? ⟨b, off + j * 4 + 1, none⟩ = some (vkal_1) := by have := hc1 1 (vkal_1) rfl; simpa [Rep.sz, Nat.add_assoc] using this
      have p2 : wr.cell? ⟨b, off + j * 4 + 2, none⟩ = some (.int .i64 kbe) := by have := hc1 2 (.int .i64 kbe) rfl; simpa [Rep.sz, Nat.add_assoc] using this
      have p3 : wr.cell? ⟨b, off + j * 4 + 3, none⟩ = some (vkbl_1) := by have := hc1 3 (vkbl_1) rfl; simpa [Rep.sz, Nat.add_assoc] using this
      have hfz : ∀ o, wr.frozen? ⟨b, o, none⟩ = false := rep_frz hr.out (by omega)
      have hblt : b < wr.heap.size := hbb1
      have HPkal_1 := Lib.hid hkal_1
      have HPkbl_1 := Lib.hid hkbl_1
      have HQkae_1 := Lib.hid hkae_1
      have HQkbe_1 := Lib.hid hkbe_1
      have HFS1 := Lib.hid hff1
      have HN1 := Lib.hid hfn1
      clear hp1 hfn1 hc1 hff1 hkae_1 hkal_1 hkbe_1 hkbl_1
      have hm := Lib.hid (rep_head hr.out (by omega))
      have s1 := rep_setd hr.out HND.out (i := j) (j := 0) (u := .int .i64 (q)) (x := ((kae, kal), (kbe, kbl))) (y := (((q), kal), (kbe, kbl))) HC0.out (by show 0 < 4; omega) (fun cs f hr => by obtain ⟨vkal, vkbl, fkal, fkbl, rfl, hkae, hkbe, hkal, hkbl, rfl⟩ := dTPr_inv hr; exact dTPr_mk (by unfold I64; omega) hkbe hkal hkbl)
      simp only [show Rep.sz TPr = 4 from rfl, ← Nat.add_assoc, Nat.add_zero] at s1
      have S1 := Lib.hid s1
      clear s1
      have HC1 := Lib.hid (set_here (y := (((q), kal), (kbe, kbl))) HC0.out)
      have O1 := Lib.hid (ho.out.setCell (p := ⟨b, off + j * 4, none⟩) hm.out (.int .i64 (q)))
      obtain ⟨b2, off2, x2, cs2, f2, eb2, hx2, hp2, hfn2, -, hbb2, hc2, hff2, hback2⟩ := rep_item S1.out HND.out hlt
      simp only [Option.some.injEq, Addr.mk.injEq, and_true] at eb2
      obtain ⟨rfl, rfl⟩ := eb2
      have hx2 := Option.some.inj (hx2.out.symm.trans HC1.out)
      subst hx2
      obtain ⟨vkal_2, vkbl_2, gkal_2, gkbl_2, rfl, hkae_2, hkbe_2, hkal_2, hkbl_2, rfl⟩ := dTPr_inv hp2
      have cc1 := hc2 1 vkal_2 rfl
      simp only [show Rep.sz TPr = 4 from rfl, ← Nat.add_assoc, Nat.add_zero] at cc1
      have ce1 := Option.some.inj (cc1.symm.trans (cell_there p1 (by omega)))
      subst ce1
      clear cc1
      have cc3 := hc2 3 vkbl_2 rfl
      simp only [show Rep.sz TPr = 4 from rfl, ← Nat.add_assoc, Nat.add_zero] at cc3
      have ce3 := Option.some.inj (cc3.symm.trans (cell_there p3 (by omega)))
      subst ce3
      clear cc3
      have HPkal_2 := Lib.hid hkal_2
      have HPkbl_2 := Lib.hid hkbl_2
      have HQkae_2 := Lib.hid hkae_2
      have HQkbe_2 := Lib.hid hkbe_2
      have HFS2 := Lib.hid hff2
      have HN2 := Lib.hid hfn2
      clear hp2 hfn2 hc2 hff2 hkae_2 hkal_2 hkbe_2 hkbl_2
      go_wp2_with fail
      refine (markStepS_any _ _ kal gkal_2 HPkal_2.out (q + 1) (by omega) (by omega)).mono ?_
      rintro e wm1 ⟨rfl, hpm, hom⟩
      have S2 := Lib.hid (hback2.out wm1 (((q), (marksStp (q + 1) kal.length)), (kbe, kbl)) (dTPr_mk HQkae_2.out HQkbe_2.out hpm (Rep.keep HPkbl_2.out (fun i hi => hom.block i (Rep.lt HPkbl_2.out i hi) (by have hnd := HN2.out; simp only [List.nodup_append] at hnd; intro hm2; first | exact hnd.2.2 _ hi _ hm2 rfl | exact hnd.2.2 _ hm2 _ hi rfl)))) (hom.mono (fun i hi => by simp [hi])))
      have HC2 := Lib.hid (set_here (y := (((q), (marksStp (q + 1) kal.length)), (kbe, kbl))) HC1.out)
      have O2 := Lib.hid (O1.out.trans (hom.mono (fun i hi => HFS2.out i (by simp [hi]))))
      clear hpm hom hback2 hfz hblt hback1 p0 p1 p2 p3
      obtain ⟨b3, off3, x3, cs3, f3, eb3, hx3, hp3, hfn3, -, hbb3, hc3, hff3, hback3⟩ := rep_item S2.out HND.out hlt
      simp only [Option.some.injEq, Addr.mk.injEq, and_true] at eb3
      obtain ⟨rfl, rfl⟩ := eb3
      have hx3 := Option.some.inj (hx3.out.symm.trans HC2.out)
      subst hx3
      obtain ⟨vkal_3, vkbl_3, gkal_3, gkbl_3, rfl, hkae_3, hkbe_3, hkal_3, hkbl_3, rfl⟩ := dTPr_inv hp3
      have p0 : wm1.cell? ⟨b, off + j * 4, none⟩ = some (.int .i64 (q)) := by have := hc3 0 (.int .i64 (q)) rfl; simpa [Rep.sz, Nat.add_assoc] using this
      have p1 : wm1.cell? ⟨b, off + j * 4 + 1, none⟩ = some (vkal_3) := by have := hc3 1 (vkal_3) rfl; simpa [Rep.sz, Nat.add_assoc] using this
      have p2 : wm1.cell? ⟨b, off + j * 4 + 2, none⟩ = some (.int .i64 kbe) := by have := hc3 2 (.int .i64 kbe) rfl; simpa [Rep.sz, Nat.add_assoc] using this
      have p3 : wm1.cell? ⟨b, off + j * 4 + 3, none⟩ = some (vkbl_3) := by have := hc3 3 (vkbl_3) rfl; simpa [Rep.sz, Nat.add_assoc] using this
      have hfz : ∀ o, wm1.frozen? ⟨b, o, none⟩ = false := rep_frz S2.out (by omega)
      have hblt : b < wm1.heap.size := hbb3
      have HPkal_3 := Lib.hid hkal_3
      have HPkbl_3 := Lib.hid hkbl_3
      have HQkae_3 := Lib.hid hkae_3
      have HQkbe_3 := Lib.hid hkbe_3
      have HFS3 := Lib.hid hff3
      have HN3 := Lib.hid hfn3
      clear hp3 hfn3 hc3 hff3 hkae_3 hkal_3 hkbe_3 hkbl_3
      have s3 := rep_setd S2.out HND.out (i := j) (j := 2) (u := .int .i64 (q + 1 + 2 * (kal.length : Int))) (x := (((q), (marksStp (q + 1) kal.length)), (kbe, kbl))) (y := (((q), (marksStp (q + 1) kal.length)), ((q + 1 + 2 * (kal.length : Int)), kbl))) HC2.out (by show 2 < 4; omega) (fun cs f hr => by obtain ⟨vkal, vkbl, fkal, fkbl, rfl, hkae, hkbe, hkal, hkbl, rfl⟩ := dTPr_inv hr; exact dTPr_mk hkae (by unfold I64; omega) hkal hkbl)
      simp only [show Rep.sz TPr = 4 from rfl, ← Nat.add_assoc, Nat.add_zero] at s3
      have S3 := Lib.hid s3
      clear s3
      have HC3 := Lib.hid (set_here (y := (((q), (marksStp (q + 1) kal.length)), ((q + 1 + 2 * (kal.length : Int)), kbl))) HC2.out)
      have O3 := Lib.hid (O2.out.setCell (p := ⟨b, off + j * 4 + 2, none⟩) hm.out (.int .i64 (q + 1 + 2 * (kal.length : Int))))
      obtain ⟨b4, off4, x4, cs4, f4, eb4, hx4, hp4, hfn4, -, hbb4, hc4, hff4, hback4⟩ := rep_item S3.out HND.out hlt
      simp only [Option.some.injEq, Addr.mk.injEq, and_true] at eb4
      obtain ⟨rfl, rfl⟩ := eb4
      have hx4 := Option.some.inj (hx4.out.symm.trans HC3.out)
      subst hx4
      obtain ⟨vkal_4, vkbl_4, gkal_4, gkbl_4, rfl, hkae_4, hkbe_4, hkal_4, hkbl_4, rfl⟩ := dTPr_inv hp4
      have cc1 := hc4 1 vkal_4 rfl
      simp only [show Rep.sz TPr = 4 from rfl, ← Nat.add_assoc, Nat.add_zero] at cc1
      have ce1 := Option.some.inj (cc1.symm.trans (cell_there p1 (by omega)))
      subst ce1
      clear cc1
      have cc3 := hc4 3 vkbl_4 rfl
      simp only [show Rep.sz TPr = 4 from rfl, ← Nat.add_assoc, Nat.add_zero] at cc3
      have ce3 := Option.some.inj (cc3.symm.trans (cell_there p3 (by omega)))
      subst ce3
      clear cc3
      have HPkal_4 := Lib.hid hkal_4
      have HPkbl_4 := Lib.hid hkbl_4
      have HQkae_4 := Lib.hid hkae_4
      have HQkbe_4 := Lib.hid hkbe_4
      have HFS4 := Lib.hid hff4
      have HN4 := Lib.hid hfn4
      clear hp4 hfn4 hc4 hff4 hkae_4 hkal_4 hkbe_4 hkbl_4
      go_wp2_with fail
      refine (markStepS_any _ _ kbl gkbl_4 HPkbl_4.out (q + 1 + 2 * (kal.length : Int) + 1) (by omega) (by omega)).mono ?_
      rintro e wm2 ⟨rfl, hpm, hom⟩
      have S4 := Lib.hid (hback4.out wm2 (((q), (marksStp (q + 1) kal.length)), ((q + 1 + 2 * (kal.length : Int)), (marksStp (q + 1 + 2 * (kal.length : Int) + 1) kbl.length))) (dTPr_mk HQkae_4.out HQkbe_4.out (Rep.keep HPkal_4.out (fun i hi => hom.block i (Rep.lt HPkal_4.out i hi) (by have hnd := HN4.out; simp only [List.nodup_append] at hnd; intro hm2; first | exact hnd.2.2 _ hi _ hm2 rfl | exact hnd.2.2 _ hm2 _ hi rfl))) hpm) (hom.mono (fun i hi => by simp [hi])))
      have HC4 := Lib.hid (set_here (y := (((q), (marksStp (q + 1) kal.length)), ((q + 1 + 2 * (kal.length : Int)), (marksStp (q + 1 + 2 * (kal.length : Int) + 1) kbl.length)))) HC3.out)
      have O4 := Lib.hid (O3.out.trans (hom.mono (fun i hi => HFS4.out i (by simp [hi]))))
      clear hpm hom hback4 hfz hblt hback3 p0 p1 p2 p3
      have HS := Lib.hid (show Rep.rep true wm2 [.slice (some ⟨b, off, none⟩) xs.length cap] ((marksBy cntTPr mkdTPr k xs).take (j + 1) ++ xs.drop (j + 1)) fp by
        have e := S4.out
        simp only [List.set_set] at e
        rw [← HSTEP.out]
        exact e)
      have HQE := Lib.hid (show q + 1 + 2 * (kal.length : Int) + 1 + 2 * (kbl.length : Int) = k + lenBy cntTPr (xs.take (j + 1)) by have := HQ.out; omega)
      clear S1 HC1 S2 HC2 S3 HC3 S4 HC4 HSTEP HC0 hr HQ
      go_wp2
      go_roundw
      case rel => exact ⟨j + 1, _, by omega, by go_num, rfl, HQE, HS, O4⟩
      case measure => simp [intOf]; omega
    · obtain rfl : j = xs.length := by omega
      have HS := Lib.hid hr.out
      clear hr
      go_wp2
      go_ret
      refine ⟨ret_int (by rw [hq.out, List.take_length]), ?_, ho.out⟩
      have := HS.out
      rw [List.take_of_length_le (by rw [marksBy_len]; exact Nat.le_refl _)] at this
      simpa using this

end Go.Proofs.Ytaeghinbpkleaaa
