/- Contracts of the laws' helpers on the type Entry: items with lists of steps. Written by deep.py. -/
import Derived.Test.YtcbhdmmohdnjbaaGreatBase
import Derived.Test.YtcbhdmmohdnjbaaGreatEnt
namespace Go.Proofs.YtcbhdmmohdnjbaaGreat
set_option linter.unusedVariables false
set_option linter.unusedSimpArgs false
open Go.RowKit

theorem slEntry : SlTy Tryz.prog 40 70 (.agg #[.int .i64 0, .slice none 0 0, .string ByteArray.empty]) 3 48 := SlTy.of Tryz.underlying40 (by kernel_rfl) rfl
theorem dEnt_inv {z : Bool} {w : World} {cs : List Value} {tye : Int} {tyl : List Stp} {tm : ByteArray} {fp : List Nat} (h : Rep.rep z w cs (((tye, tyl), tm) : Ent) fp) : ∃ (vtyl : Value) (ftyl : List Nat), cs = [.int .i64 tye, vtyl, .string tm] ∧ I64 tye ∧ tm.size ≤ maxLen ∧ Rep.rep z w [vtyl] tyl ftyl ∧ ftyl = fp := by
  obtain ⟨_, _, _, _, rfl, rfl, ⟨_, _, _, _, rfl, rfl, ⟨rfl, htye, rfl⟩, htyl⟩, ⟨rfl, htm, rfl⟩⟩ := h
  have gtyl := htyl
  obtain ⟨vtyl, rfl, -⟩ := gtyl
  exact ⟨vtyl, _, rfl, htye, htm, htyl, by simp⟩
theorem dEnt_mk {z : Bool} {w : World} {tye : Int} {tyl : List Stp} {tm : ByteArray} {vtyl : Value} {ftyl : List Nat} (htye : I64 tye) (htm : tm.size ≤ maxLen) (htyl : Rep.rep z w [vtyl] tyl ftyl) : Rep.rep z w [.int .i64 tye, vtyl, .string tm] (((tye, tyl), tm) : Ent) (ftyl) :=
  ⟨[.int .i64 tye, vtyl], [.string tm], (ftyl), [], rfl, by simp, ⟨[.int .i64 tye], [vtyl], [], (ftyl), rfl, by simp, ⟨rfl, htye, rfl⟩, htyl⟩, ⟨rfl, htm, rfl⟩⟩
theorem Rd.dEnt {z : Bool} {lo hi : Nat} {w : World} {cs : List Value} {tye : Int} {tyl : List Stp} {tm : ByteArray} (h : Rd z lo hi w cs (((tye, tyl), tm) : Ent)) : ∃ (vtyl : Value), cs = [.int .i64 tye, vtyl, .string tm] ∧ I64 tye ∧ tm.size ≤ maxLen ∧ Rd z lo hi w [vtyl] tyl := by
  obtain ⟨fp, hr, hz⟩ := h
  obtain ⟨vtyl, ftyl, rfl, htye, htm, htyl, rfl⟩ := dEnt_inv hr
  exact ⟨vtyl, rfl, htye, htm, ⟨ftyl, htyl, fun b hb => hz b (by simp [hb])⟩⟩
theorem Rd.dEnt_at {z : Bool} {lo hi : Nat} {w : World} {xs : List Ent} {ao : Option Addr} {n cap : Nat} (h : Rd z lo hi w [.slice ao n cap] xs) {i : Nat} (hi' : i < n) :
    ∃ (b off : Nat) (tye : Int) (tyl : List Stp) (tm : ByteArray) (vtyl : Value), ao = some ⟨b, off, none⟩ ∧ Hid (xs[i]? = some ((tye, tyl), tm)) ∧ w.cell? ⟨b, off + i * 3, none⟩ = some (.int .i64 tye) ∧ w.cell? ⟨b, off + i * 3 + 1, none⟩ = some (vtyl) ∧ w.cell? ⟨b, off + i * 3 + 2, none⟩ = some (.string tm) ∧ I64 tye ∧ tm.size ≤ maxLen ∧ Rd z lo hi w [vtyl] tyl ∧ Rd z lo hi w [.int .i64 tye, vtyl, .string tm] (((tye, tyl), tm) : Ent) ∧ lo ≤ b ∧ b < hi ∧ b < w.heap.size := by
  obtain ⟨b, off, ⟨⟨tye, tyl⟩, tm⟩, cs, e, hx, hr, _, g1, g2, g3, hc, hf⟩ := h.at hi'
  have hr0 := hr
  obtain ⟨vtyl, rfl, htye, htm, htyl⟩ := Rd.dEnt hr
  refine ⟨b, off, tye, tyl, tm, vtyl, e, hx, ?_, ?_, ?_, htye, htm, htyl, hr0, g1, g2, g3⟩
  · have := hc 0 (.int .i64 tye) rfl; simpa [Rep.sz, Nat.add_assoc] using this
  · have := hc 1 (vtyl) rfl; simpa [Rep.sz, Nat.add_assoc] using this
  · have := hc 2 (.string tm) rfl; simpa [Rep.sz, Nat.add_assoc] using this
theorem Rd.part_ty {z : Bool} {lo hi : Nat} {w : World} {tye : Int} {tyl : List Stp} {tm : ByteArray} {vtyl : Value} (h : Rd z lo hi w [.int .i64 tye, vtyl, .string tm] (((tye, tyl), tm) : Ent)) : Rd z lo hi w [.int .i64 tye, vtyl] ((tye, tyl) : Kin) := by
  obtain ⟨xtyl, e, gtye, gtm, htyl⟩ := Rd.dEnt h
  simp only [List.cons.injEq, and_true, true_and] at e
  subst e
  exact Rd.kin_mk gtye htyl
theorem dEnt_zero (w : World) : Rep.rep true w (Value.agg #[.int .i64 0, .slice none 0 0, .string ByteArray.empty]).cells.toList (((0, []), ByteArray.empty) : Ent) [] := by
  have hz : Rep.rep true w [.slice none 0 0] ([] : List Stp) [] := ⟨_, rfl, none, 0, 0, rfl, rfl, Nat.le_refl _, by simp [maxLen], fun _ => rfl, .inl ⟨rfl, rfl⟩⟩
  exact dEnt_mk (by unfold I64; omega) (by simp [maxLen]) hz
def cntEnt : Ent → Nat := fun ((tye, tyl), tm) => 2 + 2 * tyl.length
def szdEnt : Ent → Nat := fun ((tye, tyl), tm) => tm.size + tyl.length
def sszEnt (xs : List Ent) : Nat := xs.length + lenBy szdEnt xs
theorem cntEnt_le (xs : List Ent) : lenBy cntEnt xs ≤ 3 * sszEnt xs := by
  unfold sszEnt
  induction xs with
  | nil => simp [lenBy]
  | cons x xs ih =>
    obtain ⟨⟨tye, tyl⟩, tm⟩ := x
    rw [lenBy, lenBy, List.length_cons]
    have : cntEnt ((tye, tyl), tm) ≤ 3 + 3 * szdEnt ((tye, tyl), tm) := by unfold cntEnt szdEnt; dsimp only; omega
    omega
def mkdEnt (k : Int) : Ent → Ent := fun ((tye, tyl), tm) => ((k, marksStp (k + 1) tyl.length), (markTxt (k + 1 + 2 * (tyl.length : Nat)).toNat))
instance decEqLEnt : DecidableEq (List Ent) := fun a b => instDecidableEqList a b

set_option maxRecDepth 20000 in
set_option maxHeartbeats 4000000 in
theorem eqEntry_b {z z' : Bool} {lo hi lo' hi' : Nat} (w : World) (u0 u1 u2 y0 y1 y2 : Value) (x y : Ent) (h : Rd z lo hi w [u0, u1, u2] x) (h' : Rd z' lo' hi' w [y0, y1, y2] y) (r : Bool) (hr : r = decide (x = y)) :
    Calls Tryz.prog 89 #[.agg #[u0, u1, u2], .agg #[y0, y1, y2]] w (PostB w r) := by
  obtain ⟨⟨tye, tyl⟩, tm⟩ := x
  obtain ⟨⟨tye2, tyl2⟩, tm2⟩ := y
  obtain ⟨vtyl, e1, -, -, htyl⟩ := Rd.dEnt h
  obtain ⟨vtyl2, e2, -, -, htyl2⟩ := Rd.dEnt h'
  simp only [List.cons.injEq, and_true] at e1 e2
  obtain ⟨rfl, rfl, rfl⟩ := e1
  obtain ⟨rfl, rfl, rfl⟩ := e2
  have hty := Rd.part_ty h
  have hty2 := Rd.part_ty h'
  obtain ⟨r0, hlet_r0⟩ : ∃ r, r = decide (((tye, tyl) : Kin) = ((tye2, tyl2) : Kin)) := ⟨_, rfl⟩
  have H0 := Lib.hid hlet_r0
  clear hlet_r0
  obtain ⟨r1, hlet_r1⟩ : ∃ r, r = decide (tm = tm2) := ⟨_, rfl⟩
  have H1 := Lib.hid hlet_r1
  clear hlet_r1
  have HR := Lib.hid (show r = (r0 && (r1)) by rw [hr, H0.out, H1.out]; simp [Prod.mk.injEq, and_assoc, Bool.and_assoc])
  clear hr h h'
  go_enter Tryz.func89, Tryz.ntmps89
  go_wp2_with fail
  refine (eqKinType_b _ _ _ _ _ (tye, tyl) (tye2, tyl2) (hty.below bwT) (hty2.below bwT) _ H0.out).mono ?_
  rintro e1 w1 ⟨rfl, hbw1⟩
  have hpw1 : Below w.heap.size w w1 := Below.after bwT hbw1 szT
  have sw1 := hpw1.size
  have hBw1 : Below w.heap.size w w1 := hpw1
  have l_a : w.heap.size < w1.heap.size := by have := hbw1.size; simp at this; omega
  have q_a0 : w1.cell? ⟨w.heap.size, 0, none⟩ = some (.int .i64 tye) := oldc hbw1 ltT (by simp [go_sem])
  have q_a1 : w1.cell? ⟨w.heap.size, 1, none⟩ = some (u1) := oldc hbw1 ltT (by simp [go_sem])
  have q_a2 : w1.cell? ⟨w.heap.size, 2, none⟩ = some (.string tm) := oldc hbw1 ltT (by simp [go_sem])
  have l_b : w.heap.size + 1 < w1.heap.size := by have := hbw1.size; simp at this; omega
  have q_b0 : w1.cell? ⟨w.heap.size + 1, 0, none⟩ = some (.int .i64 tye2) := oldc hbw1 ltT (by simp [go_sem])
  have q_b1 : w1.cell? ⟨w.heap.size + 1, 1, none⟩ = some (y1) := oldc hbw1 ltT (by simp [go_sem])
  have q_b2 : w1.cell? ⟨w.heap.size + 1, 2, none⟩ = some (.string tm2) := oldc hbw1 ltT (by simp [go_sem])
  clear hbw1 hpw1
  cases r0
  · go_wp2
    go_ret
    exact ⟨ret_bool (by rw [HR.out]; rfl), hBw1⟩
  cases r1
  · have q1 : (tm.toList == tm2.toList) = false := by rw [text_eq]; exact H1.out.symm
    have q1n : (tm.toList != tm2.toList) = true := by rw [bne, q1]; rfl
    go_wp2
    go_ret
    exact ⟨ret_bool (by rw [HR.out]; rfl), hBw1⟩
  have q1 : (tm.toList == tm2.toList) = true := by rw [text_eq]; exact H1.out.symm
  have q1n : (tm.toList != tm2.toList) = false := by rw [bne, q1]; rfl
  go_wp2
  go_ret
  exact ⟨ret_bool (by rw [HR.out]; rfl), hBw1⟩

set_option maxRecDepth 20000 in
set_option maxHeartbeats 4000000 in
theorem szEntry_any {z : Bool} {lo hi : Nat} (w : World) (u0 u1 u2 : Value) (x : Ent) (h : Rd z lo hi w [u0, u1, u2] x) (left : Int) (h0 : 0 ≤ left) (h1 : left ≤ 1048576) :
    Calls Tryz.prog 74 #[.agg #[u0, u1, u2], .int .i64 left] w (PostI w (if left < (szdEnt x : Int) then -1 else left - (szdEnt x : Int))) := by
  obtain ⟨⟨tye, tyl⟩, tm⟩ := x
  obtain ⟨vtyl, e1, gtye, gtm, htyl⟩ := Rd.dEnt h
  simp only [List.cons.injEq, and_true] at e1
  obtain ⟨rfl, rfl, rfl⟩ := e1
  have hty := Rd.part_ty h
  unfold maxLen at *
  obtain ⟨R, hR⟩ : ∃ R : Int, R = if left < (szdEnt ((tye, tyl), tm) : Int) then -1 else left - (szdEnt ((tye, tyl), tm) : Int) := ⟨_, rfl⟩
  rw [← hR]
  have hS : szdEnt ((tye, tyl), tm) = tm.size + tyl.length := rfl
  have HR := Lib.hid (show R = if left < ((tm.size + tyl.length : Nat) : Int) then -1 else left - ((tm.size + tyl.length : Nat) : Int) by rw [hR, hS])
  clear hR hS h
  go_enter Tryz.func74, Tryz.ntmps74
  go_wp2_with fail
  refine (szKinType_any _ _ _ (tye, tyl) (hty.below bwT) left (by omega) (by omega)).mono ?_
  rintro e2 w2 ⟨rfl, hbw2⟩
  have hpw2 : Below w.heap.size w w2 := Below.after bwT hbw2 szT
  have sw2 := hpw2.size
  have hBw2 : Below w.heap.size w w2 := hpw2
  have l_a : w.heap.size < w2.heap.size := by have := hbw2.size; simp at this; omega
  have q_a0 : w2.cell? ⟨w.heap.size, 0, none⟩ = some (.int .i64 tye) := oldc hbw2 ltT (by simp [go_sem])
  have q_a1 : w2.cell? ⟨w.heap.size, 1, none⟩ = some (u1) := oldc hbw2 ltT (by simp [go_sem])
  have q_a2 : w2.cell? ⟨w.heap.size, 2, none⟩ = some (.string tm) := oldc hbw2 ltT (by simp [go_sem])
  clear hbw2 hpw2
  dsimp only
  by_cases p0 : left < tyl.length
  · rw [if_pos p0]
    have HF := Lib.hid (show R = -1 by rw [HR.out, if_pos (by omega)])
    clear HR htyl hty
    go_wp2
    go_ret
    exact ⟨ret_int HF.out.symm, hBw2⟩
  rw [if_neg p0]
  have pn0 : ¬ left - (tyl.length : Int) < 0 := by omega
  obtain ⟨l0, hl0⟩ : ∃ l : Int, l = left - (tyl.length : Int) := ⟨_, rfl⟩
  rw [← hl0]
  rw [← hl0] at pn0
  have hL0 := Lib.hid hl0
  have ha0 : 0 ≤ l0 := by omega
  have hb0 : l0 ≤ 1048576 := by omega
  clear hl0
  have wtm_1 : wrap64 (l0 - (tm.size : Int)) = l0 - tm.size := IntWalk.wrap64_in _ (by omega)
  by_cases p1 : l0 < tm.size
  · have HF := Lib.hid (show R = -1 by have := hL0.out; rw [HR.out, if_pos (by omega)])
    have pn : l0 - (tm.size : Int) < 0 := by omega
    clear HR htyl hty
    go_wp2
    go_ret
    exact ⟨ret_int HF.out.symm, hBw2⟩
  have pn1 : ¬ l0 - (tm.size : Int) < 0 := by omega
  have HF := Lib.hid (show R = l0 - (tm.size : Int) by have := hL0.out; rw [HR.out, if_neg (by omega)]; omega)
  clear HR htyl hty
  go_wp2
  go_ret
  exact ⟨ret_int HF.out.symm, hBw2⟩

/-- An owned item comes back. -/
def PostDEnt (w : World) (x : Ent) (e : Ending) (w' : World) : Prop := ∃ (u0 u1 u2 : Value), e = .returned (.agg #[u0, u1, u2]) ∧ Ow w.heap.size w'.heap.size w' [u0, u1, u2] x ∧ Below w.heap.size w w'
set_option maxRecDepth 20000 in
set_option maxHeartbeats 4000000 in
theorem toEntry_any {z : Bool} {lo hi : Nat} (w : World) (u0 u1 u2 : Value) (tye : Int) (tyl : List Stp) (tm : ByteArray) (h : Rd z lo hi w [u0, u1, u2] (((tye, tyl), tm) : Ent)) (ltyl : tyl.length ≤ 1048576) :
    Calls Tryz.prog 82 #[.agg #[u0, u1, u2]] w (PostDEnt w ((tye, tyl), tm)) := by
  obtain ⟨vtyl, e1, gtye, gtm, htyl⟩ := Rd.dEnt h
  simp only [List.cons.injEq, and_true] at e1
  obtain ⟨rfl, rfl, rfl⟩ := e1
  have hty := Rd.part_ty h
  have Gtye := Lib.hid gtye
  have Gtm := Lib.hid gtm
  clear h gtye gtm
  go_enter Tryz.func82, Tryz.ntmps82
  go_wp2_with fail
  refine (toKinType_any _ _ _ (tye, tyl) (hty.below (by go_grown)) ltyl).mono ?_
  rintro e w1 ⟨te1, tl1, rfl, how1, hb1⟩
  obtain ⟨rfl, -, hs1⟩ := how1.rd.kin
  obtain ⟨ao1, n1, cap1, rfl, -⟩ := hs1.shape
  clear hs1
  have hB1 : Below w.heap.size w w1 := Below.after (by go_grown) hb1 (by simp; omega)
  have s1 := hb1.size
  obtain ⟨hc1, hf1⟩ := bcell hb1
  simp only [World.size_alloc, World.size_setCell] at how1 s1 hc1 hf1
  obtain ⟨a10, a11, a12⟩ : w.heap.size < w1.heap.size ∧ w.heap.size + 1 < w1.heap.size ∧ w.heap.size + 1 + 1 < w1.heap.size := by omega
  have HO := Lib.hid (show Ow (w.heap.size + 1 + 1 + 1) w1.heap.size w1 [.int .i64 tye, .slice ao1 n1 cap1, .string tm] ((((tye, tyl), tm)) : Ent) from Ow.pair (c1 := [.int .i64 tye, .slice ao1 n1 cap1]) how1 (Ow.flat0 (x := tm) (cs := [.string tm]) (show Rep.rep true w [Value.string tm] tm [] from ⟨rfl, Gtm.out, rfl⟩) w1.heap.size w1) (.inl (Nat.le_refl _)) (l := w.heap.size + 1 + 1 + 1) (h := w1.heap.size) (by omega) (by omega) (by omega) (by omega))
  clear how1 hb1 htyl hty
  go_wp2
  exact bodyPost_ret (v := .agg #[.int .i64 tye, .slice ao1 n1 cap1, .string tm]) (by simp [results, Tryz.results82, go_sem, hc1, a10, a11, a12]) rfl ⟨_, _, _, rfl, (HO.out.keep znT).top.mono (by omega) (by simp), bwT⟩

set_option maxRecDepth 20000 in
set_option maxHeartbeats 4000000 in
theorem toEntryS_any {z : Bool} {lo hi : Nat} (w : World) (v : Value) (xs : List Ent) (h : Rd z lo hi w [v] xs) (hl0 : sszEnt xs ≤ 1048576) :
    Calls Tryz.prog 42 #[v] w (PostOw w xs) := by
  have hl : xs.length + lenBy szdEnt xs ≤ 1048576 := hl0
  clear hl0
  obtain ⟨ao, n, cap, rfl, rfl, hnc, hcm, hnone⟩ := h.shape
  unfold maxLen at *
  have HLN := Lib.hid (show ∀ x ∈ xs, szdEnt x ≤ 1048576 from fun x hx => by have := lenBy_mem (cnt := szdEnt) hx; omega)
  have hl2 : xs.length ≤ 1048576 := by omega
  clear hl
  go_enter Tryz.func42, Tryz.ntmps42
  go_wp2_with (at_make; refine wpList_mk (α := Ent) rfl rfl slEntry (y0 := ((0, []), ByteArray.empty)) (fun _ => dEnt_zero _) rfl rfl rfl rfl (by omega) (by unfold maxLen; omega) ?_; intro w1 how hb1 hlt)
  go_loopw [4] (fun i wr => ∃ k : Nat, k ≤ xs.length ∧ i = .int .i64 k ∧ Hid (Ow w.heap.size wr.heap.size wr [.slice (some ⟨w.heap.size, 0, none⟩) xs.length xs.length] (xs.take k ++ List.replicate (xs.length - k) ((0, []), ByteArray.empty))) ∧ Below w.heap.size w wr ∧ w.heap.size < wr.heap.size) (fun i _ => xs.length - (intOf i).toNat)
  case atStart => exact ⟨0, Nat.zero_le _, rfl, Lib.hid (by simpa using how.top), hb1, hlt⟩
  case round =>
    rename_i wr
    obtain ⟨k, hk, rfl, how', hb, hlt2⟩ := hrel
    have sW := hb.size
    clear how hb1 hlt
    by_cases hlt : k < xs.length
    · obtain ⟨b, off, tye, tyl, tm, vtyl, rfl, hx, p0, p1, p2, -, -, -, hri, -, -, hbl⟩ := (h.below hb).dEnt_at hlt
      have hI : (k : Int) < (xs.length : Int) := by omega
      have HZ := Lib.hid (HLN.out _ (List.mem_of_getElem? hx.out))
      have HX := Lib.hid (take_rep_snoc (y0 := (((0, []), ByteArray.empty) : Ent)) hx.out)
      clear hx h
      go_wp2_with fail
      refine (toEntry_any _ _ _ _ tye tyl tm hri (by have := HZ.out; unfold szdEnt at this; dsimp only at this; omega)).mono ?_
      rintro e w2 ⟨u0, u1, u2, rfl, how2, hb2⟩
      obtain ⟨ttyl, eu, -, -, gtyl⟩ := Rd.dEnt how2.rd
      simp only [List.cons.injEq, and_true] at eu
      obtain ⟨rfl, rfl, rfl⟩ := eu
      obtain ⟨ao1, n1, cap1, rfl, -⟩ := gtyl.shape
      clear gtyl
      have hB2 : Below w.heap.size w w2 := Below.after hb hb2 sW
      have s2 := hb2.size
      have how3 := how'.out.below hb2
      obtain ⟨_, _, tye0, tyl0, tm0, vtyl0, ee, -, q0, q1, q2, -, -, -, -, -, -, hbl2⟩ := how3.rd.dEnt_at hlt
      simp only [Option.some.injEq, Addr.mk.injEq, and_true] at ee
      obtain ⟨rfl, rfl⟩ := ee
      have hf2 : ∀ o, w2.frozen? ⟨w.heap.size, o, none⟩ = false := how3.frz hlt
      simp only [Nat.zero_add] at q0 q1 q2
      have HW := Lib.hid (show Ow w.heap.size w2.heap.size (((w2.setCell ⟨w.heap.size, k * 3, none⟩ (.int .i64 tye)).setCell ⟨w.heap.size, k * 3 + 1, none⟩ (.slice ao1 n1 cap1)).setCell ⟨w.heap.size, k * 3 + 2, none⟩ (.string tm)) [.slice (some ⟨w.heap.size, 0, none⟩) xs.length xs.length] ((xs.take k ++ List.replicate (xs.length - k) ((0, []), ByteArray.empty)).set k ((tye, tyl), tm)) from
        Ow.put_new (i := k) (off := 0) (how3) hlt how2 (Nat.le_refl _) s2 (by omega) ((((Wr.refl w.heap.size (0 + k * 3) 3 w2).setCell (p := k * 3) (by omega) (by omega) (.int .i64 tye)).setCell (p := k * 3 + 1) (by omega) (by omega) (.slice ao1 n1 cap1)).setCell (p := k * 3 + 2) (by omega) (by omega) (.string tm)) (by
          intro j c hj
          match j, hj with
          | 0, hj => simp at hj; subst hj; simp only [Nat.zero_add, Rep.sz, Nat.reduceAdd, Nat.add_zero]; exact (cell_there (cell_there (cell_here q0) (by omega)) (by omega))
          | 1, hj => simp at hj; subst hj; simp only [Nat.zero_add, Rep.sz, Nat.reduceAdd, Nat.add_zero]; exact (cell_there (cell_here (cell_there q1 (by omega))) (by omega))
          | 2, hj => simp at hj; subst hj; simp only [Nat.zero_add, Rep.sz, Nat.reduceAdd, Nat.add_zero]; exact (cell_here (cell_there (cell_there q2 (by omega)) (by omega)))
          ))
      rw [HX.out] at HW
      have hbW : Below w.heap.size w (((w2.setCell ⟨w.heap.size, k * 3, none⟩ (.int .i64 tye)).setCell ⟨w.heap.size, k * 3 + 1, none⟩ (.slice ao1 n1 cap1)).setCell ⟨w.heap.size, k * 3 + 2, none⟩ (.string tm)) := bwT
      clear how2 how3 how' p0 p1 p2 hb2 HX hri
      go_wp2
      go_roundw
      case rel => exact ⟨k + 1, by omega, by go_num, Lib.hid (HW.out.mono (Nat.le_refl _) (by simp)), hbW, by simp; omega⟩
      case measure => simp [intOf]; omega
    · have e : k = xs.length := by omega
      subst e
      have HS := Lib.hid how'.out
      clear how' h
      go_wp2
      go_ret
      exact ⟨_, rfl, by simpa using HS.out, hb⟩

set_option maxRecDepth 20000 in
set_option maxHeartbeats 4000000 in
theorem szEntryS_any {z : Bool} {lo hi : Nat} (w : World) (v : Value) (xs : List Ent) (h : Rd z lo hi w [v] xs) (left : Int) (h0 : 0 ≤ left) (h1 : left ≤ 1048576) :
    Calls Tryz.prog 36 #[v, .int .i64 left] w (PostI w (if left < (sszEnt xs : Int) then -1 else left - (sszEnt xs : Int))) := by
  show Calls Tryz.prog 36 #[v, .int .i64 left] w (PostI w (if left < (xs.length + lenBy szdEnt xs : Nat) then -1 else left - (xs.length + lenBy szdEnt xs : Nat)))
  obtain ⟨ao, n, cap, rfl, rfl, hnc, hcm, hnone⟩ := h.shape
  unfold maxLen at *
  obtain ⟨R, hR⟩ : ∃ R : Int, R = if left < (xs.length + lenBy szdEnt xs : Nat) then -1 else left - (xs.length + lenBy szdEnt xs : Nat) := ⟨_, rfl⟩
  rw [← hR]
  have HR := Lib.hid hR
  clear hR
  have q : wrap64 (left - (xs.length : Int)) = left - xs.length := IntWalk.wrap64_in _ (by omega)
  by_cases hlt : left < xs.length
  · have HF := Lib.hid (show R = -1 by rw [HR.out, if_pos (by omega)])
    clear HR h
    go_enter Tryz.func36, Tryz.ntmps36
    go_wp2
    go_ret
    exact ⟨ret_int HF.out.symm, Below.refl _ _⟩
  · have hge : ¬ left - (xs.length : Int) < 0 := by omega
    go_enter Tryz.func36, Tryz.ntmps36
    go_wp2
    go_loopw [1, 5] (fun s1 s5 wr => ∃ (k : Nat) (l : Int), k ≤ xs.length ∧ s5 = .int .i64 k ∧ s1 = .int .i64 l ∧ Hid (l = left - xs.length - lenBy szdEnt (xs.take k)) ∧ 0 ≤ l ∧ l ≤ 1048576 ∧ Below w.heap.size w wr) (fun _ s5 _ => xs.length - (intOf s5).toNat)
    case atStart => exact ⟨0, _, Nat.zero_le _, rfl, rfl, Lib.hid (by simp [lenBy]), by omega, by omega, Below.refl _ _⟩
    case round =>
      rename_i wr
      obtain ⟨k, l, hk, rfl, rfl, hl, hl0, hl1, hb⟩ := hrel
      have sW := hb.size
      by_cases hltk : k < xs.length
      · obtain ⟨b, off, tye, tyl, tm, vtyl, rfl, hx, c0, c1, c2, -, -, -, hri, -, -, hbl⟩ := (h.below hb).dEnt_at hltk
        have hI : (k : Int) < (xs.length : Int) := by omega
        have hle := lenBy_le szdEnt xs (k + 1)
        rw [lenBy_take hx.out] at hle
        have HT := Lib.hid (lenBy_take (cnt := szdEnt) hx.out)
        have HLE := Lib.hid hle
        clear hle
        go_wp2_with fail
        refine (szEntry_any _ _ _ _ ((tye, tyl), tm) hri l hl0 hl1).mono ?_
        rintro e w1 ⟨rfl, hb1⟩
        have hB1 : Below w.heap.size w w1 := Below.after hb hb1 sW
        obtain ⟨S, hS⟩ : ∃ S, S = szdEnt ((tye, tyl), tm) := ⟨_, rfl⟩
        rw [← hS] at HT HLE ⊢
        clear hx hri hS c0 c1 c2
        by_cases hneg : l < S
        · rw [if_pos hneg]
          have HF := Lib.hid (show R = -1 by rw [HR.out, if_pos]; have := hl.out; have := HLE.out; omega)
          clear HR hl HT h HLE
          go_wp2
          go_ret
          exact ⟨ret_int HF.out.symm, hB1⟩
        · rw [if_neg hneg]
          have hge2 : ¬ l - (S : Int) < 0 := by omega
          have HL := Lib.hid (show l - (S : Int) = left - xs.length - lenBy szdEnt (xs.take (k + 1)) by have := hl.out; have := HT.out; omega)
          clear hl HT h HLE
          go_wp2
          go_roundw
          case rel => exact ⟨k + 1, _, by omega, by go_num, rfl, HL, by omega, by omega, hB1⟩
          case measure => simp [intOf]; omega
      · have HF := Lib.hid (show l = R by
          have h2 := hl.out
          rw [List.take_of_length_le (by omega)] at h2
          rw [HR.out, if_neg (by omega)]; omega)
        clear h hl HR
        go_wp2
        go_ret
        exact ⟨ret_int HF.out, hb⟩

set_option maxRecDepth 20000 in
set_option maxHeartbeats 4000000 in
theorem eqEntryS_b {z z' : Bool} {lo hi lo' hi' : Nat} (w : World) (u v : Value) (xs ys : List Ent) (h : Rd z lo hi w [u] xs) (h' : Rd z' lo' hi' w [v] ys) (r : Bool) (hr : r = decide (xs = ys)) :
    Calls Tryz.prog 48 #[u, v] w (PostB w r) := by
  subst hr
  obtain ⟨ao, n, cap, rfl, rfl, hnc, hcm, hnone⟩ := h.shape
  obtain ⟨ao', n', cap', rfl, rfl, hnc', hcm', hnone'⟩ := h'.shape
  unfold maxLen at *
  by_cases hl : xs.length = ys.length
  · have HL := Lib.hid hl
    have hl1 : ¬ xs.length < ys.length := by omega
    have hl2 : ¬ ys.length < xs.length := by omega
    have hbne : (((xs.length : Int)) != (ys.length : Int)) = false := by simp [hl]
    clear hl
    go_enter Tryz.func48, Tryz.ntmps48
    go_wp2
    go_loopw [5] (fun i wr => ∃ k : Nat, k ≤ xs.length ∧ i = .int .i64 k ∧ Hid (xs.take k = ys.take k) ∧ Below w.heap.size w wr) (fun i _ => xs.length - (intOf i).toNat)
    case atStart => exact ⟨0, Nat.zero_le _, rfl, rfl, Below.refl _ _⟩
    case round =>
      rename_i wr
      obtain ⟨k, hk, rfl, ht, hb⟩ := hrel
      have sW := hb.size
      by_cases hlt : k < xs.length
      · obtain ⟨b, off, tye, tyl, tm, vtyl, rfl, hx, p0, p1, p2, -, -, -, hri, -, -, hbl⟩ := (h.below hb).dEnt_at hlt
        obtain ⟨b2, off2, tye2, tyl2, tm2, vtyl2, rfl, hy, q0, q1, q2, -, -, -, hri2, -, -, hbl2⟩ := (h'.below hb).dEnt_at (show k < ys.length by omega)
        have hlt' : k < ys.length := by omega
        have hI : (k : Int) < (xs.length : Int) := by omega
        have hI' : (k : Int) < (ys.length : Int) := by omega
        clear h h'
        obtain ⟨r1, hlet_r1⟩ : ∃ r, r = decide ((((tye, tyl), tm) : Ent) = ((tye2, tyl2), tm2)) := ⟨_, rfl⟩
        have H1 := Lib.hid hlet_r1
        clear hlet_r1
        have HT := Lib.hid (show r1 = true → xs.take (k + 1) = ys.take (k + 1) by
          intro e
          have e2 := of_decide_eq_true (H1.out.symm.trans e)
          rw [take_snoc hx.out, take_snoc hy.out, ht.out, e2])
        have HF := Lib.hid (show r1 = false → decide (xs = ys) = false by
          intro e
          have e2 := of_decide_eq_false (H1.out.symm.trans e)
          rw [decide_eq_false_iff_not]
          intro e3; subst e3
          have := hx.out.symm.trans hy.out
          exact e2 (Option.some.inj this))
        clear ht hx hy
        go_upto_region 6 with fail
        go_region_held3 (fun w' => w'.cell? ⟨b, off + k * 3, none⟩ = some (.int .i64 tye) ∧ w'.cell? ⟨b, off + k * 3 + 1, none⟩ = some (vtyl) ∧ w'.cell? ⟨b, off + k * 3 + 2, none⟩ = some (.string tm) ∧ w'.cell? ⟨b2, off2 + k * 3, none⟩ = some (.int .i64 tye2) ∧ w'.cell? ⟨b2, off2 + k * 3 + 1, none⟩ = some (vtyl2) ∧ w'.cell? ⟨b2, off2 + k * 3 + 2, none⟩ = some (.string tm2)) (go_keep) (first | (go_at_call 89; refine (eqEntry_b _ _ _ _ _ _ _ ((tye, tyl), tm) ((tye2, tyl2), tm2) (hri.below bwT) (hri2.below bwT) r1 H1.out).mono ?_; rintro e w1 ⟨rfl, hb1⟩; have hB1 : Below w.heap.size w w1 := Below.after bwT hb1 (by first | omega | (simp; omega) | simp); obtain ⟨hc1, hf1⟩ := bcell hb1; (try simp only [World.size_alloc, World.size_drew] at hc1 hf1)))
        cases r1
        · go_wp2
          go_ret
          exact ⟨ret_bool (HF.out (by trivial)).symm, hB1⟩
        · have HT2 := Lib.hid (HT.out (by trivial))
          go_wp2
          go_roundw
          case rel => exact ⟨k + 1, by omega, by go_num, HT2, hB1⟩
          case measure => simp [intOf]; omega
      · have HF : Hid (decide (xs = ys) = true) := by
          have e := ht.out
          rw [List.take_of_length_le (by omega), List.take_of_length_le (by omega)] at e
          exact decide_eq_true e
        clear h h' ht
        go_wp2
        go_ret
        exact ⟨ret_bool HF.out.symm, hb⟩
  · have HF : Hid (decide (xs = ys) = false) := by
      simp only [decide_eq_false_iff_not]
      intro e; subst e; exact hl rfl
    have hbne : (((xs.length : Int)) != (ys.length : Int)) = true := by simp; omega
    clear hl h h'
    go_enter Tryz.func48, Tryz.ntmps48
    go_wp2
    go_ret
    exact ⟨ret_bool HF.out.symm, Below.refl _ _⟩

set_option maxRecDepth 20000 in
set_option maxHeartbeats 8000000 in
theorem markEntryS_any (w : World) (v : Value) (xs : List Ent) (fp : List Nat) (h : Rep.rep true w [v] xs fp) (hn : fp.Nodup) (k : Int) (hk0 : 0 ≤ k) (hk1 : k + lenBy cntEnt xs ≤ 1000000000) :
    Calls Tryz.prog 58 #[v, .int .i64 k] w (PostMark fp w [v] (marksBy cntEnt mkdEnt k xs) (k + lenBy cntEnt xs)) := by
  have hR : Rd true 0 w.heap.size w [v] xs := ⟨fp, h, fun b hb => ⟨Nat.zero_le _, Rep.lt h b hb⟩⟩
  obtain ⟨ao, n, cap, rfl, rfl, hnc, hcm, hnone⟩ := hR.shape
  clear hR
  unfold maxLen at *
  have HND := Lib.hid hn
  have HK1 := Lib.hid hk1
  clear hk1 hn
  go_enter Tryz.func58, Tryz.ntmps58
  go_wp2
  go_loopw [1, 5] (fun s1 s5 wr => ∃ (j : Nat) (q : Int), j ≤ xs.length ∧ s5 = .int .i64 j ∧ s1 = .int .i64 q ∧ Hid (q = k + lenBy cntEnt (xs.take j)) ∧ Hid (Rep.rep true wr [.slice ao xs.length cap] ((marksBy cntEnt mkdEnt k xs).take j ++ xs.drop j) fp) ∧ Hid (OffF fp w wr)) (fun _ s5 _ => xs.length - (intOf s5).toNat)
  case atStart => exact ⟨0, k, Nat.zero_le _, rfl, rfl, Lib.hid (by simp [lenBy]), Lib.hid (by simpa using h), Lib.hid (OffF.refl _ _)⟩
  case round =>
    obtain ⟨j, q, hj, rfl, rfl, hq, hr, ho⟩ := hrel
    clear h
    by_cases hlt : j < xs.length
    · have hI : (j : Int) < (xs.length : Int) := by omega
      obtain ⟨⟨⟨tye, tyl⟩, tm⟩, hx0⟩ : ∃ x, xs[j]? = some x := ⟨_, List.getElem?_eq_getElem hlt⟩
      have hcur := (marksBy_cur (cnt := cntEnt) (mk := mkdEnt) (k := k) hlt).trans hx0
      have HSTEP := Lib.hid (marksBy_step (cnt := cntEnt) (mk := mkdEnt) (k := k) hx0)
      rw [← hq.out] at HSTEP
      have hT := lenBy_take (cnt := cntEnt) hx0
      have hle := lenBy_le cntEnt xs (j + 1)
      have hcx : cntEnt ((tye, tyl), tm) = 2 + 2 * tyl.length := rfl
      rw [hT, hcx] at hle
      rw [hcx] at hT
      have hq0 : 0 ≤ q := by have := hq.out; omega
      have hq1 : q + 2 + 2 * tyl.length ≤ 1000000000 := by have := hq.out; have := HK1.out; omega
      have HQ := Lib.hid (show q + 2 + 2 * tyl.length = k + lenBy cntEnt (xs.take (j + 1)) by have := hq.out; omega)
      obtain ⟨L, hL⟩ : ∃ L, L = (marksBy cntEnt mkdEnt k xs).take j ++ xs.drop j := ⟨_, rfl⟩
      rw [← hL] at hcur HSTEP hr
      have HC0 := Lib.hid hcur
      have hLl : j < L.length := (List.getElem?_eq_some_iff.1 hcur).1
      have HLL := Lib.hid hLl
      clear hx0 hcur hL hT hle hcx hq hLl
      obtain ⟨b, off, x1, cs1, f1, rfl, hx1, hp1, hfn1, -, hbb1, hc1, hff1, hback1⟩ := rep_item hr.out HND.out hlt
      have hx1 := Option.some.inj (hx1.out.symm.trans HC0.out)
      subst hx1
      obtain ⟨vtyl_1, gtyl_1, rfl, htye_1, htm_1, htyl_1, rfl⟩ := dEnt_inv hp1
      have p0 : wr.cell? ⟨b, off + j * 3, none⟩ = some (.int .i64 tye) := by have := hc1 0 (.int .i64 tye) rfl; simpa [Rep.sz, Nat.add_assoc] using this
      have p1 : wr.cell? ⟨b, off + j * 3 + 1, none⟩ = some (vtyl_1) := by have := hc1 1 (vtyl_1) rfl; simpa [Rep.sz, Nat.add_assoc] using this
      have p2 : wr.cell? ⟨b, off + j * 3 + 2, none⟩ = some (.string tm) := by have := hc1 2 (.string tm) rfl; simpa [Rep.sz, Nat.add_assoc] using this
      have hfz : ∀ o, wr.frozen? ⟨b, o, none⟩ = false := rep_frz hr.out (by omega)
      have hblt : b < wr.heap.size := hbb1
      have HPtyl_1 := Lib.hid htyl_1
      have HQtye_1 := Lib.hid htye_1
      have HQtm_1 := Lib.hid htm_1
      have HFS1 := Lib.hid hff1
      have HN1 := Lib.hid hfn1
      clear hp1 hfn1 hc1 hff1 htye_1 htyl_1 htm_1
      have hm := Lib.hid (rep_head hr.out (by omega))
      have s1 := rep_setd hr.out HND.out (i := j) (j := 0) (u := .int .i64 (q)) (x := ((tye, tyl), tm)) (y := (((q), tyl), tm)) HC0.out (by show 0 < 3; omega) (fun cs f hr => by obtain ⟨vtyl, ftyl, rfl, htye, htm, htyl, rfl⟩ := dEnt_inv hr; exact dEnt_mk (by unfold I64; omega) htm htyl)
      simp only [show Rep.sz Ent = 3 from rfl, ← Nat.add_assoc, Nat.add_zero] at s1
      have S1 := Lib.hid s1
      clear s1
      have HC1 := Lib.hid (set_here (y := (((q), tyl), tm)) HC0.out)
      have O1 := Lib.hid (ho.out.setCell (p := ⟨b, off + j * 3, none⟩) hm.out (.int .i64 (q)))
      obtain ⟨b2, off2, x2, cs2, f2, eb2, hx2, hp2, hfn2, -, hbb2, hc2, hff2, hback2⟩ := rep_item S1.out HND.out hlt
      simp only [Option.some.injEq, Addr.mk.injEq, and_true] at eb2
      obtain ⟨rfl, rfl⟩ := eb2
      have hx2 := Option.some.inj (hx2.out.symm.trans HC1.out)
      subst hx2
      obtain ⟨vtyl_2, gtyl_2, rfl, htye_2, htm_2, htyl_2, rfl⟩ := dEnt_inv hp2
      have cc1 := hc2 1 vtyl_2 rfl
      simp only [show Rep.sz Ent = 3 from rfl, ← Nat.add_assoc, Nat.add_zero] at cc1
      have ce1 := Option.some.inj (cc1.symm.trans (cell_there p1 (by omega)))
      subst ce1
      clear cc1
      have HPtyl_2 := Lib.hid htyl_2
      have HQtye_2 := Lib.hid htye_2
      have HQtm_2 := Lib.hid htm_2
      have HFS2 := Lib.hid hff2
      have HN2 := Lib.hid hfn2
      clear hp2 hfn2 hc2 hff2 htye_2 htyl_2 htm_2
      go_wp2_with fail
      refine (markStepS_any _ _ tyl gtyl_2 HPtyl_2.out (q + 1) (by omega) (by omega)).mono ?_
      rintro e wm1 ⟨rfl, hpm, hom⟩
      have S2 := Lib.hid (hback2.out wm1 (((q), (marksStp (q + 1) tyl.length)), tm) (dEnt_mk HQtye_2.out HQtm_2.out hpm) (hom.mono (fun i hi => by simp [hi])))
      have HC2 := Lib.hid (set_here (y := (((q), (marksStp (q + 1) tyl.length)), tm)) HC1.out)
      have O2 := Lib.hid (O1.out.trans (hom.mono (fun i hi => HFS2.out i (by simp [hi]))))
      clear hpm hom hback2 hfz hblt hback1 p0 p1 p2
      obtain ⟨b3, off3, x3, cs3, f3, eb3, hx3, hp3, hfn3, -, hbb3, hc3, hff3, hback3⟩ := rep_item S2.out HND.out hlt
      simp only [Option.some.injEq, Addr.mk.injEq, and_true] at eb3
      obtain ⟨rfl, rfl⟩ := eb3
      have hx3 := Option.some.inj (hx3.out.symm.trans HC2.out)
      subst hx3
      obtain ⟨vtyl_3, gtyl_3, rfl, htye_3, htm_3, htyl_3, rfl⟩ := dEnt_inv hp3
      have p0 : wm1.cell? ⟨b, off + j * 3, none⟩ = some (.int .i64 (q)) := by have := hc3 0 (.int .i64 (q)) rfl; simpa [Rep.sz, Nat.add_assoc] using this
      have p1 : wm1.cell? ⟨b, off + j * 3 + 1, none⟩ = some (vtyl_3) := by have := hc3 1 (vtyl_3) rfl; simpa [Rep.sz, Nat.add_assoc] using this
      have p2 : wm1.cell? ⟨b, off + j * 3 + 2, none⟩ = some (.string tm) := by have := hc3 2 (.string tm) rfl; simpa [Rep.sz, Nat.add_assoc] using this
      have hfz : ∀ o, wm1.frozen? ⟨b, o, none⟩ = false := rep_frz S2.out (by omega)
      have hblt : b < wm1.heap.size := hbb3
      have HPtyl_3 := Lib.hid htyl_3
      have HQtye_3 := Lib.hid htye_3
      have HQtm_3 := Lib.hid htm_3
      have HFS3 := Lib.hid hff3
      have HN3 := Lib.hid hfn3
      clear hp3 hfn3 hc3 hff3 htye_3 htyl_3 htm_3
      have hms2 : (markTxt (q + 1 + 2 * (tyl.length : Int)).toNat).size ≤ maxLen := by have := markTxt_size (q + 1 + 2 * (tyl.length : Int)).toNat; unfold maxLen; omega
      have HMS2 := Lib.hid hms2
      clear hms2
      go_wp2_with fail
      refine (markText_int _ (q + 1 + 2 * (tyl.length : Int)) (by omega) (by omega)).mono ?_
      rintro e wm2 ⟨rfl, hbwm2⟩
      have S2m := Lib.hid (Rep.keep S2.out (fun b hb => (hbwm2).block b (Rep.lt S2.out b hb)))
      have O2m := Lib.hid (O2.out.below hbwm2)
      clear hbwm2 hfz hblt hback3 p0 p1 p2
      obtain ⟨b4, off4, x4, cs4, f4, eb4, hx4, hp4, hfn4, -, hbb4, hc4, hff4, hback4⟩ := rep_item S2m.out HND.out hlt
      simp only [Option.some.injEq, Addr.mk.injEq, and_true] at eb4
      obtain ⟨rfl, rfl⟩ := eb4
      have hx4 := Option.some.inj (hx4.out.symm.trans HC2.out)
      subst hx4
      obtain ⟨vtyl_4, gtyl_4, rfl, htye_4, htm_4, htyl_4, rfl⟩ := dEnt_inv hp4
      have p0 : wm2.cell? ⟨b, off + j * 3, none⟩ = some (.int .i64 (q)) := by have := hc4 0 (.int .i64 (q)) rfl; simpa [Rep.sz, Nat.add_assoc] using this
      have p1 : wm2.cell? ⟨b, off + j * 3 + 1, none⟩ = some (vtyl_4) := by have := hc4 1 (vtyl_4) rfl; simpa [Rep.sz, Nat.add_assoc] using this
      have p2 : wm2.cell? ⟨b, off + j * 3 + 2, none⟩ = some (.string tm) := by have := hc4 2 (.string tm) rfl; simpa [Rep.sz, Nat.add_assoc] using this
      have hfz : ∀ o, wm2.frozen? ⟨b, o, none⟩ = false := rep_frz S2m.out (by omega)
      have hblt : b < wm2.heap.size := hbb4
      have HPtyl_4 := Lib.hid htyl_4
      have HQtye_4 := Lib.hid htye_4
      have HQtm_4 := Lib.hid htm_4
      have HFS4 := Lib.hid hff4
      have HN4 := Lib.hid hfn4
      clear hp4 hfn4 hc4 hff4 htye_4 htyl_4 htm_4
      have s3 := rep_setd S2m.out HND.out (i := j) (j := 2) (u := .string (markTxt (q + 1 + 2 * (tyl.length : Int)).toNat)) (x := (((q), (marksStp (q + 1) tyl.length)), tm)) (y := (((q), (marksStp (q + 1) tyl.length)), (markTxt (q + 1 + 2 * (tyl.length : Int)).toNat))) HC2.out (by show 2 < 3; omega) (fun cs f hr => by obtain ⟨vtyl, ftyl, rfl, htye, htm, htyl, rfl⟩ := dEnt_inv hr; exact dEnt_mk htye HMS2.out htyl)
      simp only [show Rep.sz Ent = 3 from rfl, ← Nat.add_assoc, Nat.add_zero] at s3
      have S3 := Lib.hid s3
      clear s3
      have HC3 := Lib.hid (set_here (y := (((q), (marksStp (q + 1) tyl.length)), (markTxt (q + 1 + 2 * (tyl.length : Int)).toNat))) HC2.out)
      have O3 := Lib.hid (O2m.out.setCell (p := ⟨b, off + j * 3 + 2, none⟩) hm.out (.string (markTxt (q + 1 + 2 * (tyl.length : Int)).toNat)))
      have HS := Lib.hid (show Rep.rep true (wm2.setCell ⟨b, off + j * 3 + 2, none⟩ (.string (markTxt (q + 1 + 2 * (tyl.length : Int)).toNat))) [.slice (some ⟨b, off, none⟩) xs.length cap] ((marksBy cntEnt mkdEnt k xs).take (j + 1) ++ xs.drop (j + 1)) fp by
        have e := S3.out
        simp only [List.set_set] at e
        rw [← HSTEP.out]
        exact e)
      have HQE := Lib.hid (show q + 1 + 2 * (tyl.length : Int) + 1 = k + lenBy cntEnt (xs.take (j + 1)) by have := HQ.out; omega)
      clear S1 HC1 S2 HC2 S3 HC3 HSTEP HC0 hr HQ
      go_wp2
      go_roundw
      case rel => exact ⟨j + 1, _, by omega, by go_num, rfl, HQE, HS, O3⟩
      case measure => simp [intOf]; omega
    · obtain rfl : j = xs.length := by omega
      have HS := Lib.hid hr.out
      clear hr
      go_wp2
      go_ret
      refine ⟨ret_int (by rw [hq.out, List.take_length]), ?_, ho.out⟩
      have := HS.out
      rw [List.take_of_length_le (by rw [marksBy_len]; exact Nat.le_refl _)] at this
      simpa using this

end Go.Proofs.YtcbhdmmohdnjbaaGreat
