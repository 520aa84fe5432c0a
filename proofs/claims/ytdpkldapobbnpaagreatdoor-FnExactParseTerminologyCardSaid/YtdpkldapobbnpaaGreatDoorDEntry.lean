/- Contracts of the laws' helpers on the type Entry: items with lists of steps. Written by deep.py. -/
import Derived.Test.YtdpkldapobbnpaaGreatDoorBase
import Derived.Test.YtdpkldapobbnpaaGreatDoorEnt
namespace Go.Proofs.YtdpkldapobbnpaaGreatDoor
set_option linter.unusedVariables false
set_option linter.unusedSimpArgs false
open Go.RowKit

theorem slEntry : SlTy Tryz.prog 23 43 (.agg #[.int .i64 0, .slice none 0 0, .string ByteArray.empty]) 3 48 := SlTy.of Tryz.underlying23 (by kernel_rfl) rfl
theorem dEnt_inv {z : Bool} {w : World} {cs : List Value} {tye : Int} {tyl : List Stp} {tm : ByteArray} {fp : List Nat} (h : Rep.rep z w cs (((tye, tyl), tm) : Ent) fp) : ∃ (vtyl : Value) (ftyl : List Nat), cs = [.int .i64 tye, vtyl, .string tm] ∧ I64 tye ∧ tm.size ≤ maxLen ∧ Rep.rep z w [vtyl] tyl ftyl ∧ ftyl = fp := by
  obtain ⟨_, _, _, _, rfl, rfl, ⟨_, _, _, _, rfl, rfl, ⟨rfl, htye, rfl⟩, htyl⟩, ⟨rfl, htm, rfl⟩⟩ := h
  have gtyl := htyl
  obtain ⟨vtyl, rfl, -⟩ := gtyl
  exact ⟨vtyl, _, rfl, htye, htm, htyl, by simp⟩
theorem dEnt_mk {z : Bool} {w : World} {tye : Int} {tyl : List Stp} {tm : ByteArray} {vtyl : Value} {ftyl : List Nat} (htye : I64 tye) (htm : tm.size ≤ maxLen) (htyl : Rep.rep z w [vtyl] tyl ftyl) : Rep.rep z w [.int .i64 tye, vtyl, .string tm] (((tye, tyl), tm) : Ent) (ftyl) :=
  ⟨[.int .i64 tye, vtyl], [.string tm], (ftyl), [], rfl, by simp, ⟨[.int .i64 tye], [vtyl], [], (ftyl), rfl, by simp, ⟨rfl, htye, rfl⟩, htyl⟩, ⟨rfl, htm, rfl⟩⟩
theorem Rd.dEnt {z : Bool} {lo hi : Nat} {w : World} {cs : List Value} {tye : Int} {tyl : List Stp} {tm : ByteArray} (h : Rd z lo hi w cs (((tye, tyl), tm) : Ent)) : ∃ (vtyl : Value), cs = [.int .i64 tye, vtyl, .string tm] ∧ I64 tye ∧ tm.size ≤ maxLen ∧ Rd z lo hi w [vtyl] tyl := by
  obtain ⟨fp, hr, hz⟩ := h
  obtain ⟨vtyl, ftyl, rfl, htye, htm, htyl, rfl⟩ := dEnt_inv hr
  exact ⟨vtyl, rfl, htye, htm, ⟨ftyl, htyl, fun b hb => hz b (by simp [hb])⟩⟩
theorem Rd.dEnt_at {z : Bool} {lo hi : Nat} {w : World} {xs : List Ent} {ao : Option Addr} {n cap : Nat} (h : Rd z lo hi w [.slice ao n cap] xs) {i : Nat} (hi' : i < n) :
    ∃ (b off : Nat) (tye : Int) (tyl : List Stp) (tm : ByteArray) (vtyl : Value), ao = some ⟨b, off, none⟩ ∧ Hid (xs[i]? = some ((tye, tyl), tm)) ∧ w.cell? ⟨b, off + i * 3, none⟩ = some (.int .i64 tye) ∧ w.cell? ⟨b, off + i * 3 + 1, none⟩ = some (vtyl) ∧ w.cell? ⟨b, off + i * 3 + 2, none⟩ = some (.string tm) ∧ I64 tye ∧ tm.size ≤ maxLen ∧ Rd z lo hi w [vtyl] tyl ∧ Rd z lo hi w [.int .i64 tye, vtyl, .string tm] (((tye, tyl), tm) : Ent) ∧ lo ≤ b ∧ b < hi ∧ b < w.heap.size := by
  obtain ⟨b, off, ⟨⟨tye, tyl⟩, tm⟩, cs, e, hx, hr, _, g1, g2, g3, hc, hf⟩ := h.at hi'
  have hr0 := hr
  obtain ⟨vtyl, rfl, htye, htm, htyl⟩ := Rd.dEnt hr
  refine ⟨b, off, tye, tyl, tm, vtyl, e, hx, ?_, ?_, ?_, htye, htm, htyl, hr0, g1, g2, g3⟩
  · have := hc 0 (.int .i64 tye) rfl; simpa [Rep.sz, Nat.add_assoc] using this
  · have := hc 1 (vtyl) rfl; simpa [Rep.sz, Nat.add_assoc] using this
  · have := hc 2 (.string tm) rfl; simpa [Rep.sz, Nat.add_assoc] using this
theorem Rd.part_ty {z : Bool} {lo hi : Nat} {w : World} {tye : Int} {tyl : List Stp} {tm : ByteArray} {vtyl : Value} (h : Rd z lo hi w [.int .i64 tye, vtyl, .string tm] (((tye, tyl), tm) : Ent)) : Rd z lo hi w [.int .i64 tye, vtyl] ((tye, tyl) : Kin) := by
  obtain ⟨xtyl, e, gtye, gtm, htyl⟩ := Rd.dEnt h
  simp only [List.cons.injEq, and_true, true_and] at e
  subst e
  exact Rd.kin_mk gtye htyl
theorem dEnt_zero (w : World) : Rep.rep true w (Value.agg #[.int .i64 0, .slice none 0 0, .string ByteArray.empty]).cells.toList (((0, []), ByteArray.empty) : Ent) [] := by
  have hz : Rep.rep true w [.slice none 0 0] ([] : List Stp) [] := ⟨_, rfl, none, 0, 0, rfl, rfl, Nat.le_refl _, by simp [maxLen], fun _ => rfl, .inl ⟨rfl, rfl⟩⟩
  exact dEnt_mk (by unfold I64; omega) (by simp [maxLen]) hz
def cntEnt : Ent → Nat := fun ((tye, tyl), tm) => 2 + 2 * tyl.length
def szdEnt : Ent → Nat := fun ((tye, tyl), tm) => tm.size + tyl.length
def sszEnt (xs : List Ent) : Nat := xs.length + lenBy szdEnt xs
theorem cntEnt_le (xs : List Ent) : lenBy cntEnt xs ≤ 3 * sszEnt xs := by
  unfold sszEnt
  induction xs with
  | nil => simp [lenBy]
  | cons x xs ih =>
    obtain ⟨⟨tye, tyl⟩, tm⟩ := x
    rw [lenBy, lenBy, List.length_cons]
    have : cntEnt ((tye, tyl), tm) ≤ 3 + 3 * szdEnt ((tye, tyl), tm) := by unfold cntEnt szdEnt; dsimp only; omega
    omega
def mkdEnt (k : Int) : Ent → Ent := fun ((tye, tyl), tm) => ((k, marksStp (k + 1) tyl.length), (markTxt (k + 1 + 2 * (tyl.length : Nat)).toNat))
instance decEqLEnt : DecidableEq (List Ent) := fun a b => instDecidableEqList a b

set_option maxRecDepth 20000 in
set_option maxHeartbeats 4000000 in
theorem eqEntry_b {z z' : Bool} {lo hi lo' hi' : Nat} (w : World) (u0 u1 u2 y0 y1 y2 : Value) (x y : Ent) (h : Rd z lo hi w [u0, u1, u2] x) (h' : Rd z' lo' hi' w [y0, y1, y2] y) (r : Bool) (hr : r = decide (x = y)) :
    Calls Tryz.prog 70 #[.agg #[u0, u1, u2], .agg #[y0, y1, y2]] w (PostB w r) := by
  obtain ⟨⟨tye, tyl⟩, tm⟩ := x
  obtain ⟨⟨tye2, tyl2⟩, tm2⟩ := y
  obtain ⟨vtyl, e1, -, -, htyl⟩ := Rd.dEnt h
  obtain ⟨vtyl2, e2, -, -, htyl2⟩ := Rd.dEnt h'
  simp only [List.cons.injEq, and_true] at e1 e2
  obtain ⟨rfl, rfl, rfl⟩ := e1
  obtain ⟨rfl, rfl, rfl⟩ := e2
  have hty := Rd.part_ty h
  have hty2 := Rd.part_ty h'
  obtain ⟨r0, hlet_r0⟩ : ∃ r, r = decide (((tye, tyl) : Kin) = ((tye2, tyl2) : Kin)) := ⟨_, rfl⟩
  have H0 := Lib.hid hlet_r0
  clear hlet_r0
  obtain ⟨r1, hlet_r1⟩ : ∃ r, r = decide (tm = tm2) := ⟨_, rfl⟩
  have H1 := Lib.hid hlet_r1
  clear hlet_r1
  have HR := Lib.hid (show r = (r0 && (r1)) by rw [hr, H0.out, H1.out]; simp [Prod.mk.injEq, and_assoc, Bool.and_assoc])
  clear hr h h'
  go_enter Tryz.func70, Tryz.ntmps70
  go_wp2_with fail
  refine (eqKinType_b _ _ _ _ _ (tye, tyl) (tye2, tyl2) (hty.below bwT) (hty2.below bwT) _ H0.out).mono ?_
  rintro e1 w1 ⟨rfl, hbw1⟩
  have hpw1 : Below w.heap.size w w1 := Below.after bwT hbw1 szT
  have sw1 := hpw1.size
  have hBw1 : Below w.heap.size w w1 := hpw1
  have l_a : w.heap.size < w1.heap.size := by have := hbw1.size; simp at this; omega
  have q_a0 : w1.cell? ⟨w.heap.size, 0, none⟩ = some (.int .i64 tye) := oldc hbw1 ltT (by simp [go_sem])
  have q_a1 : w1.cell? ⟨w.heap.size, 1, none⟩ = some (u1) := oldc hbw1 ltT (by simp [go_sem])
  have q_a2 : w1.cell? ⟨w.heap.size, 2, none⟩ = some (.string tm) := oldc hbw1 ltT (by simp [go_sem])
  have l_b : w.heap.size + 1 < w1.heap.size := by have := hbw1.size; simp at this; omega
  have q_b0 : w1.cell? ⟨w.heap.size + 1, 0, none⟩ = some (.int .i64 tye2) := oldc hbw1 ltT (by simp [go_sem])
  have q_b1 : w1.cell? ⟨w.heap.size + 1, 1, none⟩ = some (y1) := oldc hbw1 ltT (by simp [go_sem])
  have q_b2 : w1.cell? ⟨w.heap.size + 1, 2, none⟩ = some (.string tm2) := oldc hbw1 ltT (by simp [go_sem])
  clear hbw1 hpw1
  cases r0
  · go_wp2
    go_ret
    exact ⟨ret_bool (by rw [HR.out]; rfl), hBw1⟩
  cases r1
  · have q1 : (tm.toList == tm2.toList) = false := by rw [text_eq]; exact H1.out.symm
    have q1n : (tm.toList != tm2.toList) = true := by rw [bne, q1]; rfl
    go_wp2
    go_ret
    exact ⟨ret_bool (by rw [HR.out]; rfl), hBw1⟩
  have q1 : (tm.toList == tm2.toList) = true := by rw [text_eq]; exact H1.out.symm
  have q1n : (tm.toList != tm2.toList) = false := by rw [bne, q1]; rfl
  go_wp2
  go_ret
  exact ⟨ret_bool (by rw [HR.out]; rfl), hBw1⟩


/-- An owned item comes back. -/
def PostDEnt (w : World) (x : Ent) (e : Ending) (w' : World) : Prop := ∃ (u0 u1 u2 : Value), e = .returned (.agg #[u0, u1, u2]) ∧ Ow w.heap.size w'.heap.size w' [u0, u1, u2] x ∧ Below w.heap.size w w'



set_option maxRecDepth 20000 in
set_option maxHeartbeats 4000000 in
theorem eqEntryS_b {z z' : Bool} {lo hi lo' hi' : Nat} (w : World) (u v : Value) (xs ys : List Ent) (h : Rd z lo hi w [u] xs) (h' : Rd z' lo' hi' w [v] ys) (r : Bool) (hr : r = decide (xs = ys)) :
    Calls Tryz.prog 30 #[u, v] w (PostB w r) := by
  subst hr
  obtain ⟨ao, n, cap, rfl, rfl, hnc, hcm, hnone⟩ := h.shape
  obtain ⟨ao', n', cap', rfl, rfl, hnc', hcm', hnone'⟩ := h'.shape
  unfold maxLen at *
  by_cases hl : xs.length = ys.length
  · have HL := Lib.hid hl
    have hl1 : ¬ xs.length < ys.length := by omega
    have hl2 : ¬ ys.length < xs.length := by omega
    have hbne : (((xs.length : Int)) != (ys.length : Int)) = false := by simp [hl]
    clear hl
    go_enter Tryz.func30, Tryz.ntmps30
    go_wp2
    go_loopw [5] (fun i wr => ∃ k : Nat, k ≤ xs.length ∧ i = .int .i64 k ∧ Hid (xs.take k = ys.take k) ∧ Below w.heap.size w wr) (fun i _ => xs.length - (intOf i).toNat)
    case atStart => exact ⟨0, Nat.zero_le _, rfl, rfl, Below.refl _ _⟩
    case round =>
      rename_i wr
      obtain ⟨k, hk, rfl, ht, hb⟩ := hrel
      have sW := hb.size
      by_cases hlt : k < xs.length
      · obtain ⟨b, off, tye, tyl, tm, vtyl, rfl, hx, p0, p1, p2, -, -, -, hri, -, -, hbl⟩ := (h.below hb).dEnt_at hlt
        obtain ⟨b2, off2, tye2, tyl2, tm2, vtyl2, rfl, hy, q0, q1, q2, -, -, -, hri2, -, -, hbl2⟩ := (h'.below hb).dEnt_at (show k < ys.length by omega)
        have hlt' : k < ys.length := by omega
        have hI : (k : Int) < (xs.length : Int) := by omega
        have hI' : (k : Int) < (ys.length : Int) := by omega
        clear h h'
        obtain ⟨r1, hlet_r1⟩ : ∃ r, r = decide ((((tye, tyl), tm) : Ent) = ((tye2, tyl2), tm2)) := ⟨_, rfl⟩
        have H1 := Lib.hid hlet_r1
        clear hlet_r1
        have HT := Lib.hid (show r1 = true → xs.take (k + 1) = ys.take (k + 1) by
          intro e
          have e2 := of_decide_eq_true (H1.out.symm.trans e)
          rw [take_snoc hx.out, take_snoc hy.out, ht.out, e2])
        have HF := Lib.hid (show r1 = false → decide (xs = ys) = false by
          intro e
          have e2 := of_decide_eq_false (H1.out.symm.trans e)
          rw [decide_eq_false_iff_not]
          intro e3; subst e3
          have := hx.out.symm.trans hy.out
          exact e2 (Option.some.inj this))
        clear ht hx hy
        go_upto_region 6 with fail
        go_region_held3 (fun w' => w'.cell? ⟨b, off + k * 3, none⟩ = some (.int .i64 tye) ∧ w'.cell? ⟨b, off + k * 3 + 1, none⟩ = some (vtyl) ∧ w'.cell? ⟨b, off + k * 3 + 2, none⟩ = some (.string tm) ∧ w'.cell? ⟨b2, off2 + k * 3, none⟩ = some (.int .i64 tye2) ∧ w'.cell? ⟨b2, off2 + k * 3 + 1, none⟩ = some (vtyl2) ∧ w'.cell? ⟨b2, off2 + k * 3 + 2, none⟩ = some (.string tm2)) (go_keep) (first | (go_at_call 70; refine (eqEntry_b _ _ _ _ _ _ _ ((tye, tyl), tm) ((tye2, tyl2), tm2) (hri.below bwT) (hri2.below bwT) r1 H1.out).mono ?_; rintro e w1 ⟨rfl, hb1⟩; have hB1 : Below w.heap.size w w1 := Below.after bwT hb1 (by first | omega | (simp; omega) | simp); obtain ⟨hc1, hf1⟩ := bcell hb1; (try simp only [World.size_alloc, World.size_drew] at hc1 hf1)))
        cases r1
        · go_wp2
          go_ret
          exact ⟨ret_bool (HF.out (by trivial)).symm, hB1⟩
        · have HT2 := Lib.hid (HT.out (by trivial))
          go_wp2
          go_roundw
          case rel => exact ⟨k + 1, by omega, by go_num, HT2, hB1⟩
          case measure => simp [intOf]; omega
      · have HF : Hid (decide (xs = ys) = true) := by
          have e := ht.out
          rw [List.take_of_length_le (by omega), List.take_of_length_le (by omega)] at e
          exact decide_eq_true e
        clear h h' ht
        go_wp2
        go_ret
        exact ⟨ret_bool HF.out.symm, hb⟩
  · have HF : Hid (decide (xs = ys) = false) := by
      simp only [decide_eq_false_iff_not]
      intro e; subst e; exact hl rfl
    have hbne : (((xs.length : Int)) != (ys.length : Int)) = true := by simp; omega
    clear hl h h'
    go_enter Tryz.func30, Tryz.ntmps30
    go_wp2
    go_ret
    exact ⟨ret_bool HF.out.symm, Below.refl _ _⟩

set_option maxRecDepth 20000 in
set_option maxHeartbeats 8000000 in
theorem markEntryS_any (w : World) (v : Value) (xs : List Ent) (fp : List Nat) (h : Rep.rep true w [v] xs fp) (hn : fp.Nodup) (k : Int) (hk0 : 0 ≤ k) (hk1 : k + lenBy cntEnt xs ≤ 1000000000) :
    Calls Tryz.prog 32 #[v, .int .i64 k] w (PostMark fp w [v] (marksBy cntEnt mkdEnt k xs) (k + lenBy cntEnt xs)) := by
  have hR : Rd true 0 w.heap.size w [v] xs := ⟨fp, h, fun b hb => ⟨Nat.zero_le _, Rep.lt h b hb⟩⟩
  obtain ⟨ao, n, cap, rfl, rfl, hnc, hcm, hnone⟩ := hR.shape
  clear hR
  unfold maxLen at *
  have HND := Lib.hid hn
  have HK1 := Lib.hid hk1
  clear hk1 hn
  go_enter Tryz.func32, Tryz.ntmps32
  go_wp2
  go_loopw [1, 5] (fun s1 s5 wr => ∃ (j : Nat) (q : Int), j ≤ xs.length ∧ s5 = .int .i64 j ∧ s1 = .int .i64 q ∧ Hid (q = k + lenBy cntEnt (xs.take j)) ∧ Hid (Rep.rep true wr [.slice ao xs.length cap] ((marksBy cntEnt mkdEnt k xs).take j ++ xs.drop j) fp) ∧ Hid (OffF fp w wr)) (fun _ s5 _ => xs.length - (intOf s5).toNat)
  case atStart => exact ⟨0, k, Nat.zero_le _, rfl, rfl, Lib.hid (by simp [lenBy]), Lib.hid (by simpa using h), Lib.hid (OffF.refl _ _)⟩
  case round =>
    obtain ⟨j, q, hj, rfl, rfl, hq, hr, ho⟩ := hrel
    clear h
    by_cases hlt : j < xs.length
    · have hI : (j : Int) < (xs.length : Int) := by omega
      obtain ⟨⟨⟨tye, tyl⟩, tm⟩, hx0⟩ : ∃ x, xs[j]? = some x := ⟨_, List.getElem?_eq_getElem hlt⟩
      have hcur := (marksBy_cur (cnt := cntEnt) (mk := mkdEnt) (k := k) hlt).trans hx0
      have HSTEP := Lib.hid (marksBy_step (cnt := cntEnt) (mk := mkdEnt) (k := k) hx0)
      rw [← hq.out] at HSTEP
      have hT := lenBy_take (cnt := cntEnt) hx0
      have hle := lenBy_le cntEnt xs (j + 1)
      have hcx : cntEnt ((tye, tyl), tm) = 2 + 2 * tyl.length := rfl
      rw [hT, hcx] at hle
      rw [hcx] at hT
      have hq0 : 0 ≤ q := by have := hq.out; omega
      have hq1 : q + 2 + 2 * tyl.length ≤ 1000000000 := by have := hq.out; have := HK1.out; omega
      have HQ := Lib.hid (show q + 2 + 2 * tyl.length = k + lenBy cntEnt (xs.take (j + 1)) by have := hq.out; omega)
      obtain ⟨L, hL⟩ : ∃ L, L = (marksBy cntEnt mkdEnt k xs).take j ++ xs.drop j := ⟨_, rfl⟩
      rw [← hL] at hcur HSTEP hr
      have HC0 := Lib.hid hcur
      have hLl : j < L.length := (List.getElem?_eq_some_iff.1 hcur).1
      have HLL := Lib.hid hLl
      clear hx0 hcur hL hT hle hcx hq hLl
      obtain ⟨b, off, x1, cs1, f1, rfl, hx1, hp1, hfn1, -, hbb1, hc1, hff1, hback1⟩ := rep_item hr.out HND.out hlt
      have hx1 := Option.some.inj (hx1.out.symm.trans HC0.out)
      subst hx1
      obtain ⟨vtyl_1, gtyl_1, rfl, htye_1, htm_1, htyl_1, rfl⟩ := dEnt_inv hp1
      have p0 : wr.cell? ⟨b, off + j * 3, none⟩ = some (.int .i64 tye) := by have := hc1 0 (.int .i64 tye) rfl; simpa [Rep.sz, Nat.add_assoc] using this
      have p1 : wr.cell? ⟨b, off + j * 3 + 1, none⟩ = some (vtyl_1) := by have := hc1 1 (vtyl_1) rfl; simpa [Rep.sz, Nat.add_assoc] using this
      have p2 : wr.cell? ⟨b, off + j * 3 + 2, none⟩ = some (.string tm) := by have := hc1 2 (.string tm) rfl; simpa [Rep.sz, Nat.add_assoc] using this
      have hfz : ∀ o, wr.frozen? ⟨b, o, none⟩ = false := rep_frz hr.out (by omega)
      have hblt : b < wr.heap.size := hbb1
      have HPtyl_1 := Lib.hid htyl_1
      have HQtye_1 := Lib.hid htye_1
      have HQtm_1 := Lib.hid htm_1
      have HFS1 := Lib.hid hff1
      have HN1 := Lib.hid hfn1
      clear hp1 hfn1 hc1 hff1 htye_1 htyl_1 htm_1
      have hm := Lib.hid (rep_head hr.out (by omega))
      have s1 := rep_setd hr.out HND.out (i := j) (j := 0) (u := .int .i64 (q)) (x := ((tye, tyl), tm)) (y := (((q), tyl), tm)) HC0.out (by show 0 < 3; omega) (fun cs f hr => by obtain ⟨vtyl, ftyl, rfl, htye, htm, htyl, rfl⟩ := dEnt_inv hr; exact dEnt_mk (by unfold I64; omega) htm htyl)
      simp only [show Rep.sz Ent = 3 from rfl, ← Nat.add_assoc, Nat.add_zero] at s1
      have S1 := Lib.hid s1
      clear s1
      have HC1 := Lib.hid (set_here (y := (((q), tyl), tm)) HC0.out)
      have O1 := Lib.hid (ho.out.setCell (p := ⟨b, off + j * 3, none⟩) hm.out (.int .i64 (q)))
      obtain ⟨b2, off2, x2, cs2, f2, eb2, hx2, hp2, hfn2, -, hbb2, hc2, hff2, hback2⟩ := rep_item S1.out HND.out hlt
      simp only [Option.some.injEq, Addr.mk.injEq, and_true] at eb2
      obtain ⟨rfl, rfl⟩ := eb2
      have hx2 := Option.some.inj (hx2.out.symm.trans HC1.out)
      subst hx2
      obtain ⟨vtyl_2, gtyl_2, rfl, htye_2, htm_2, htyl_2, rfl⟩ := dEnt_inv hp2
      have cc1 := hc2 1 vtyl_2 rfl
      simp only [show Rep.sz Ent = 3 from rfl, ← Nat.add_assoc, Nat.add_zero] at cc1
      have ce1 := Option.some.inj (cc1.symm.trans (cell_there p1 (by omega)))
      subst ce1
      clear cc1
      have HPtyl_2 := Lib.hid htyl_2
      have HQtye_2 := Lib.hid htye_2
      have HQtm_2 := Lib.hid htm_2
      have HFS2 := Lib.hid hff2
      have HN2 := Lib.hid hfn2
      clear hp2 hfn2 hc2 hff2 htye_2 htyl_2 htm_2
      go_wp2_with fail
      refine (markStepS_any _ _ tyl gtyl_2 HPtyl_2.out (q + 1) (by omega) (by omega)).mono ?_
      rintro e wm1 ⟨rfl, hpm, hom⟩
      have S2 := Lib.hid (hback2.out wm1 (((q), (marksStp (q + 1) tyl.length)), tm) (dEnt_mk HQtye_2.out HQtm_2.out hpm) (hom.mono (fun i hi => by simp [hi])))
      have HC2 := Lib.hid (set_here (y := (((q), (marksStp (q + 1) tyl.length)), tm)) HC1.out)
      have O2 := Lib.hid (O1.out.trans (hom.mono (fun i hi => HFS2.out i (by simp [hi]))))
      clear hpm hom hback2 hfz hblt hback1 p0 p1 p2
      obtain ⟨b3, off3, x3, cs3, f3, eb3, hx3, hp3, hfn3, -, hbb3, hc3, hff3, hback3⟩ := rep_item S2.out HND.out hlt
      simp only [Option.some.injEq, Addr.mk.injEq, and_true] at eb3
      obtain ⟨rfl, rfl⟩ := eb3
      have hx3 := Option.some.inj (hx3.out.symm.trans HC2.out)
      subst hx3
      obtain ⟨vtyl_3, gtyl_3, rfl, htye_3, htm_3, htyl_3, rfl⟩ := dEnt_inv hp3
      have p0 : wm1.cell? ⟨b, off + j * 3, none⟩ = some (.int .i64 (q)) := by have := hc3 0 (.int .i64 (q)) rfl; simpa [Rep.sz, Nat.add_assoc] using this
      have p1 : wm1.cell? ⟨b, off + j * 3 + 1, none⟩ = some (vtyl_3) := by have := hc3 1 (vtyl_3) rfl; simpa [Rep.sz, Nat.add_assoc] using this
      have p2 : wm1.cell? ⟨b, off + j * 3 + 2, none⟩ = some (.string tm) := by have := hc3 2 (.string tm) rfl; simpa [Rep.sz, Nat.add_assoc] using this
      have hfz : ∀ o, wm1.frozen? ⟨b, o, none⟩ = false := rep_frz S2.out (by omega)
      have hblt : b < wm1.heap.size := hbb3
      have HPtyl_3 := Lib.hid htyl_3
      have HQtye_3 := Lib.hid htye_3
      have HQtm_3 := Lib.hid htm_3
      have HFS3 := Lib.hid hff3
      have HN3 := Lib.hid hfn3
      clear hp3 hfn3 hc3 hff3 htye_3 htyl_3 htm_3
      have hms2 : (markTxt (q + 1 + 2 * (tyl.length : Int)).toNat).size ≤ maxLen := by have := markTxt_size (q + 1 + 2 * (tyl.length : Int)).toNat; unfold maxLen; omega
      have HMS2 := Lib.hid hms2
      clear hms2
      go_wp2_with fail
      refine (markText_int _ (q + 1 + 2 * (tyl.length : Int)) (by omega) (by omega)).mono ?_
      rintro e wm2 ⟨rfl, hbwm2⟩
      have S2m := Lib.hid (Rep.keep S2.out (fun b hb => (hbwm2).block b (Rep.lt S2.out b hb)))
      have O2m := Lib.hid (O2.out.below hbwm2)
      clear hbwm2 hfz hblt hback3 p0 p1 p2
      obtain ⟨b4, off4, x4, cs4, f4, eb4, hx4, hp4, hfn4, -, hbb4, hc4, hff4, hback4⟩ := rep_item S2m.out HND.out hlt
      simp only [Option.some.injEq, Addr.mk.injEq, and_true] at eb4
      obtain ⟨rfl, rfl⟩ := eb4
      have hx4 := Option.some.inj (hx4.out.symm.trans HC2.out)
      subst hx4
      obtain ⟨vtyl_4, gtyl_4, rfl, htye_4, htm_4, htyl_4, rfl⟩ := dEnt_inv hp4
      have p0 : wm2.cell? ⟨b, off + j * 3, none⟩ = some (.int .i64 (q)) := by have := hc4 0 (.int .i64 (q)) rfl; simpa [Rep.sz, Nat.add_assoc] using this
      have p1 : wm2.cell? ⟨b, off + j * 3 + 1, none⟩ = some (vtyl_4) := by have := hc4 1 (vtyl_4) rfl; simpa [Rep.sz, Nat.add_assoc] using this
      have p2 : wm2.cell? ⟨b, off + j * 3 + 2, none⟩ = some (.string tm) := by have := hc4 2 (.string tm) rfl; simpa [Rep.sz, Nat.add_assoc] using this
      have hfz : ∀ o, wm2.frozen? ⟨b, o, none⟩ = false := rep_frz S2m.out (by omega)
      have hblt : b < wm2.heap.size := hbb4
      have HPtyl_4 := Lib.hid htyl_4
      have HQtye_4 := Lib.hid htye_4
      have HQtm_4 := Lib.hid htm_4
      have HFS4 := Lib.hid hff4
      have HN4 := Lib.hid hfn4
      clear hp4 hfn4 hc4 hff4 htye_4 htyl_4 htm_4
      have s3 := rep_setd S2m.out HND.out (i := j) (j := 2) (u := .string (markTxt (q + 1 + 2 * (tyl.length : Int)).toNat)) (x := (((q), (marksStp (q + 1) tyl.length)), tm)) (y := (((q), (marksStp (q + 1) tyl.length)), (markTxt (q + 1 + 2 * (tyl.length : Int)).toNat))) HC2.out (by show 2 < 3; omega) (fun cs f hr => by obtain ⟨vtyl, ftyl, rfl, htye, htm, htyl, rfl⟩ := dEnt_inv hr; exact dEnt_mk htye HMS2.out htyl)
      simp only [show Rep.sz Ent = 3 from rfl, ← Nat.add_assoc, Nat.add_zero] at s3
      have S3 := Lib.hid s3
      clear s3
      have HC3 := Lib.hid (set_here (y := (((q), (marksStp (q + 1) tyl.length)), (markTxt (q + 1 + 2 * (tyl.length : Int)).toNat))) HC2.out)
      have O3 := Lib.hid (O2m.out.setCell (p := ⟨b, off + j * 3 + 2, none⟩) hm.out (.string (markTxt (q + 1 + 2 * (tyl.length : Int)).toNat)))
      have HS := Lib.hid (show Rep.rep true (wm2.setCell ⟨b, off + j * 3 + 2, none⟩ (.string (markTxt (q + 1 + 2 * (tyl.length : Int)).toNat))) [.slice (some ⟨b, off, none⟩) xs.length cap] ((marksBy cntEnt mkdEnt k xs).take (j + 1) ++ xs.drop (j + 1)) fp by
        have e := S3.out
        simp only [List.set_set] at e
        rw [← HSTEP.out]
        exact e)
      have HQE := Lib.hid (show q + 1 + 2 * (tyl.length : Int) + 1 = k + lenBy cntEnt (xs.take (j + 1)) by have := HQ.out; omega)
      clear S1 HC1 S2 HC2 S3 HC3 HSTEP HC0 hr HQ
      go_wp2
      go_roundw
      case rel => exact ⟨j + 1, _, by omega, by go_num, rfl, HQE, HS, O3⟩
      case measure => simp [intOf]; omega
    · obtain rfl : j = xs.length := by omega
      have HS := Lib.hid hr.out
      clear hr
      go_wp2
      go_ret
      refine ⟨ret_int (by rw [hq.out, List.take_length]), ?_, ho.out⟩
      have := HS.out
      rw [List.take_of_length_le (by rw [marksBy_len]; exact Nat.le_refl _)] at this
      simpa using this

set_option maxRecDepth 100000 in
set_option maxHeartbeats 8000000 in
theorem heldEntryS_any {z : Bool} {lo hi : Nat} (w : World) (v : Value) (xs : List Ent) (k : Int) (h : Rd z lo hi w [v] (marksBy cntEnt mkdEnt k xs)) (hk0 : 0 ≤ k) (hk1 : k + lenBy cntEnt xs ≤ 1000000000) :
    Calls Tryz.prog 34 #[v, .int .i64 k] w (PostI w (k + lenBy cntEnt xs)) := by
  obtain ⟨ao, n', cap, rfl, hl, hnc, hcm, hnone⟩ := h.shape
  rw [marksBy_len] at hl
  subst hl
  unfold maxLen at *
  have HK1 := Lib.hid hk1
  clear hk1
  go_enter Tryz.func34, Tryz.ntmps34
  go_wp2
  go_loopw [1, 5] (fun s1 s5 wr => ∃ (j : Nat) (q : Int), j ≤ xs.length ∧ s5 = .int .i64 j ∧ s1 = .int .i64 q ∧ Hid (q = k + lenBy cntEnt (xs.take j)) ∧ Below w.heap.size w wr) (fun _ s5 _ => xs.length - (intOf s5).toNat)
  case atStart => exact ⟨0, k, Nat.zero_le _, rfl, rfl, Lib.hid (by simp [lenBy]), Below.refl _ _⟩
  case round =>
    rename_i wr
    obtain ⟨j, q, hj, rfl, rfl, hq, hb⟩ := hrel
    have sW := hb.size
    by_cases hlt : j < xs.length
    · have hI : (j : Int) < (xs.length : Int) := by omega
      obtain ⟨⟨⟨tye, tyl⟩, tm⟩, hx0⟩ : ∃ x, xs[j]? = some x := ⟨_, List.getElem?_eq_getElem hlt⟩
      have hT := lenBy_take (cnt := cntEnt) hx0
      have hle := lenBy_le cntEnt xs (j + 1)
      have hcx : cntEnt ((tye, tyl), tm) = 2 + 2 * tyl.length := rfl
      rw [hT, hcx] at hle
      rw [hcx] at hT
      have hq0 : 0 ≤ q := by have := hq.out; omega
      have hq1 : q + 2 + 2 * tyl.length ≤ 1000000000 := by have := hq.out; have := HK1.out; omega
      have HQ := Lib.hid (show q + 2 + 2 * tyl.length = k + lenBy cntEnt (xs.take (j + 1)) by have := hq.out; omega)
      obtain ⟨b, off, tye0, tyl0, tm0, vtyl, rfl, hx, p0, p1, p2, -, -, htyl, -, -, -, hbl⟩ := (h.below hb).dEnt_at hlt
      have hx' := (hx.out.symm.trans (marksBy_at k hx0)).symm
      rw [← hq.out] at hx'
      simp only [mkdEnt, Option.some.injEq, Prod.mk.injEq] at hx'
      obtain ⟨⟨rfl, rfl⟩, rfl⟩ := hx'
      clear hx hx0 hT hle hcx hq h
      have e1 : ∀ x : Int, (x != x) = false := fun x => by simp
      go_wp2_with fail
      refine (heldStepS_any _ vtyl tyl.length (q + 1) htyl (by omega) (by omega)).mono ?_
      rintro e wh1 ⟨rfl, hbwh1⟩
      have hBwh1 : Below w.heap.size w wh1 := Below.after hb hbwh1 (by omega)
      have swh1 := hbwh1.size
      have p0 := oldc hbwh1 hbl p0
      have p1 := oldc hbwh1 hbl p1
      have p2 := oldc hbwh1 hbl p2
      have htyl := htyl.below hbwh1
      have hbl := Nat.lt_of_lt_of_le hbl swh1
      have ge1 : ¬ q + 1 + 2 * (tyl.length : Int) < 0 := by omega
      clear hbwh1
      have q2n : ((markTxt (q + 1 + 2 * (tyl.length : Int)).toNat).toList != (markTxt (q + 1 + 2 * (tyl.length : Int)).toNat).toList) = false := by simp
      go_upto_region 10 with fail
      go_region_held3 (fun w' => w'.cell? ⟨b, off + j * 3 + 2, none⟩ = some (.string (markTxt (q + 1 + 2 * (tyl.length : Int)).toNat))) (go_keep) (first | (go_at_call 71; refine (markText_int _ (q + 1 + 2 * (tyl.length : Int)) (by omega) (by omega)).mono ?_; rintro e wh2 ⟨rfl, hbwh2⟩; have hpwh2 : Below wh1.heap.size wh1 wh2 := Below.trans (Below.drew (Below.refl _ _)) hbwh2; have hBwh2 : Below w.heap.size w wh2 := Below.after hBwh1 hpwh2 (by omega); have swh2 := hpwh2.size; have p0 := oldc hpwh2 hbl p0; have p1 := oldc hpwh2 hbl p1; have p2 := oldc hpwh2 hbl p2; have htyl := htyl.below (Below.trans (Below.drew (Below.refl _ _)) hbwh2); have hbl := Nat.lt_of_lt_of_le hbl swh2; clear hbwh2 hpwh2))
      rename_i hHeld
      clear hHeld
      have HQE := Lib.hid (show q + 1 + 2 * (tyl.length : Int) + 1 = k + lenBy cntEnt (xs.take (j + 1)) by have := HQ.out; omega)
      clear HQ htyl
      go_wp2
      go_roundw
      case rel => exact ⟨j + 1, _, by omega, by go_num, rfl, HQE, hBwh2⟩
      case measure => simp [intOf]; omega
    · obtain rfl : j = xs.length := by omega
      have HQ := Lib.hid (show q = k + lenBy cntEnt xs by rw [hq.out, List.take_length])
      clear h hq
      go_wp2
      go_ret
      exact ⟨ret_int HQ.out, hb⟩
end Go.Proofs.YtdpkldapobbnpaaGreatDoor
