/- Contracts of the laws' helpers on the type KinType: items with lists of steps. Written by deep.py. -/
import Derived.Test.YtdjnogcljmaapaaPut
import Derived.Test.YtdjnogcljmaapaaMkStep
import Derived.Test.YtdjnogcljmaapaaKinH
import Derived.Test.YtdjnogcljmaapaaKinS
namespace Go.Proofs.Ytdjnogcljmaapaa
set_option linter.unusedVariables false
set_option linter.unusedSimpArgs false
open Go.RowKit

theorem slKinType : SlTy Try.prog 46 36 (.agg #[.int .i64 0, .slice none 0 0]) 2 32 := SlTy.of Try.underlying46 (by kernel_rfl) rfl
theorem dKin_inv {z : Bool} {w : World} {cs : List Value} {eg : Int} {sl : List Stp} {fp : List Nat} (h : Rep.rep z w cs ((eg, sl) : Kin) fp) : ∃ (vsl : Value) (fsl : List Nat), cs = [.int .i64 eg, vsl] ∧ I64 eg ∧ Rep.rep z w [vsl] sl fsl ∧ fsl = fp := by
  obtain ⟨_, _, _, _, rfl, rfl, ⟨rfl, heg, rfl⟩, hsl⟩ := h
  have gsl := hsl
  obtain ⟨vsl, rfl, -⟩ := gsl
  exact ⟨vsl, _, rfl, heg, hsl, by simp⟩
theorem dKin_mk {z : Bool} {w : World} {eg : Int} {sl : List Stp} {vsl : Value} {fsl : List Nat} (heg : I64 eg) (hsl : Rep.rep z w [vsl] sl fsl) : Rep.rep z w [.int .i64 eg, vsl] ((eg, sl) : Kin) (fsl) :=
  ⟨[.int .i64 eg], [vsl], [], (fsl), rfl, by simp, ⟨rfl, heg, rfl⟩, hsl⟩
theorem Rd.dKin {z : Bool} {lo hi : Nat} {w : World} {cs : List Value} {eg : Int} {sl : List Stp} (h : Rd z lo hi w cs ((eg, sl) : Kin)) : ∃ (vsl : Value), cs = [.int .i64 eg, vsl] ∧ I64 eg ∧ Rd z lo hi w [vsl] sl := by
  obtain ⟨fp, hr, hz⟩ := h
  obtain ⟨vsl, fsl, rfl, heg, hsl, rfl⟩ := dKin_inv hr
  exact ⟨vsl, rfl, heg, ⟨fsl, hsl, fun b hb => hz b (by simp [hb])⟩⟩
theorem Rd.dKin_at {z : Bool} {lo hi : Nat} {w : World} {xs : List Kin} {ao : Option Addr} {n cap : Nat} (h : Rd z lo hi w [.slice ao n cap] xs) {i : Nat} (hi' : i < n) :
    ∃ (b off : Nat) (eg : Int) (sl : List Stp) (vsl : Value), ao = some ⟨b, off, none⟩ ∧ Hid (xs[i]? = some (eg, sl)) ∧ w.cell? ⟨b, off + i * 2, none⟩ = some (.int .i64 eg) ∧ w.cell? ⟨b, off + i * 2 + 1, none⟩ = some (vsl) ∧ I64 eg ∧ Rd z lo hi w [vsl] sl ∧ Rd z lo hi w [.int .i64 eg, vsl] ((eg, sl) : Kin) ∧ lo ≤ b ∧ b < hi ∧ b < w.heap.size := by
  obtain ⟨b, off, ⟨eg, sl⟩, cs, e, hx, hr, _, g1, g2, g3, hc, hf⟩ := h.at hi'
  have hr0 := hr
  obtain ⟨vsl, rfl, heg, hsl⟩ := Rd.dKin hr
  refine ⟨b, off, eg, sl, vsl, e, hx, ?_, ?_, heg, hsl, hr0, g1, g2, g3⟩
  · have := hc 0 (.int .i64 eg) rfl; simpa [Rep.sz, Nat.add_assoc] using this
  · have := hc 1 (vsl) rfl; simpa [Rep.sz, Nat.add_assoc] using this
theorem dKin_zero (w : World) : Rep.rep true w (Value.agg #[.int .i64 0, .slice none 0 0]).cells.toList ((0, []) : Kin) [] := by
  have hz : Rep.rep true w [.slice none 0 0] ([] : List Stp) [] := ⟨_, rfl, none, 0, 0, rfl, rfl, Nat.le_refl _, by simp [maxLen], fun _ => rfl, .inl ⟨rfl, rfl⟩⟩
  exact dKin_mk (by unfold I64; omega) hz
def cntKin : Kin → Nat := fun (eg, sl) => 1 + 2 * sl.length
def szdKin : Kin → Nat := fun (eg, sl) => sl.length
def sszKin (xs : List Kin) : Nat := xs.length + lenBy szdKin xs
theorem cntKin_le (xs : List Kin) : lenBy cntKin xs ≤ 3 * sszKin xs := by
  unfold sszKin
  induction xs with
  | nil => simp [lenBy]
  | cons x xs ih =>
    obtain ⟨eg, sl⟩ := x
    rw [lenBy, lenBy, List.length_cons]
    have : cntKin (eg, sl) ≤ 3 + 3 * szdKin (eg, sl) := by unfold cntKin szdKin; dsimp only; omega
    omega
def mkdKin (k : Int) : Kin → Kin := fun (eg, sl) => (k, marksStp (k + 1) sl.length)
instance decEqLKin : DecidableEq (List Kin) := fun a b => instDecidableEqList a b

set_option maxRecDepth 20000 in
set_option maxHeartbeats 4000000 in
theorem eqKinTypeS_b {z z' : Bool} {lo hi lo' hi' : Nat} (w : World) (u v : Value) (xs ys : List Kin) (h : Rd z lo hi w [u] xs) (h' : Rd z' lo' hi' w [v] ys) (r : Bool) (hr : r = decide (xs = ys)) :
    Calls Try.prog 32 #[u, v] w (PostB w r) := by
  subst hr
  obtain ⟨ao, n, cap, rfl, rfl, hnc, hcm, hnone⟩ := h.shape
  obtain ⟨ao', n', cap', rfl, rfl, hnc', hcm', hnone'⟩ := h'.shape
  unfold maxLen at *
  by_cases hl : xs.length = ys.length
  · have HL := Lib.hid hl
    have hl1 : ¬ xs.length < ys.length := by omega
    have hl2 : ¬ ys.length < xs.length := by omega
    have hbne : (((xs.length : Int)) != (ys.length : Int)) = false := by simp [hl]
    clear hl
    go_enter Try.func32, Try.ntmps32
    go_wp2
    go_loopw [5] (fun i wr => ∃ k : Nat, k ≤ xs.length ∧ i = .int .i64 k ∧ Hid (xs.take k = ys.take k) ∧ Below w.heap.size w wr) (fun i _ => xs.length - (intOf i).toNat)
    case atStart => exact ⟨0, Nat.zero_le _, rfl, rfl, Below.refl _ _⟩
    case round =>
      rename_i wr
      obtain ⟨k, hk, rfl, ht, hb⟩ := hrel
      have sW := hb.size
      by_cases hlt : k < xs.length
      · obtain ⟨b, off, eg, sl, vsl, rfl, hx, p0, p1, -, -, hri, -, -, hbl⟩ := (h.below hb).dKin_at hlt
        obtain ⟨b2, off2, eg2, sl2, vsl2, rfl, hy, q0, q1, -, -, hri2, -, -, hbl2⟩ := (h'.below hb).dKin_at (show k < ys.length by omega)
        have hlt' : k < ys.length := by omega
        have hI : (k : Int) < (xs.length : Int) := by omega
        have hI' : (k : Int) < (ys.length : Int) := by omega
        clear h h'
        obtain ⟨r1, hlet_r1⟩ : ∃ r, r = decide (((eg, sl) : Kin) = (eg2, sl2)) := ⟨_, rfl⟩
        have H1 := Lib.hid hlet_r1
        clear hlet_r1
        have HT := Lib.hid (show r1 = true → xs.take (k + 1) = ys.take (k + 1) by
          intro e
          have e2 := of_decide_eq_true (H1.out.symm.trans e)
          rw [take_snoc hx.out, take_snoc hy.out, ht.out, e2])
        have HF := Lib.hid (show r1 = false → decide (xs = ys) = false by
          intro e
          have e2 := of_decide_eq_false (H1.out.symm.trans e)
          rw [decide_eq_false_iff_not]
          intro e3; subst e3
          have := hx.out.symm.trans hy.out
          exact e2 (Option.some.inj this))
        clear ht hx hy
        go_upto_region 6 with fail
        go_region_held3 (fun w' => w'.cell? ⟨b, off + k * 2, none⟩ = some (.int .i64 eg) ∧ w'.cell? ⟨b, off + k * 2 + 1, none⟩ = some (vsl) ∧ w'.cell? ⟨b2, off2 + k * 2, none⟩ = some (.int .i64 eg2) ∧ w'.cell? ⟨b2, off2 + k * 2 + 1, none⟩ = some (vsl2)) (go_keep) (first | (go_at_call 23; refine (eqKinType_b _ _ _ _ _ (eg, sl) (eg2, sl2) (hri.below (by repeat' (first | (with_reducible exact Below.refl _ _) | (with_reducible assumption) | (with_reducible refine Below.alloc ?_ (by first | omega | (simp; omega) | simp) _) | (with_reducible refine Below.setCell ?_ (by first | omega | (simp; omega) | simp) _) | (with_reducible refine Below.drew ?_) | (with_reducible refine below_drewN ?_ _)))) (hri2.below (by repeat' (first | (with_reducible exact Below.refl _ _) | (with_reducible assumption) | (with_reducible refine Below.alloc ?_ (by first | omega | (simp; omega) | simp) _) | (with_reducible refine Below.setCell ?_ (by first | omega | (simp; omega) | simp) _) | (with_reducible refine Below.drew ?_) | (with_reducible refine below_drewN ?_ _)))) r1 H1.out).mono ?_; rintro e w1 ⟨rfl, hb1⟩; have hB1 : Below w.heap.size w w1 := Below.after (by repeat' (first | (with_reducible exact Below.refl _ _) | (with_reducible assumption) | (with_reducible refine Below.alloc ?_ (by first | omega | (simp; omega) | simp) _) | (with_reducible refine Below.setCell ?_ (by first | omega | (simp; omega) | simp) _) | (with_reducible refine Below.drew ?_) | (with_reducible refine below_drewN ?_ _))) hb1 (by first | omega | (simp; omega) | simp); obtain ⟨hc1, hf1⟩ := bcell hb1; (try simp only [World.size_alloc, World.size_drew] at hc1 hf1)))
        cases r1
        · go_wp2
          go_ret
          exact ⟨ret_bool (HF.out (by trivial)).symm, hB1⟩
        · have HT2 := Lib.hid (HT.out (by trivial))
          go_wp2
          go_roundw
          case rel => exact ⟨k + 1, by omega, by go_num, HT2, hB1⟩
          case measure => simp [intOf]; omega
      · have HF : Hid (decide (xs = ys) = true) := by
          have e := ht.out
          rw [List.take_of_length_le (by omega), List.take_of_length_le (by omega)] at e
          exact decide_eq_true e
        clear h h' ht
        go_wp2
        go_ret
        exact ⟨ret_bool HF.out.symm, hb⟩
  · have HF : Hid (decide (xs = ys) = false) := by
      simp only [decide_eq_false_iff_not]
      intro e; subst e; exact hl rfl
    have hbne : (((xs.length : Int)) != (ys.length : Int)) = true := by simp; omega
    clear hl h h'
    go_enter Try.func32, Try.ntmps32
    go_wp2
    go_ret
    exact ⟨ret_bool HF.out.symm, Below.refl _ _⟩

set_option maxRecDepth 20000 in
set_option maxHeartbeats 8000000 in
theorem markKinTypeS_any (w : World) (v : Value) (xs : List Kin) (fp : List Nat) (h : Rep.rep true w [v] xs fp) (hn : fp.Nodup) (k : Int) (hk0 : 0 ≤ k) (hk1 : k + lenBy cntKin xs ≤ 1000000000) :
    Calls Try.prog 33 #[v, .int .i64 k] w (PostMark fp w [v] (marksBy cntKin mkdKin k xs) (k + lenBy cntKin xs)) := by
  have hR : Rd true 0 w.heap.size w [v] xs := ⟨fp, h, fun b hb => ⟨Nat.zero_le _, Rep.lt h b hb⟩⟩
  obtain ⟨ao, n, cap, rfl, rfl, hnc, hcm, hnone⟩ := hR.shape
  clear hR
  unfold maxLen at *
  have HND := Lib.hid hn
  have HK1 := Lib.hid hk1
  clear hk1 hn
  go_enter Try.func33, Try.ntmps33
  go_wp2
  go_loopw [1, 5] (fun s1 s5 wr => ∃ (j : Nat) (q : Int), j ≤ xs.length ∧ s5 = .int .i64 j ∧ s1 = .int .i64 q ∧ Hid (q = k + lenBy cntKin (xs.take j)) ∧ Hid (Rep.rep true wr [.slice ao xs.length cap] ((marksBy cntKin mkdKin k xs).take j ++ xs.drop j) fp) ∧ Hid (OffF fp w wr)) (fun _ s5 _ => xs.length - (intOf s5).toNat)
  case atStart => exact ⟨0, k, Nat.zero_le _, rfl, rfl, Lib.hid (by simp [lenBy]), Lib.hid (by simpa using h), Lib.hid (OffF.refl _ _)⟩
  case round =>
    obtain ⟨j, q, hj, rfl, rfl, hq, hr, ho⟩ := hrel
    clear h
    by_cases hlt : j < xs.length
    · have hI : (j : Int) < (xs.length : Int) := by omega
      obtain ⟨⟨eg, sl⟩, hx0⟩ : ∃ x, xs[j]? = some x := ⟨_, List.getElem?_eq_getElem hlt⟩
      have hcur := (marksBy_cur (cnt := cntKin) (mk := mkdKin) (k := k) hlt).trans hx0
      have HSTEP := Lib.hid (marksBy_step (cnt := cntKin) (mk := mkdKin) (k := k) hx0)
      rw [← hq.out] at HSTEP
      have hT := lenBy_take (cnt := cntKin) hx0
      have hle := lenBy_le cntKin xs (j + 1)
      have hcx : cntKin (eg, sl) = 1 + 2 * sl.length := rfl
      rw [hT, hcx] at hle
      rw [hcx] at hT
      have hq0 : 0 ≤ q := by have := hq.out; omega
      have hq1 : q + 1 + 2 * sl.length ≤ 1000000000 := by have := hq.out; have := HK1.out; omega
      have HQ := Lib.hid (show q + 1 + 2 * sl.length = k + lenBy cntKin (xs.take (j + 1)) by have := hq.out; omega)
      obtain ⟨L, hL⟩ : ∃ L, L = (marksBy cntKin mkdKin k xs).take j ++ xs.drop j := ⟨_, rfl⟩
      rw [← hL] at hcur HSTEP hr
      have HC0 := Lib.hid hcur
      have hLl : j < L.length := (List.getElem?_eq_some_iff.1 hcur).1
      have HLL := Lib.hid hLl
      clear hx0 hcur hL hT hle hcx hq hLl
      obtain ⟨b, off, x1, cs1, f1, rfl, hx1, hp1, hfn1, -, hbb1, hc1, hff1, hback1⟩ := rep_item hr.out HND.out hlt
      have hx1 := Option.some.inj (hx1.out.symm.trans HC0.out)
      subst hx1
      obtain ⟨vsl_1, gsl_1, rfl, heg_1, hsl_1, rfl⟩ := dKin_inv hp1
      have p0 : wr.cell? ⟨b, off + j * 2, none⟩ = some (.int .i64 eg) := by have := hc1 0 (.int .i64 eg) rfl; simpa [Rep.sz, Nat.add_assoc] using this
      have p1 : wr.cell? ⟨b, off + j * 2 + 1, none⟩ = some (vsl_1) := by have := hc1 1 (vsl_1) rfl; simpa [Rep.sz, Nat.add_assoc] using this
      have hfz : ∀ o, wr.frozen? ⟨b, o, none⟩ = false := rep_frz hr.out (by omega)
      have hblt : b < wr.heap.size := hbb1
      have HPsl_1 := Lib.hid hsl_1
      have HQeg_1 := Lib.hid heg_1
      have HFS1 := Lib.hid hff1
      have HN1 := Lib.hid hfn1
      clear hp1 hfn1 hc1 hff1 heg_1 hsl_1
      have hm := Lib.hid (rep_head hr.out (by omega))
      have s1 := rep_setd hr.out HND.out (i := j) (j := 0) (u := .int .i64 (q)) (x := (eg, sl)) (y := ((q), sl)) HC0.out (by show 0 < 2; omega) (fun cs f hr => by obtain ⟨vsl, fsl, rfl, heg, hsl, rfl⟩ := dKin_inv hr; exact dKin_mk (by unfold I64; omega) hsl)
      simp only [show Rep.sz Kin = 2 from rfl, ← Nat.add_assoc, Nat.add_zero] at s1
      have S1 := Lib.hid s1
      clear s1
      have HC1 := Lib.hid (set_here (y := ((q), sl)) HC0.out)
      have O1 := Lib.hid (ho.out.setCell (p := ⟨b, off + j * 2, none⟩) hm.out (.int .i64 (q)))
      obtain ⟨b2, off2, x2, cs2, f2, eb2, hx2, hp2, hfn2, -, hbb2, hc2, hff2, hback2⟩ := rep_item S1.out HND.out hlt
      simp only [Option.some.injEq, Addr.mk.injEq, and_true] at eb2
      obtain ⟨rfl, rfl⟩ := eb2
      have hx2 := Option.some.inj (hx2.out.symm.trans HC1.out)
      subst hx2
      obtain ⟨vsl_2, gsl_2, rfl, heg_2, hsl_2, rfl⟩ := dKin_inv hp2
      have cc1 := hc2 1 vsl_2 rfl
      simp only [show Rep.sz Kin = 2 from rfl, ← Nat.add_assoc, Nat.add_zero] at cc1
      have ce1 := Option.some.inj (cc1.symm.trans (cell_there p1 (by omega)))
      subst ce1
      clear cc1
      have HPsl_2 := Lib.hid hsl_2
      have HQeg_2 := Lib.hid heg_2
      have HFS2 := Lib.hid hff2
      have HN2 := Lib.hid hfn2
      clear hp2 hfn2 hc2 hff2 heg_2 hsl_2
      go_wp2_with fail
      refine (markStepS_any _ _ sl gsl_2 HPsl_2.out (q + 1) (by omega) (by omega)).mono ?_
      rintro e wm1 ⟨rfl, hpm, hom⟩
      have S2 := Lib.hid (hback2.out wm1 ((q), (marksStp (q + 1) sl.length)) (dKin_mk HQeg_2.out hpm) (hom.mono (fun i hi => by simp [hi])))
      have HC2 := Lib.hid (set_here (y := ((q), (marksStp (q + 1) sl.length))) HC1.out)
      have O2 := Lib.hid (O1.out.trans (hom.mono (fun i hi => HFS2.out i (by simp [hi]))))
      clear hpm hom hback2 hfz hblt hback1 p0 p1
      have HS := Lib.hid (show Rep.rep true wm1 [.slice (some ⟨b, off, none⟩) xs.length cap] ((marksBy cntKin mkdKin k xs).take (j + 1) ++ xs.drop (j + 1)) fp by
        have e := S2.out
        simp only [List.set_set] at e
        rw [← HSTEP.out]
        exact e)
      have HQE := Lib.hid (show q + 1 + 2 * (sl.length : Int) = k + lenBy cntKin (xs.take (j + 1)) by have := HQ.out; omega)
      clear S1 HC1 S2 HC2 HSTEP HC0 hr HQ
      go_wp2
      go_roundw
      case rel => exact ⟨j + 1, _, by omega, by go_num, rfl, HQE, HS, O2⟩
      case measure => simp [intOf]; omega
    · obtain rfl : j = xs.length := by omega
      have HS := Lib.hid hr.out
      clear hr
      go_wp2
      go_ret
      refine ⟨ret_int (by rw [hq.out, List.take_length]), ?_, ho.out⟩
      have := HS.out
      rw [List.take_of_length_le (by rw [marksBy_len]; exact Nat.le_refl _)] at this
      simpa using this

set_option maxRecDepth 100000 in
set_option maxHeartbeats 8000000 in
theorem heldKinTypeS_any {z : Bool} {lo hi : Nat} (w : World) (v : Value) (xs : List Kin) (k : Int) (h : Rd z lo hi w [v] (marksBy cntKin mkdKin k xs)) (hk0 : 0 ≤ k) (hk1 : k + lenBy cntKin xs ≤ 1000000000) :
    Calls Try.prog 34 #[v, .int .i64 k] w (PostI w (k + lenBy cntKin xs)) := by
  obtain ⟨ao, n', cap, rfl, hl, hnc, hcm, hnone⟩ := h.shape
  rw [marksBy_len] at hl
  subst hl
  unfold maxLen at *
  have HK1 := Lib.hid hk1
  clear hk1
  go_enter Try.func34, Try.ntmps34
  go_wp2
  go_loopw [1, 5] (fun s1 s5 wr => ∃ (j : Nat) (q : Int), j ≤ xs.length ∧ s5 = .int .i64 j ∧ s1 = .int .i64 q ∧ Hid (q = k + lenBy cntKin (xs.take j)) ∧ Below w.heap.size w wr) (fun _ s5 _ => xs.length - (intOf s5).toNat)
  case atStart => exact ⟨0, k, Nat.zero_le _, rfl, rfl, Lib.hid (by simp [lenBy]), Below.refl _ _⟩
  case round =>
    rename_i wr
    obtain ⟨j, q, hj, rfl, rfl, hq, hb⟩ := hrel
    have sW := hb.size
    by_cases hlt : j < xs.length
    · have hI : (j : Int) < (xs.length : Int) := by omega
      obtain ⟨⟨eg, sl⟩, hx0⟩ : ∃ x, xs[j]? = some x := ⟨_, List.getElem?_eq_getElem hlt⟩
      have hT := lenBy_take (cnt := cntKin) hx0
      have hle := lenBy_le cntKin xs (j + 1)
      have hcx : cntKin (eg, sl) = 1 + 2 * sl.length := rfl
      rw [hT, hcx] at hle
      rw [hcx] at hT
      have hq0 : 0 ≤ q := by have := hq.out; omega
      have hq1 : q + 1 + 2 * sl.length ≤ 1000000000 := by have := hq.out; have := HK1.out; omega
      have HQ := Lib.hid (show q + 1 + 2 * sl.length = k + lenBy cntKin (xs.take (j + 1)) by have := hq.out; omega)
      obtain ⟨b, off, eg0, sl0, vsl, rfl, hx, p0, p1, -, hsl, -, -, -, hbl⟩ := (h.below hb).dKin_at hlt
      have hx' := (hx.out.symm.trans (marksBy_at k hx0)).symm
      rw [← hq.out] at hx'
      simp only [mkdKin, Option.some.injEq, Prod.mk.injEq] at hx'
      obtain ⟨rfl, rfl⟩ := hx'
      clear hx hx0 hT hle hcx hq h
      have e1 : ∀ x : Int, (x != x) = false := fun x => by simp
      go_wp2_with fail
      refine (heldStepS_any _ vsl sl.length (q + 1) hsl (by omega) (by omega)).mono ?_
      rintro e wh1 ⟨rfl, hbwh1⟩
      have hBwh1 : Below w.heap.size w wh1 := Below.after hb hbwh1 (by omega)
      have swh1 := hbwh1.size
      have p0 := oldc hbwh1 hbl p0
      have p1 := oldc hbwh1 hbl p1
      have hsl := hsl.below hbwh1
      have hbl := Nat.lt_of_lt_of_le hbl swh1
      have ge1 : ¬ q + 1 + 2 * (sl.length : Int) < 0 := by omega
      clear hbwh1
      have HQE := Lib.hid (show q + 1 + 2 * (sl.length : Int) = k + lenBy cntKin (xs.take (j + 1)) by have := HQ.out; omega)
      clear HQ hsl
      go_wp2
      go_roundw
      case rel => exact ⟨j + 1, _, by omega, by go_num, rfl, HQE, hBwh1⟩
      case measure => simp [intOf]; omega
    · obtain rfl : j = xs.length := by omega
      have HQ := Lib.hid (show q = k + lenBy cntKin xs by rw [hq.out, List.take_length])
      clear h hq
      go_wp2
      go_ret
      exact ⟨ret_int HQ.out, hb⟩
end Go.Proofs.Ytdjnogcljmaapaa
