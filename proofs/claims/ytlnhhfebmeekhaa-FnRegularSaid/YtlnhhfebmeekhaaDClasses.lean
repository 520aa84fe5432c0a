/- Contracts of the laws' helpers on the type Classes: items with lists of numbers. Written by deep.py. -/
import Derived.Test.YtlnhhfebmeekhaaPut
import Derived.Test.YtlnhhfebmeekhaaZ10B
namespace Go.Proofs.Ytlnhhfebmeekhaa
set_option linter.unusedVariables false
set_option linter.unusedSimpArgs false
open Go.RowKit

theorem slClasses : SlTy Try.prog 22 30 (.agg #[.slice none 0 0, .slice none 0 0]) 2 48 := SlTy.of Try.underlying22 (by kernel_rfl) rfl
theorem dCls_inv {z : Bool} {w : World} {cs : List Value} {xa : List Int} {ya : List Int} {fp : List Nat} (h : Rep.rep z w cs ((xa, ya) : Cls) fp) : ∃ (vxa vya : Value) (fxa fya : List Nat), cs = [vxa, vya] ∧ Rep.rep z w [vxa] xa fxa ∧ Rep.rep z w [vya] ya fya ∧ fxa ++ fya = fp := by
  obtain ⟨_, _, _, _, rfl, rfl, hxa, hya⟩ := h
  have gxa := hxa
  obtain ⟨vxa, rfl, -⟩ := gxa
  have gya := hya
  obtain ⟨vya, rfl, -⟩ := gya
  exact ⟨vxa, vya, _, _, rfl, hxa, hya, by simp⟩
theorem dCls_mk {z : Bool} {w : World} {xa : List Int} {ya : List Int} {vxa vya : Value} {fxa fya : List Nat}  (hxa : Rep.rep z w [vxa] xa fxa) (hya : Rep.rep z w [vya] ya fya) : Rep.rep z w [vxa, vya] ((xa, ya) : Cls) (fxa ++ fya) :=
  ⟨[vxa], [vya], (fxa), (fya), rfl, by simp, hxa, hya⟩
theorem Rd.dCls {z : Bool} {lo hi : Nat} {w : World} {cs : List Value} {xa : List Int} {ya : List Int} (h : Rd z lo hi w cs ((xa, ya) : Cls)) : ∃ (vxa vya : Value), cs = [vxa, vya] ∧ Rd z lo hi w [vxa] xa ∧ Rd z lo hi w [vya] ya := by
  obtain ⟨fp, hr, hz⟩ := h
  obtain ⟨vxa, vya, fxa, fya, rfl, hxa, hya, rfl⟩ := dCls_inv hr
  exact ⟨vxa, vya, rfl, ⟨fxa, hxa, fun b hb => hz b (by simp [hb])⟩, ⟨fya, hya, fun b hb => hz b (by simp [hb])⟩⟩
theorem Rd.dCls_at {z : Bool} {lo hi : Nat} {w : World} {xs : List Cls} {ao : Option Addr} {n cap : Nat} (h : Rd z lo hi w [.slice ao n cap] xs) {i : Nat} (hi' : i < n) :
    ∃ (b off : Nat) (xa : List Int) (ya : List Int) (vxa vya : Value), ao = some ⟨b, off, none⟩ ∧ Hid (xs[i]? = some (xa, ya)) ∧ w.cell? ⟨b, off + i * 2, none⟩ = some (vxa) ∧ w.cell? ⟨b, off + i * 2 + 1, none⟩ = some (vya) ∧ Rd z lo hi w [vxa] xa ∧ Rd z lo hi w [vya] ya ∧ Rd z lo hi w [vxa, vya] ((xa, ya) : Cls) ∧ lo ≤ b ∧ b < hi ∧ b < w.heap.size := by
  obtain ⟨b, off, ⟨xa, ya⟩, cs, e, hx, hr, _, g1, g2, g3, hc, hf⟩ := h.at hi'
  have hr0 := hr
  obtain ⟨vxa, vya, rfl, hxa, hya⟩ := Rd.dCls hr
  refine ⟨b, off, xa, ya, vxa, vya, e, hx, ?_, ?_, hxa, hya, hr0, g1, g2, g3⟩
  · have := hc 0 (vxa) rfl; simpa [Rep.sz, Nat.add_assoc] using this
  · have := hc 1 (vya) rfl; simpa [Rep.sz, Nat.add_assoc] using this
theorem dCls_zero (w : World) : Rep.rep true w (Value.agg #[.slice none 0 0, .slice none 0 0]).cells.toList (([], []) : Cls) [] := by
  have hz : Rep.rep true w [.slice none 0 0] ([] : List Int) [] := ⟨_, rfl, none, 0, 0, rfl, rfl, Nat.le_refl _, by simp [maxLen], fun _ => rfl, .inl ⟨rfl, rfl⟩⟩
  exact dCls_mk  hz hz
def cntCls : Cls → Nat := fun (xa, ya) => xa.length + ya.length
def szdCls : Cls → Nat := fun (xa, ya) => xa.length + ya.length
def sszCls (xs : List Cls) : Nat := xs.length + lenBy szdCls xs
theorem cntCls_le (xs : List Cls) : lenBy cntCls xs ≤ 3 * sszCls xs := by
  unfold sszCls
  induction xs with
  | nil => simp [lenBy]
  | cons x xs ih =>
    obtain ⟨xa, ya⟩ := x
    rw [lenBy, lenBy, List.length_cons]
    have : cntCls (xa, ya) ≤ 3 + 3 * szdCls (xa, ya) := by unfold cntCls szdCls; dsimp only; omega
    omega
def mkdCls (k : Int) : Cls → Cls := fun (xa, ya) => (marks (k) xa.length, marks (k + (xa.length : Nat)) ya.length)
instance decEqLCls : DecidableEq (List Cls) := fun a b => instDecidableEqList a b



/-- An owned item comes back. -/
def PostDCls (w : World) (x : Cls) (e : Ending) (w' : World) : Prop := ∃ (u0 u1 : Value), e = .returned (.agg #[u0, u1]) ∧ Ow w.heap.size w'.heap.size w' [u0, u1] x ∧ Below w.heap.size w w'



set_option maxRecDepth 20000 in
set_option maxHeartbeats 4000000 in
theorem eqClassesS_b {z z' : Bool} {lo hi lo' hi' : Nat} (w : World) (u v : Value) (xs ys : List Cls) (h : Rd z lo hi w [u] xs) (h' : Rd z' lo' hi' w [v] ys) (r : Bool) (hr : r = decide (xs = ys)) :
    Calls Try.prog 9 #[u, v] w (PostB w r) := by
  subst hr
  obtain ⟨ao, n, cap, rfl, rfl, hnc, hcm, hnone⟩ := h.shape
  obtain ⟨ao', n', cap', rfl, rfl, hnc', hcm', hnone'⟩ := h'.shape
  unfold maxLen at *
  by_cases hl : xs.length = ys.length
  · have HL := Lib.hid hl
    have hl1 : ¬ xs.length < ys.length := by omega
    have hl2 : ¬ ys.length < xs.length := by omega
    have hbne : (((xs.length : Int)) != (ys.length : Int)) = false := by simp [hl]
    clear hl
    go_enter Try.func9, Try.ntmps9
    go_wp2
    go_loopw [5] (fun i wr => ∃ k : Nat, k ≤ xs.length ∧ i = .int .i64 k ∧ Hid (xs.take k = ys.take k) ∧ Below w.heap.size w wr) (fun i _ => xs.length - (intOf i).toNat)
    case atStart => exact ⟨0, Nat.zero_le _, rfl, rfl, Below.refl _ _⟩
    case round =>
      rename_i wr
      obtain ⟨k, hk, rfl, ht, hb⟩ := hrel
      have sW := hb.size
      by_cases hlt : k < xs.length
      · obtain ⟨b, off, xa, ya, vxa, vya, rfl, hx, p0, p1, -, -, hri, -, -, hbl⟩ := (h.below hb).dCls_at hlt
        obtain ⟨b2, off2, xa2, ya2, vxa2, vya2, rfl, hy, q0, q1, -, -, hri2, -, -, hbl2⟩ := (h'.below hb).dCls_at (show k < ys.length by omega)
        have hlt' : k < ys.length := by omega
        have hI : (k : Int) < (xs.length : Int) := by omega
        have hI' : (k : Int) < (ys.length : Int) := by omega
        clear h h'
        obtain ⟨r1, hlet_r1⟩ : ∃ r, r = decide (((xa, ya) : Cls) = (xa2, ya2)) := ⟨_, rfl⟩
        have H1 := Lib.hid hlet_r1
        clear hlet_r1
        have HT := Lib.hid (show r1 = true → xs.take (k + 1) = ys.take (k + 1) by
          intro e
          have e2 := of_decide_eq_true (H1.out.symm.trans e)
          rw [take_snoc hx.out, take_snoc hy.out, ht.out, e2])
        have HF := Lib.hid (show r1 = false → decide (xs = ys) = false by
          intro e
          have e2 := of_decide_eq_false (H1.out.symm.trans e)
          rw [decide_eq_false_iff_not]
          intro e3; subst e3
          have := hx.out.symm.trans hy.out
          exact e2 (Option.some.inj this))
        clear ht hx hy
        go_upto_region 6 with fail
        go_region_held3 (fun w' => w'.cell? ⟨b, off + k * 2, none⟩ = some (vxa) ∧ w'.cell? ⟨b, off + k * 2 + 1, none⟩ = some (vya) ∧ w'.cell? ⟨b2, off2 + k * 2, none⟩ = some (vxa2) ∧ w'.cell? ⟨b2, off2 + k * 2 + 1, none⟩ = some (vya2)) (go_keep) (first | (go_at_call 45; refine (eqClasses_b _ _ _ _ _ (xa, ya) (xa2, ya2) (hri.below bwT) (hri2.below bwT) r1 H1.out).mono ?_; rintro e w1 ⟨rfl, hb1⟩; have hB1 : Below w.heap.size w w1 := Below.after bwT hb1 (by first | omega | (simp; omega) | simp); obtain ⟨hc1, hf1⟩ := bcell hb1; (try simp only [World.size_alloc, World.size_drew] at hc1 hf1)))
        cases r1
        · go_wp2
          go_ret
          exact ⟨ret_bool (HF.out (by trivial)).symm, hB1⟩
        · have HT2 := Lib.hid (HT.out (by trivial))
          go_wp2
          go_roundw
          case rel => exact ⟨k + 1, by omega, by go_num, HT2, hB1⟩
          case measure => simp [intOf]; omega
      · have HF : Hid (decide (xs = ys) = true) := by
          have e := ht.out
          rw [List.take_of_length_le (by omega), List.take_of_length_le (by omega)] at e
          exact decide_eq_true e
        clear h h' ht
        go_wp2
        go_ret
        exact ⟨ret_bool HF.out.symm, hb⟩
  · have HF : Hid (decide (xs = ys) = false) := by
      simp only [decide_eq_false_iff_not]
      intro e; subst e; exact hl rfl
    have hbne : (((xs.length : Int)) != (ys.length : Int)) = true := by simp; omega
    clear hl h h'
    go_enter Try.func9, Try.ntmps9
    go_wp2
    go_ret
    exact ⟨ret_bool HF.out.symm, Below.refl _ _⟩

set_option maxRecDepth 20000 in
set_option maxHeartbeats 8000000 in
theorem markClassesS_any (w : World) (v : Value) (xs : List Cls) (fp : List Nat) (h : Rep.rep true w [v] xs fp) (hn : fp.Nodup) (k : Int) (hk0 : 0 ≤ k) (hk1 : k + lenBy cntCls xs ≤ 1000000000) :
    Calls Try.prog 10 #[v, .int .i64 k] w (PostMark fp w [v] (marksBy cntCls mkdCls k xs) (k + lenBy cntCls xs)) := by
  have hR : Rd true 0 w.heap.size w [v] xs := ⟨fp, h, fun b hb => ⟨Nat.zero_le _, Rep.lt h b hb⟩⟩
  obtain ⟨ao, n, cap, rfl, rfl, hnc, hcm, hnone⟩ := hR.shape
  clear hR
  unfold maxLen at *
  have HND := Lib.hid hn
  have HK1 := Lib.hid hk1
  clear hk1 hn
  go_enter Try.func10, Try.ntmps10
  go_wp2
  go_loopw [1, 5] (fun s1 s5 wr => ∃ (j : Nat) (q : Int), j ≤ xs.length ∧ s5 = .int .i64 j ∧ s1 = .int .i64 q ∧ Hid (q = k + lenBy cntCls (xs.take j)) ∧ Hid (Rep.rep true wr [.slice ao xs.length cap] ((marksBy cntCls mkdCls k xs).take j ++ xs.drop j) fp) ∧ Hid (OffF fp w wr)) (fun _ s5 _ => xs.length - (intOf s5).toNat)
  case atStart => exact ⟨0, k, Nat.zero_le _, rfl, rfl, Lib.hid (by simp [lenBy]), Lib.hid (by simpa using h), Lib.hid (OffF.refl _ _)⟩
  case round =>
    obtain ⟨j, q, hj, rfl, rfl, hq, hr, ho⟩ := hrel
    clear h
    by_cases hlt : j < xs.length
    · have hI : (j : Int) < (xs.length : Int) := by omega
      obtain ⟨⟨xa, ya⟩, hx0⟩ : ∃ x, xs[j]? = some x := ⟨_, List.getElem?_eq_getElem hlt⟩
      have hcur := (marksBy_cur (cnt := cntCls) (mk := mkdCls) (k := k) hlt).trans hx0
      have HSTEP := Lib.hid (marksBy_step (cnt := cntCls) (mk := mkdCls) (k := k) hx0)
      rw [← hq.out] at HSTEP
      have hT := lenBy_take (cnt := cntCls) hx0
      have hle := lenBy_le cntCls xs (j + 1)
      have hcx : cntCls (xa, ya) = xa.length + ya.length := rfl
      rw [hT, hcx] at hle
      rw [hcx] at hT
      have hq0 : 0 ≤ q := by have := hq.out; omega
      have hq1 : q + xa.length + ya.length ≤ 1000000000 := by have := hq.out; have := HK1.out; omega
      have HQ := Lib.hid (show q + xa.length + ya.length = k + lenBy cntCls (xs.take (j + 1)) by have := hq.out; omega)
      obtain ⟨L, hL⟩ : ∃ L, L = (marksBy cntCls mkdCls k xs).take j ++ xs.drop j := ⟨_, rfl⟩
      rw [← hL] at hcur HSTEP hr
      have HC0 := Lib.hid hcur
      have hLl : j < L.length := (List.getElem?_eq_some_iff.1 hcur).1
      have HLL := Lib.hid hLl
      clear hx0 hcur hL hT hle hcx hq hLl
      obtain ⟨b, off, x1, cs1, f1, rfl, hx1, hp1, hfn1, -, hbb1, hc1, hff1, hback1⟩ := rep_item hr.out HND.out hlt
      have hx1 := Option.some.inj (hx1.out.symm.trans HC0.out)
      subst hx1
      obtain ⟨vxa_1, vya_1, gxa_1, gya_1, rfl, hxa_1, hya_1, rfl⟩ := dCls_inv hp1
      have p0 : wr.cell? ⟨b, off + j * 2, none⟩ = some (vxa_1) := by have := hc1 0 (vxa_1) rfl; simpa [Rep.sz, Nat.add_assoc] using this
      have p1 : wr.cell? ⟨b, off + j * 2 + 1, none⟩ = some (vya_1) := by have := hc1 1 (vya_1) rfl; simpa [Rep.sz, Nat.add_assoc] using this
      have hfz : ∀ o, wr.frozen? ⟨b, o, none⟩ = false := rep_frz hr.out (by omega)
      have hblt : b < wr.heap.size := hbb1
      have HPxa_1 := Lib.hid hxa_1
      have HPya_1 := Lib.hid hya_1
      have HFS1 := Lib.hid hff1
      have HN1 := Lib.hid hfn1
      clear hp1 hfn1 hc1 hff1 hxa_1 hya_1
      have hm := Lib.hid (rep_head hr.out (by omega))
      go_wp2_with fail
      refine (markIntS_any _ _ xa gxa_1 HPxa_1.out (q) (by omega) (by omega)).mono ?_
      rintro e wm1 ⟨rfl, hpm, hom⟩
      have S1 := Lib.hid (hback1.out wm1 ((marks (q) xa.length), ya) (dCls_mk  hpm (Rep.keep HPya_1.out (fun i hi => hom.block i (Rep.lt HPya_1.out i hi) (by have hnd := HN1.out; simp only [List.nodup_append] at hnd; intro hm2; first | exact hnd.2.2 _ hi _ hm2 rfl | exact hnd.2.2 _ hm2 _ hi rfl)))) (hom.mono (fun i hi => by simp [hi])))
      have HC1 := Lib.hid (set_here (y := ((marks (q) xa.length), ya)) HC0.out)
      have O1 := Lib.hid (ho.out.trans (hom.mono (fun i hi => HFS1.out i (by simp [hi]))))
      clear hpm hom hback1 hfz hblt p0 p1
      obtain ⟨b2, off2, x2, cs2, f2, eb2, hx2, hp2, hfn2, -, hbb2, hc2, hff2, hback2⟩ := rep_item S1.out HND.out hlt
      simp only [Option.some.injEq, Addr.mk.injEq, and_true] at eb2
      obtain ⟨rfl, rfl⟩ := eb2
      have hx2 := Option.some.inj (hx2.out.symm.trans HC1.out)
      subst hx2
      obtain ⟨vxa_2, vya_2, gxa_2, gya_2, rfl, hxa_2, hya_2, rfl⟩ := dCls_inv hp2
      have p0 : wm1.cell? ⟨b, off + j * 2, none⟩ = some (vxa_2) := by have := hc2 0 (vxa_2) rfl; simpa [Rep.sz, Nat.add_assoc] using this
      have p1 : wm1.cell? ⟨b, off + j * 2 + 1, none⟩ = some (vya_2) := by have := hc2 1 (vya_2) rfl; simpa [Rep.sz, Nat.add_assoc] using this
      have hfz : ∀ o, wm1.frozen? ⟨b, o, none⟩ = false := rep_frz S1.out (by omega)
      have hblt : b < wm1.heap.size := hbb2
      have HPxa_2 := Lib.hid hxa_2
      have HPya_2 := Lib.hid hya_2
      have HFS2 := Lib.hid hff2
      have HN2 := Lib.hid hfn2
      clear hp2 hfn2 hc2 hff2 hxa_2 hya_2
      go_wp2_with fail
      refine (markIntS_any _ _ ya gya_2 HPya_2.out (q + (xa.length : Int)) (by omega) (by omega)).mono ?_
      rintro e wm2 ⟨rfl, hpm, hom⟩
      have S2 := Lib.hid (hback2.out wm2 ((marks (q) xa.length), (marks (q + (xa.length : Int)) ya.length)) (dCls_mk  (Rep.keep HPxa_2.out (fun i hi => hom.block i (Rep.lt HPxa_2.out i hi) (by have hnd := HN2.out; simp only [List.nodup_append] at hnd; intro hm2; first | exact hnd.2.2 _ hi _ hm2 rfl | exact hnd.2.2 _ hm2 _ hi rfl))) hpm) (hom.mono (fun i hi => by simp [hi])))
      have HC2 := Lib.hid (set_here (y := ((marks (q) xa.length), (marks (q + (xa.length : Int)) ya.length))) HC1.out)
      have O2 := Lib.hid (O1.out.trans (hom.mono (fun i hi => HFS2.out i (by simp [hi]))))
      clear hpm hom hback2 hfz hblt p0 p1
      have HS := Lib.hid (show Rep.rep true wm2 [.slice (some ⟨b, off, none⟩) xs.length cap] ((marksBy cntCls mkdCls k xs).take (j + 1) ++ xs.drop (j + 1)) fp by
        have e := S2.out
        simp only [List.set_set] at e
        rw [← HSTEP.out]
        exact e)
      have HQE := Lib.hid (show q + (xa.length : Int) + (ya.length : Int) = k + lenBy cntCls (xs.take (j + 1)) by have := HQ.out; omega)
      clear S1 HC1 S2 HC2 HSTEP HC0 hr HQ
      go_wp2
      go_roundw
      case rel => exact ⟨j + 1, _, by omega, by go_num, rfl, HQE, HS, O2⟩
      case measure => simp [intOf]; omega
    · obtain rfl : j = xs.length := by omega
      have HS := Lib.hid hr.out
      clear hr
      go_wp2
      go_ret
      refine ⟨ret_int (by rw [hq.out, List.take_length]), ?_, ho.out⟩
      have := HS.out
      rw [List.take_of_length_le (by rw [marksBy_len]; exact Nat.le_refl _)] at this
      simpa using this

set_option maxRecDepth 100000 in
set_option maxHeartbeats 8000000 in
theorem heldClassesS_any {z : Bool} {lo hi : Nat} (w : World) (v : Value) (xs : List Cls) (k : Int) (h : Rd z lo hi w [v] (marksBy cntCls mkdCls k xs)) (hk0 : 0 ≤ k) (hk1 : k + lenBy cntCls xs ≤ 1000000000) :
    Calls Try.prog 11 #[v, .int .i64 k] w (PostI w (k + lenBy cntCls xs)) := by
  obtain ⟨ao, n', cap, rfl, hl, hnc, hcm, hnone⟩ := h.shape
  rw [marksBy_len] at hl
  subst hl
  unfold maxLen at *
  have HK1 := Lib.hid hk1
  clear hk1
  go_enter Try.func11, Try.ntmps11
  go_wp2
  go_loopw [1, 5] (fun s1 s5 wr => ∃ (j : Nat) (q : Int), j ≤ xs.length ∧ s5 = .int .i64 j ∧ s1 = .int .i64 q ∧ Hid (q = k + lenBy cntCls (xs.take j)) ∧ Below w.heap.size w wr) (fun _ s5 _ => xs.length - (intOf s5).toNat)
  case atStart => exact ⟨0, k, Nat.zero_le _, rfl, rfl, Lib.hid (by simp [lenBy]), Below.refl _ _⟩
  case round =>
    rename_i wr
    obtain ⟨j, q, hj, rfl, rfl, hq, hb⟩ := hrel
    have sW := hb.size
    by_cases hlt : j < xs.length
    · have hI : (j : Int) < (xs.length : Int) := by omega
      obtain ⟨⟨xa, ya⟩, hx0⟩ : ∃ x, xs[j]? = some x := ⟨_, List.getElem?_eq_getElem hlt⟩
      have hT := lenBy_take (cnt := cntCls) hx0
      have hle := lenBy_le cntCls xs (j + 1)
      have hcx : cntCls (xa, ya) = xa.length + ya.length := rfl
      rw [hT, hcx] at hle
      rw [hcx] at hT
      have hq0 : 0 ≤ q := by have := hq.out; omega
      have hq1 : q + xa.length + ya.length ≤ 1000000000 := by have := hq.out; have := HK1.out; omega
      have HQ := Lib.hid (show q + xa.length + ya.length = k + lenBy cntCls (xs.take (j + 1)) by have := hq.out; omega)
      obtain ⟨b, off, xa0, ya0, vxa, vya, rfl, hx, p0, p1, hxa, hya, -, -, -, hbl⟩ := (h.below hb).dCls_at hlt
      have hx' := (hx.out.symm.trans (marksBy_at k hx0)).symm
      rw [← hq.out] at hx'
      simp only [mkdCls, Option.some.injEq, Prod.mk.injEq] at hx'
      obtain ⟨rfl, rfl⟩ := hx'
      clear hx hx0 hT hle hcx hq h
      have e1 : ∀ x : Int, (x != x) = false := fun x => by simp
      go_wp2_with fail
      refine (heldIntS_any _ vxa xa.length (q) hxa (by omega) (by omega)).mono ?_
      rintro e wh1 ⟨rfl, hbwh1⟩
      have hBwh1 : Below w.heap.size w wh1 := Below.after hb hbwh1 (by omega)
      have swh1 := hbwh1.size
      have p0 := oldc hbwh1 hbl p0
      have p1 := oldc hbwh1 hbl p1
      have hxa := hxa.below hbwh1
      have hya := hya.below hbwh1
      have hbl := Nat.lt_of_lt_of_le hbl swh1
      have ge0 : ¬ q + (xa.length : Int) < 0 := by omega
      clear hbwh1
      go_wp2_with fail
      refine (heldIntS_any _ vya ya.length (q + (xa.length : Int)) hya (by omega) (by omega)).mono ?_
      rintro e wh2 ⟨rfl, hbwh2⟩
      have hBwh2 : Below w.heap.size w wh2 := Below.after hBwh1 hbwh2 (by omega)
      have swh2 := hbwh2.size
      have p0 := oldc hbwh2 hbl p0
      have p1 := oldc hbwh2 hbl p1
      have hxa := hxa.below hbwh2
      have hya := hya.below hbwh2
      have hbl := Nat.lt_of_lt_of_le hbl swh2
      have ge1 : ¬ q + (xa.length : Int) + (ya.length : Int) < 0 := by omega
      clear hbwh2
      have HQE := Lib.hid (show q + (xa.length : Int) + (ya.length : Int) = k + lenBy cntCls (xs.take (j + 1)) by have := HQ.out; omega)
      clear HQ hxa hya
      go_wp2
      go_roundw
      case rel => exact ⟨j + 1, _, by omega, by go_num, rfl, HQE, hBwh2⟩
      case measure => simp [intOf]; omega
    · obtain rfl : j = xs.length := by omega
      have HQ := Lib.hid (show q = k + lenBy cntCls xs by rw [hq.out, List.take_length])
      clear h hq
      go_wp2
      go_ret
      exact ⟨ret_int HQ.out, hb⟩
theorem Rd.cls_mk {z : Bool} {lo hi : Nat} {w : World} {v1 v2 : Value} {x y : List Int} (h1 : Rd z lo hi w [v1] x) (h2 : Rd z lo hi w [v2] y) : Rd z lo hi w [v1, v2] ((x, y) : Cls) := by
  obtain ⟨f1, a1, a2⟩ := h1
  obtain ⟨f2, b1, b2⟩ := h2
  refine ⟨f1 ++ f2, dCls_mk a1 b1, fun b hb => ?_⟩
  rcases List.mem_append.1 hb with hb | hb
  · exact a2 b hb
  · exact b2 b hb
end Go.Proofs.Ytlnhhfebmeekhaa
