/- Contracts: the results of one replacement (impl.reducts, impl.ReductsOf). Written by red_gen.py. -/
import Derived.Test.YtoipdgoejichbaaTrmA
import Derived.Test.YtoipdgoejichbaaBase

namespace Go.Proofs.Ytoipdgoejichbaa
set_option linter.unusedVariables false
set_option linter.unusedSimpArgs false
open Go.RowKit

theorem lenBy_bnd {α : Type} {cnt : α → Nat} {m : Nat} : ∀ {xs : List α}, (∀ x ∈ xs, cnt x ≤ m) → lenBy cnt xs ≤ m * xs.length
  | [], _ => by simp [lenBy]
  | x :: xs, h => by
    have h1 := h x (by simp)
    have h2 := lenBy_bnd (cnt := cnt) (m := m) (xs := xs) (fun y hy => h y (by simp [hy]))
    rw [lenBy, List.length_cons, Nat.mul_add, Nat.mul_one]; omega
theorem kins_cn {l : List Kin} {m k : Nat} (h1 : l.length ≤ m) (h2 : ∀ t ∈ l, t.2.length ≤ k) : lenBy cntKin l ≤ (1 + 2 * k) * m :=
  Nat.le_trans (lenBy_bnd fun t ht => by have := h2 t ht; unfold cntKin; dsimp only; omega) (Nat.mul_le_mul_left _ h1)
/-- One more reduct, if it is new. -/
def redStep (t : Kin) (i : Nat) (out : List Kin) (r : Rul) : List Kin := if fitsB r t i = true then (if replT r t i ∈ out then out else out ++ [replT r t i]) else out
def redIn (rs : List Rul) (t : Kin) (i : Nat) (out : List Kin) : List Kin := rs.foldl (redStep t i) out
def redTo (rs : List Rul) (t : Kin) (n : Nat) : List Kin := (List.range n).foldl (fun out i => redIn rs t i out) []
def redL (rs : List Rul) (t : Kin) : List Kin := redTo rs t t.2.length
def redV (rs : List Rul) (t : Kin) : Bool := areRules rs && isKin t
def redX (rs : List Rul) (t : Kin) : List Kin := if redV rs t = true then redL rs t else []
theorem redTo_succ (rs : List Rul) (t : Kin) (n : Nat) : redTo rs t (n + 1) = redIn rs t n (redTo rs t n) := by simp [redTo, List.range_succ]
theorem redIn_take {rs : List Rul} {t : Kin} {i k : Nat} {r : Rul} {out : List Kin} (h : rs[k]? = some r) : redIn (rs.take (k + 1)) t i out = redStep t i (redIn (rs.take k) t i out) r := by
  unfold redIn
  rw [take_snoc h, List.foldl_append]; rfl
theorem redStep_len (t : Kin) (i : Nat) (out : List Kin) (r : Rul) : (redStep t i out r).length ≤ out.length + 1 := by
  unfold redStep
  split
  · split
    · omega
    · simp
  · omega
theorem redIn_len (t : Kin) (i : Nat) : ∀ (rs : List Rul) (out : List Kin), (redIn rs t i out).length ≤ out.length + rs.length
  | [], out => by simp [redIn]
  | r :: rs, out => by
    have h1 := redIn_len t i rs (redStep t i out r)
    have h2 := redStep_len t i out r
    have e : redIn (r :: rs) t i out = redIn rs t i (redStep t i out r) := rfl
    rw [e, List.length_cons]; omega
theorem redTo_len (rs : List Rul) (t : Kin) : ∀ n, (redTo rs t n).length ≤ n * rs.length
  | 0 => by simp [redTo]
  | n + 1 => by
    rw [redTo_succ]
    have h1 := redIn_len t n rs (redTo rs t n)
    have h2 := redTo_len rs t n
    rw [Nat.add_mul, Nat.one_mul]; omega
theorem redStep_mem {P : Kin → Prop} {t : Kin} {i : Nat} {out : List Kin} {r : Rul} (h : ∀ u ∈ out, P u) (hr : fitsB r t i = true → P (replT r t i)) : ∀ u ∈ redStep t i out r, P u := by
  unfold redStep
  split
  · split
    · exact h
    · intro u hu
      rcases List.mem_append.1 hu with hu | hu
      · exact h u hu
      · simp at hu; subst hu; exact hr (by assumption)
  · exact h
theorem redIn_mem {P : Kin → Prop} {t : Kin} {i : Nat} : ∀ {rs : List Rul} {out : List Kin}, (∀ u ∈ out, P u) → (∀ r ∈ rs, fitsB r t i = true → P (replT r t i)) → ∀ u ∈ redIn rs t i out, P u
  | [], _, h, _ => h
  | r :: rs, out, h, hr => redIn_mem (rs := rs) (redStep_mem h (hr r (by simp))) (fun s hs => hr s (by simp [hs]))
theorem redTo_mem {P : Kin → Prop} {t : Kin} {rs : List Rul} (hr : ∀ i, ∀ r ∈ rs, fitsB r t i = true → P (replT r t i)) : ∀ n, ∀ u ∈ redTo rs t n, P u
  | 0 => by simp [redTo]
  | n + 1 => by rw [redTo_succ]; exact redIn_mem (redTo_mem hr n) (hr n)
theorem redL_kin {rs : List Rul} {t : Kin} (hrs : allRules rs) (ht : isKin t = true) : ∀ u ∈ redL rs t, isKin u = true :=
  redTo_mem (fun i r hr hf => (repl_ok (hrs r hr) ht hf).1) _
theorem redX_len (rs : List Rul) (t : Kin) : (redX rs t).length ≤ 96 ∧ ∀ u ∈ redX rs t, u.2.length ≤ 8 := by
  unfold redX
  split
  · rename_i h
    unfold redV at h
    rw [Bool.and_eq_true] at h
    obtain ⟨h1, h2, -⟩ := areRules_facts h.1
    have h3 := (isKin_facts h.2).2.1
    refine ⟨?_, fun u hu => (isKin_facts (redL_kin h2 h.2 u hu)).2.1⟩
    have := redTo_len rs t t.2.length
    have h4 : t.2.length * rs.length ≤ 8 * 12 := Nat.mul_le_mul h3 h1
    unfold redL; omega
  · exact ⟨by simp, fun u hu => by cases hu⟩
theorem redX_cnt (rs : List Rul) (t : Kin) : lenBy cntKin (redX rs t) ≤ 20000 :=
  Nat.le_trans (kins_cn (m := 96) (k := 8) (redX_len rs t).1 (redX_len rs t).2) (by omega)

set_option maxRecDepth 20000 in
set_option maxHeartbeats 8000000 in
theorem hasI_b {z z1 : Bool} {lo hi lo1 hi1 : Nat} (w : World) (v a b : Value) (l : List Kin) (t : Kin) (h : Rd z lo hi w [v] l) (h' : Rd z1 lo1 hi1 w [a, b] t) (R : Bool) (hR : R = decide (t ∈ l)) :
    Calls Try.prog 87 #[v, .agg #[a, b]] w (PostB w R) := by
  obtain ⟨ao, n, cap, rfl, rfl, hnc, hcm, -⟩ := h.shape
  unfold maxLen at hcm
  have HT := Lib.hid h'
  have HZ := Lib.hid h
  have HR := Lib.hid hR
  obtain ⟨rfl, -, hb⟩ := h'.kin
  obtain ⟨sao, sn, scap, rfl, -⟩ := hb.shape
  clear h' hR hb
  obtain ⟨W0, hW0⟩ : ∃ W : World, W = w.alloc (.cells #[.int .i64 t.1, .slice sao sn scap] 36) := ⟨_, rfl⟩
  have hB0 : Below w.heap.size w W0 := by subst hW0; exact bwT
  have qt0 : W0.cell? ⟨w.heap.size, 0, none⟩ = some (.int .i64 t.1) := by subst hW0; simp [go_sem]
  have qt1 : W0.cell? ⟨w.heap.size, 1, none⟩ = some (.slice sao sn scap) := by subst hW0; simp [go_sem]
  have sz0 : W0.heap.size = w.heap.size + 1 := by subst hW0; simp
  go_enter Try.func87, Try.ntmps87
  go_wp2
  rw [← hW0]
  clear hW0
  go_loopw [6, 9] (fun _ s9 wr => ∃ i : Nat, i ≤ l.length ∧ s9 = .int .i64 i ∧ Hid (∀ y ∈ l.take i, t ≠ y) ∧ Below W0.heap.size W0 wr) (fun _ s9 _ => l.length - (intOf s9).toNat)
  case atStart => exact ⟨0, Nat.zero_le _, rfl, Lib.hid (by simp), Below.refl _ _⟩
  case round =>
    obtain ⟨wb, hwb⟩ : ∃ wm : World, wm = wr := ⟨_, rfl⟩
    subst hwb
    obtain ⟨i, hi1, rfl, hN, hbb⟩ := hrel
    have sbb := hbb.size
    have hBwb : Below w.heap.size w wb := hB0.trans (hbb.mono hB0.size)
    have l_t : w.heap.size < wb.heap.size := by omega
    have q_t0 := oldc hbb (by omega) qt0
    have q_t1 := oldc hbb (by omega) qt1
    by_cases hli : i < l.length
    · have hI : (i : Int) < (l.length : Int) := by omega
      obtain ⟨xb, xoff, y, yv, rfl, hy, c0, c1, -, hys, hyr, -, -, xbl⟩ := (HZ.out.below hBwb).kin_at hli
      obtain ⟨yao, yn, ycap, rfl, -⟩ := hys.shape
      have HY := Lib.hid hy.out
      have HYR := Lib.hid hyr
      obtain ⟨r1, hlet_r1⟩ : ∃ r, r = decide (y = t) := ⟨_, rfl⟩
      have H1 := Lib.hid hlet_r1
      clear hlet_r1
      clear hy hys hyr
      go_wp2_with fail
      refine (eqTypesI_b _ _ _ _ _ y t (HYR.out.below ?b1) (HT.out.below ?b2) r1 H1.out).mono ?_
      case b1 => exact bwT
      case b2 => exact bwT
      rintro e w2 ⟨rfl, hb2⟩
      have hbb2 : Below W0.heap.size W0 w2 := Below.after (show Below W0.heap.size W0 _ from bwT) hb2 (by simp; omega)
      have hB2 : Below w.heap.size w w2 := hB0.trans (hbb2.mono hB0.size)
      clear hb2 c0 c1
      cases r1
      · have HN := Lib.hid (show ∀ y ∈ l.take (i + 1), t ≠ y by
          rw [take_snoc HY.out]
          intro x hx
          rcases List.mem_append.1 hx with hx | hx
          · exact hN.out x hx
          · simp at hx; subst hx; exact fun e => of_decide_eq_false H1.out.symm e.symm)
        clear hN HY H1 HYR HR
        go_wp2
        go_roundw
        case rel => exact ⟨i + 1, by omega, by go_num, HN, hbb2⟩
        case measure => simp [intOf]; omega
      · have HF := Lib.hid (show R = true by rw [HR.out]; refine decide_eq_true ?_; have := of_decide_eq_true H1.out.symm; rw [← this]; exact List.mem_of_getElem? HY.out)
        clear hN HY H1 HYR HR
        go_wp2
        go_ret
        exact ⟨ret_bool HF.out.symm, hB2⟩
    · have hI : ¬ (i : Int) < (l.length : Int) := by omega
      have HF := Lib.hid (show R = false by rw [HR.out]; refine decide_eq_false fun e => ?_; have := hN.out t (by rw [List.take_of_length_le (by omega)]; exact e); exact this rfl)
      clear hN HR
      go_wp2
      go_ret
      exact ⟨ret_bool HF.out.symm, hBwb⟩
set_option maxRecDepth 20000 in
set_option maxHeartbeats 16000000 in
theorem reductsI_any {z z1 : Bool} {lo hi lo1 hi1 : Nat} (w : World) (v a b : Value) (rs : List Rul) (t : Kin) (h : Rd z lo hi w [v] rs) (h' : Rd z1 lo1 hi1 w [a, b] t) (hr : allRules rs) (hrl : rs.length ≤ 12) (ht : isKin t = true) :
    Calls Try.prog 52 #[v, .agg #[a, b]] w (PostOw w (redL rs t)) := by
  obtain ⟨ao, n, cap, rfl, rfl, hnc, hcm, -⟩ := h.shape
  have HT := Lib.hid h'
  obtain ⟨rfl, hI, hb⟩ := h'.kin
  obtain ⟨e, ts⟩ := t
  dsimp only at hb hI
  obtain ⟨sao, sn, scap, rfl, hsn, hsc, hsm, -⟩ := hb.shape
  unfold maxLen at hcm hsm
  have HK := Lib.hid ht
  have HRS := Lib.hid hr
  have hs8 : ts.length ≤ 8 := (isKin_facts ht).2.1
  obtain ⟨L, hL⟩ : ∃ L, L = ts.length := ⟨_, rfl⟩
  subst hsn
  rw [← hL] at hs8 hsc HT ⊢
  have HL := Lib.hid hL
  have HZ := Lib.hid h
  obtain ⟨X, hX⟩ : ∃ X, X = redL rs (e, ts) := ⟨_, rfl⟩
  rw [← hX]
  have HX := Lib.hid (show X = redTo rs (e, ts) L by rw [hX, redL, hL])
  have HLEN := Lib.hid (show ∀ i, i < L → (redTo rs (e, ts) i).length ≤ 96 from fun i hi => by
    have h1 := redTo_len rs (e, ts) i
    have h2 : i * rs.length ≤ 8 * 12 := Nat.mul_le_mul (by omega) hrl
    omega)
  clear h' hr ht hI hb hL hX
  obtain ⟨W0, hW0⟩ : ∃ W : World, W = w.alloc (.cells #[.int .i64 e, .slice sao L scap] 36) := ⟨_, rfl⟩
  have hB0 : Below w.heap.size w W0 := by subst hW0; exact bwT
  have qt0 : W0.cell? ⟨w.heap.size, 0, none⟩ = some (.int .i64 e) := by subst hW0; simp [go_sem]
  have qt1 : W0.cell? ⟨w.heap.size, 1, none⟩ = some (.slice sao L scap) := by subst hW0; simp [go_sem]
  have HSZ := Lib.hid (show W0.heap.size = w.heap.size + 1 by subst hW0; simp)
  have sz0 : w.heap.size < W0.heap.size := by have := HSZ.out; omega
  go_enter Try.func52, Try.ntmps52
  go_wp2
  rw [← hW0]
  clear hW0
  go_loopw [5, 6, 8, 9, 13] (fun s5 _ _ _ s13 wr => ∃ i : Nat, i ≤ L ∧ s13 = .int .i64 i ∧ Hid (GL true W0.heap.size W0.heap.size wr.heap.size wr 36 s5 (redTo rs (e, ts) i)) ∧ Below W0.heap.size W0 wr) (fun _ _ _ _ s13 _ => L - (intOf s13).toNat)
  case atStart => exact ⟨0, Nat.zero_le _, rfl, Lib.hid (GL.start _ _ _ _ _ _), bwT⟩
  case round =>
    obtain ⟨wb, hwb⟩ : ∃ wm : World, wm = wr := ⟨_, rfl⟩
    subst hwb
    obtain ⟨i, hi1, rfl, hG, hbb⟩ := hrel
    have sbb := hbb.size
    have hBb : Below w.heap.size w wb := hB0.trans (hbb.mono hB0.size)
    have pt0 := oldc hbb (by omega) qt0
    have pt1 := oldc hbb (by omega) qt1
    by_cases hli : i < L
    · have hI : (i : Int) < (L : Int) := by omega
      have HLI := Lib.hid (HLEN.out i hli)
      go_wp2
      go_loopw [5, 8, 9, 18] (fun s5 _ _ s18 wr => ∃ k : Nat, k ≤ rs.length ∧ s18 = .int .i64 k ∧ Hid (GL true W0.heap.size W0.heap.size wr.heap.size wr 36 s5 (redIn (rs.take k) (e, ts) i (redTo rs (e, ts) i))) ∧ Below W0.heap.size W0 wr) (fun _ _ _ s18 _ => rs.length - (intOf s18).toNat)
      case atStart => exact ⟨0, Nat.zero_le _, rfl, Lib.hid hG.out, hbb⟩
      case round =>
        clear hG hbb pt0 pt1 hBb sbb
        obtain ⟨wd, hwd⟩ : ∃ wm : World, wm = wr := ⟨_, rfl⟩
        subst hwd
        obtain ⟨k, hk1, rfl, hG, hcd⟩ := hrel
        have scd := hcd.size
        have hBwd : Below w.heap.size w wd := hB0.trans (hcd.mono hB0.size)
        have mt0 := oldc hcd (by omega) qt0
        have mt1 := oldc hcd (by omega) qt1
        by_cases hlk : k < rs.length
        · have hK : (k : Int) < (rs.length : Int) := by omega
          obtain ⟨b, off, nm, sx, pl, fr, tw, vfr, vtw, rfl, hx, c0, c1, c2, c3, c4, -, -, -, hfr, htw, hri, -, -, hbl⟩ := (HZ.out.below hBwd).dRul_at hlk
          obtain ⟨fao, fn, fcap, rfl, -⟩ := hfr.shape
          obtain ⟨tao, tn, tcap, rfl, -⟩ := htw.shape
          have HX2 := Lib.hid (redIn_take (t := (e, ts)) (i := i) (out := redTo rs (e, ts) i) hx.out)
          have HRI := Lib.hid hri
          have HIR := Lib.hid (HRS.out _ (List.mem_of_getElem? hx.out))
          obtain ⟨O, hO⟩ : ∃ O, O = redIn (rs.take k) (e, ts) i (redTo rs (e, ts) i) := ⟨_, rfl⟩
          have hOl : O.length ≤ 200 := by
            rw [hO]
            have h1 := redIn_len (e, ts) i (rs.take k) (redTo rs (e, ts) i)
            have h2 := HLI.out
            have h3 : (rs.take k).length ≤ rs.length := by rw [List.length_take]; omega
            omega
          rw [← hO] at hG HX2
          have HG := Lib.hid hG.out
          obtain ⟨r1, hlet_r1⟩ : ∃ r, r = fitsB (nm, sx, pl, fr, tw) (e, ts) i := ⟨_, rfl⟩
          have HF := Lib.hid hlet_r1
          clear hlet_r1
          clear hx hfr htw hri hO hG
          obtain ⟨oao, ocap, ho5, -, -⟩ := HG.out.len
          subst ho5
          have l_t : w.heap.size < wd.heap.size := by omega
          have q_t0 := mt0
          have q_t1 := mt1
          clear mt0 mt1
          have hwd1 : Below wd.heap.size wd wd := Below.refl _ _
          have hcdx : Below W0.heap.size W0 wd := hcd
          go_wp2_with fail
          refine (fitsI_b _ _ _ _ _ _ _ _ (nm, sx, pl, fr, tw) (e, ts) (HRI.out.below bwT) (HT.out.below bwT) HIR.out HK.out i (show i < ts.length by rw [← HL.out]; exact hli) r1 HF.out).mono ?_
          rintro e1 w1 ⟨rfl, hbw1⟩
          have hpw1 : Below wd.heap.size wd w1 := Below.after bwT hbw1 szT
          have sw1 := hpw1.size
          have hBw1 : Below w.heap.size w w1 := Below.trans hBwd (Below.mono hpw1 hBwd.size)
          have q_t0 := oldc hpw1 l_t q_t0
          have q_t1 := oldc hpw1 l_t q_t1
          have l_t := Nat.lt_of_lt_of_le l_t sw1
          have l_r : wd.heap.size < w1.heap.size := by have := hbw1.size; simp at this; omega
          have q_r0 : w1.cell? ⟨wd.heap.size, 0, none⟩ = some (.string nm) := oldc hbw1 ltT (by simp [go_sem])
          have q_r1 : w1.cell? ⟨wd.heap.size, 1, none⟩ = some (.int .i64 sx) := oldc hbw1 ltT (by simp [go_sem])
          have q_r2 : w1.cell? ⟨wd.heap.size, 2, none⟩ = some (.int .i64 pl) := oldc hbw1 ltT (by simp [go_sem])
          have q_r3 : w1.cell? ⟨wd.heap.size, 3, none⟩ = some (.slice fao fn fcap) := oldc hbw1 ltT (by simp [go_sem])
          have q_r4 : w1.cell? ⟨wd.heap.size, 4, none⟩ = some (.slice tao tn tcap) := oldc hbw1 ltT (by simp [go_sem])
          have hwd1 := Below.trans hwd1 (Below.mono hpw1 (by omega))
          have hcdx := Below.trans hcdx (Below.mono hpw1 (by omega))
          clear hbw1 hpw1
          clear c0 c1 c2 c3 c4
          cases r1
          · have HN := Lib.hid (show GL true W0.heap.size W0.heap.size (w1).heap.size w1 36 (.slice oao O.length ocap) (redIn (rs.take (k + 1)) (e, ts) i (redTo rs (e, ts) i)) by
              rw [HX2.out]
              unfold redStep
              rw [if_neg (by rw [← HF.out]; decide)]
              exact (HG.out.below hwd1).top)
            clear HG HX2 HRI HIR HF hcd
            go_wp2
            go_roundw
            case rel => exact ⟨k + 1, by omega, by go_num, HN, hcdx⟩
            case measure => simp [intOf]; omega
          have HFI := Lib.hid (show i + fr.length ≤ ts.length from (fits_facts HF.out.symm).1)
          go_wp2_with fail
          refine (replI_any _ _ _ _ _ _ _ _ (nm, sx, pl, fr, tw) (e, ts) (HRI.out.below hwd1) (HT.out.below hBw1) HIR.out HK.out i HFI.out).mono ?_
          rintro e2 w2 ⟨ra, rb, rfl, hoR, hbw2⟩
          have hpw2 : Below w1.heap.size w1 w2 := Below.after bwT hbw2 szT
          have sw2 := hpw2.size
          have hBw2 : Below w.heap.size w w2 := Below.trans hBw1 (Below.mono hpw2 hBw1.size)
          have q_t0 := oldc hpw2 l_t q_t0
          have q_t1 := oldc hpw2 l_t q_t1
          have q_r0 := oldc hpw2 l_r q_r0
          have q_r1 := oldc hpw2 l_r q_r1
          have q_r2 := oldc hpw2 l_r q_r2
          have q_r3 := oldc hpw2 l_r q_r3
          have q_r4 := oldc hpw2 l_r q_r4
          have l_r := Nat.lt_of_lt_of_le l_r sw2
          have l_t := Nat.lt_of_lt_of_le l_t sw2
          have hwd1 := Below.trans hwd1 (Below.mono hpw2 (by omega))
          have hcdx := Below.trans hcdx (Below.mono hpw2 (by omega))
          clear hbw2 hpw2
          obtain ⟨rfl, -, hrb⟩ := hoR.rd.kin
          obtain ⟨rao, rn, rcap, rfl, -⟩ := hrb.shape
          clear hrb
          obtain ⟨U, hU⟩ : ∃ U, U = replT (nm, sx, pl, fr, tw) (e, ts) i := ⟨_, rfl⟩
          rw [← hU] at hoR
          have HU := Lib.hid hU
          rw [← hU]
          clear hU
          obtain ⟨r2, hlet_r2⟩ : ∃ r, r = decide (U ∈ O) := ⟨_, rfl⟩
          have H2 := Lib.hid hlet_r2
          clear hlet_r2
          go_wp2_with fail
          refine (hasI_b _ _ _ _ O U ((HG.out.below hwd1).rd (Nat.le_refl _) (Nat.le_refl _) |>.below bwT) (hoR.rd.below bwT) r2 H2.out).mono ?_
          rintro e3 w3 ⟨rfl, hbw3⟩
          have hpw3 : Below w2.heap.size w2 w3 := Below.after bwT hbw3 szT
          have sw3 := hpw3.size
          have hBw3 : Below w.heap.size w w3 := Below.trans hBw2 (Below.mono hpw3 hBw2.size)
          have q_t0 := oldc hpw3 l_t q_t0
          have q_t1 := oldc hpw3 l_t q_t1
          have q_r0 := oldc hpw3 l_r q_r0
          have q_r1 := oldc hpw3 l_r q_r1
          have q_r2 := oldc hpw3 l_r q_r2
          have q_r3 := oldc hpw3 l_r q_r3
          have q_r4 := oldc hpw3 l_r q_r4
          have l_r := Nat.lt_of_lt_of_le l_r sw3
          have l_t := Nat.lt_of_lt_of_le l_t sw3
          have l_x : w2.heap.size < w3.heap.size := by have := hbw3.size; simp at this; omega
          have q_x0 : w3.cell? ⟨w2.heap.size, 0, none⟩ = some (.int .i64 U.1) := oldc hbw3 ltT (by simp [go_sem])
          have q_x1 : w3.cell? ⟨w2.heap.size, 1, none⟩ = some (.slice rao rn rcap) := oldc hbw3 ltT (by simp [go_sem])
          have hoR := Ow.below hoR hpw3
          have hwd1 := Below.trans hwd1 (Below.mono hpw3 (by omega))
          have hcdx := Below.trans hcdx (Below.mono hpw3 (by omega))
          clear hbw3 hpw3
          cases r2
          rotate_left
          · have HN := Lib.hid (show GL true W0.heap.size W0.heap.size (w3).heap.size w3 36 (.slice oao O.length ocap) (redIn (rs.take (k + 1)) (e, ts) i (redTo rs (e, ts) i)) by
              rw [HX2.out]
              unfold redStep
              rw [if_pos HF.out.symm, ← HU.out, if_pos (of_decide_eq_true H2.out.symm)]
              exact (HG.out.below hwd1).top)
            clear HG HX2 HRI HIR HF hcd hoR H2 HU
            go_wp2
            go_roundw
            case rel => exact ⟨k + 1, by omega, by go_num, HN, hcdx⟩
            case measure => simp [intOf]; omega
          have HNE := Lib.hid (show redIn (rs.take (k + 1)) (e, ts) i (redTo rs (e, ts) i) = O ++ [U] by
            rw [HX2.out]
            unfold redStep
            rw [if_pos HF.out.symm, ← HU.out, if_neg (of_decide_eq_false H2.out.symm)])
          have HG3 := Lib.hid (HG.out.below hwd1)
          have HOR := Lib.hid hoR
          clear HG HX2 HRI HIR HF hcd hoR H2 HU
          go_wp2_with (at_builtin; refine wpList_push rfl rfl slKin (by show (0 : Nat) < 2; omega) (HG3.out.alloc _) rfl (ad := ⟨(w3).heap.size, 0, none⟩) rfl (cs := [.int .i64 U.1, .slice rao rn rcap]) (y := U) ?k4 ((HOR.out.below ?k6).it) ?k7 (.inl ?k8) (by unfold maxLen; omega) (by omega) (by simp; omega) ?_)
          case k4 =>
            intro j c hj
            match j, hj with
            | 0, hj => simp at hj; subst hj; simp [Addr.add, go_sem]
            | 1, hj => simp at hj; subst hj; simp [Addr.add, go_sem]
          case k6 => exact bwT
          case k7 => omega
          case k8 => omega
          rintro v5 w5 hG5 _ hb5
          have HN := Lib.hid (show GL true W0.heap.size W0.heap.size w5.heap.size w5 36 v5 (redIn (rs.take (k + 1)) (e, ts) i (redTo rs (e, ts) i)) by rw [HNE.out]; exact hG5)
          have hc5 : Below W0.heap.size W0 w5 := Below.trans (show Below W0.heap.size W0 _ from bwT) hb5
          clear hG5 hb5 HG3 HOR HNE
          go_wp2
          go_roundw
          case rel => exact ⟨k + 1, by omega, by go_num, HN, hc5⟩
          case measure => simp [intOf]; omega
        · have hK : ¬ (k : Int) < (rs.length : Int) := by omega
          have HN := Lib.hid (show GL true W0.heap.size W0.heap.size wd.heap.size wd 36 _ (redTo rs (e, ts) (i + 1)) by
            have e1 := hG.out
            rw [List.take_of_length_le (by omega)] at e1
            rw [redTo_succ]; exact e1)
          clear hG
          go_wp2
          go_roundw
          case rel => exact ⟨i + 1, by omega, by go_num, HN, hcd⟩
          case measure => simp [intOf]; omega
    · obtain rfl : i = L := by omega
      have hI : ¬ (i : Int) < (i : Int) := by omega
      have HOW := Lib.hid ((hG.out.ow (l0 := W0.heap.size) (Nat.le_refl _) (Nat.le_refl _)).mono hB0.size (Nat.le_refl _))
      clear hG
      go_wp2
      go_ret
      exact ⟨_, rfl, by rw [HX.out]; exact HOW.out, hBb⟩
set_option maxRecDepth 20000 in
set_option maxHeartbeats 8000000 in
theorem reductsOfI_any {z z1 : Bool} {lo hi lo1 hi1 : Nat} (w : World) (v a b : Value) (rs : List Rul) (t : Kin) (h : Rd z lo hi w [v] rs) (h' : Rd z1 lo1 hi1 w [a, b] t) :
    Calls Try.prog 16 #[v, .agg #[a, b]] w (PostOw w (redX rs t)) := by
  obtain ⟨ao, n, cap, rfl, rfl, hnc, hcm, -⟩ := h.shape
  have HT := Lib.hid h'
  obtain ⟨rfl, -, hb⟩ := h'.kin
  obtain ⟨sao, sn, scap, rfl, -⟩ := hb.shape
  obtain ⟨r1, hlet_r1⟩ : ∃ r, r = areRules rs := ⟨_, rfl⟩
  have H1 := Lib.hid hlet_r1
  clear hlet_r1
  obtain ⟨r2, hlet_r2⟩ : ∃ r, r = isKin t := ⟨_, rfl⟩
  have H2 := Lib.hid hlet_r2
  clear hlet_r2
  obtain ⟨X, hX⟩ : ∃ X, X = redX rs t := ⟨_, rfl⟩
  rw [← hX]
  have HX := Lib.hid (show X = if (r1 && r2) = true then redL rs t else [] by rw [hX, redX, redV, H1.out, H2.out])
  clear hX h' hb
  go_enter Try.func16, Try.ntmps16
  go_wp2_with fail
  refine (areRulesI_b _ _ rs (h.below bwT) r1 H1.out).mono ?_
  rintro e4 w4 ⟨rfl, hbw4⟩
  have hpw4 : Below w.heap.size w w4 := Below.after bwT hbw4 szT
  have sw4 := hpw4.size
  have hBw4 : Below w.heap.size w w4 := hpw4
  have l_t : w.heap.size < w4.heap.size := by have := hbw4.size; simp at this; omega
  have q_t0 : w4.cell? ⟨w.heap.size, 0, none⟩ = some (.int .i64 t.1) := oldc hbw4 ltT (by simp [go_sem])
  have q_t1 : w4.cell? ⟨w.heap.size, 1, none⟩ = some (.slice sao sn scap) := oldc hbw4 ltT (by simp [go_sem])
  clear hbw4 hpw4
  cases r1
  · obtain rfl : X = [] := by rw [HX.out]; rfl
    clear HX H1 H2 h
    go_wp2
    go_ret
    exact ⟨_, rfl, Ow.nil _ _ _, hBw4⟩
  go_wp2_with fail
  refine (isTypeI_b _ _ _ t (HT.out.below bwT) r2 H2.out).mono ?_
  rintro e5 w5 ⟨rfl, hbw5⟩
  have hpw5 : Below w4.heap.size w4 w5 := Below.after bwT hbw5 szT
  have sw5 := hpw5.size
  have hBw5 : Below w.heap.size w w5 := Below.trans hBw4 (Below.mono hpw5 hBw4.size)
  have q_t0 := oldc hpw5 l_t q_t0
  have q_t1 := oldc hpw5 l_t q_t1
  have l_t := Nat.lt_of_lt_of_le l_t sw5
  clear hbw5 hpw5
  cases r2
  · obtain rfl : X = [] := by rw [HX.out]; rfl
    clear HX H1 H2 h
    go_wp2
    go_ret
    exact ⟨_, rfl, Ow.nil _ _ _, hBw5⟩
  have HF := areRules_facts H1.out.symm
  have HRS := Lib.hid HF.2.1
  have hrl : rs.length ≤ 12 := HF.1
  clear HF
  go_wp2_with fail
  refine (reductsI_any _ _ _ _ rs t (h.below bwT) (HT.out.below bwT) HRS.out hrl H2.out.symm).mono ?_
  rintro e6 w6 ⟨u, rfl, ho, hbw6⟩
  have hpw6 : Below w5.heap.size w5 w6 := Below.after bwT hbw6 szT
  have sw6 := hpw6.size
  have hBw6 : Below w.heap.size w w6 := Below.trans hBw5 (Below.mono hpw6 hBw5.size)
  have q_t0 := oldc hpw6 l_t q_t0
  have q_t1 := oldc hpw6 l_t q_t1
  have l_t := Nat.lt_of_lt_of_le l_t sw6
  clear hbw6 hpw6
  have HF := Lib.hid (show redL rs t = X by rw [HX.out]; rfl)
  have HO := Lib.hid ho
  clear HX H1 H2 h HRS ho
  go_wp2
  go_ret
  exact ⟨_, rfl, by rw [← HF.out]; exact HO.out.mono (by omega) (Nat.le_refl _), hBw6⟩
end Go.Proofs.Ytoipdgoejichbaa
