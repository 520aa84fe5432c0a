/- Texts laid one behind the other (merge.py): AsgS, AsgI. -/
import Derived.Test.YtefbbbhidnnchaaSpdS
import Derived.Test.YtefbbbhidnnchaaZ14P
import Derived.Test.YtefbbbhidnnchaaZ14O
import Derived.Test.YtefbbbhidnnchaaZ14D
import Derived.Test.YtefbbbhidnnchaaSprI
namespace Go.Proofs.Ytefbbbhidnnchaa
set_option linter.unusedVariables false
set_option linter.unusedSimpArgs false
open Go.RowKit

/-! ### AsgS -/
section

def AsgAns (f : Fam) (c : Cls) (g X : List Int) (V : Bool) : Prop := if givenB f c g (-1) = true then AsgRes f c g X V else (X = [] ∧ V = false)
theorem AsgAns.ex (f : Fam) (c : Cls) (g : List Int) : ∃ X V, AsgAns f c g X V := by
  unfold AsgAns
  split
  · exact AsgRes.ex f c g
  · exact ⟨_, _, rfl, rfl⟩
theorem AsgAns.len {f : Fam} {c : Cls} {g X : List Int} {V : Bool} (h : AsgAns f c g X V) : X.length ≤ 40 := by
  unfold AsgAns at h
  split at h
  · rename_i e
    have := (famB_facts (givenB_facts e).1).1
    have := h.len
    omega
  · rw [h.1]; simp
theorem given_rng {f : Fam} {c : Cls} {g : List Int} (h : givenB f c g (-1) = true) : ARng f c g := by
  obtain ⟨-, -, hl, hr⟩ := givenB_facts h
  refine ⟨hl, fun q hq => ?_⟩
  have hx : g[q]? = some g[q] := List.getElem?_eq_getElem (by omega)
  have := hr _ (List.mem_of_getElem? hx)
  rw [show mrk g q = g[q] from getI_at hx]
  omega

set_option maxRecDepth 20000 in
set_option maxHeartbeats 16000000 in
theorem assignS_any {z z1 z' : Bool} {lo hi lo1 hi1 lo' hi' : Nat} (w : World) (v v2 u1 u2 v3 : Value) (f : Fam) (c : Cls) (g : List Int) (h : Rd z lo hi w [v, v2] f) (hc : Rd z1 lo1 hi1 w [u1, u2] c) (h' : Rd z' lo' hi' w [v3] g) (hlc : c.1.length ≤ 1048576) (X : List Int) (V : Bool) (hXV : AsgAns f c g X V) :
    Calls Try.prog 23 #[.agg #[v, v2], .agg #[u1, u2], v3] w (PostOwB w X V) := by
  obtain ⟨ha, hb⟩ := h.fam
  obtain ⟨hw, hq⟩ := hc.two rfl
  obtain ⟨ao, n, cap, rfl, hn, hnc, hcm, hnone⟩ := ha.shape
  obtain ⟨ao2, n2, cap2, rfl, hn2, hnc2, hcm2, hnone2⟩ := hb.shape
  subst hn hn2
  obtain ⟨bo, n3, dap, rfl, hn3, hnc3, hcm3, hnone3⟩ := hw.shape
  obtain ⟨bo2, n4, dap2, rfl, hn4, hnc4, hcm4, hnone4⟩ := hq.shape
  obtain ⟨go, n5, gap, rfl, hn5, hnc5, hcm5, hnone5⟩ := h'.shape
  subst hn3 hn4 hn5
  unfold maxLen at *
  obtain ⟨r1, hlet_r1⟩ : ∃ r, r = givenB f c g (-1) := ⟨_, rfl⟩
  have H1 := Lib.hid hlet_r1
  clear hlet_r1
  have HQ := Lib.hid (show if r1 = true then AsgRes f c g X V else (X = [] ∧ V = false) by rw [H1.out]; exact hXV)
  clear hXV hnone hnone2 hnone3 hnone4 hnone5 ha hb hw hq
  go_enter Try.func23, Try.ntmps23
  go_wp2_with fail
  refine (givenS_b _ _ _ _ _ _ f c g (h.below bwT) (hc.below bwT) (h'.below bwT) hlc (-1) (by decide) (by decide) r1 H1.out).mono ?_
  rintro e1 w1 ⟨rfl, hbw1⟩
  have hpw1 : Below w.heap.size w w1 := Below.after bwT hbw1 szT
  have sw1 := hpw1.size
  have hBw1 : Below w.heap.size w w1 := hpw1
  have l_f : w.heap.size < w1.heap.size := by have := hbw1.size; simp at this; omega
  have q_f0 : w1.cell? ⟨w.heap.size, 0, none⟩ = some (.slice ao f.1.length cap) := oldc hbw1 ltT (by simp [go_sem])
  have q_f1 : w1.cell? ⟨w.heap.size, 1, none⟩ = some (.slice ao2 f.2.length cap2) := oldc hbw1 ltT (by simp [go_sem])
  have l_c : w.heap.size + 1 < w1.heap.size := by have := hbw1.size; simp at this; omega
  have q_c0 : w1.cell? ⟨w.heap.size + 1, 0, none⟩ = some (.slice bo c.1.length dap) := oldc hbw1 ltT (by simp [go_sem])
  have q_c1 : w1.cell? ⟨w.heap.size + 1, 1, none⟩ = some (.slice bo2 c.2.length dap2) := oldc hbw1 ltT (by simp [go_sem])
  clear hbw1 hpw1
  cases r1
  · obtain ⟨rfl, rfl⟩ : X = [] ∧ V = false := by simpa using HQ.out
    clear h hc h' HQ
    go_wp2
    exact bodyPost_ret (v := .tuple #[.slice none 0 0, .bool false]) (by simp [results, go_sem]) rfl ⟨_, rfl, Ow.nil _ _ _, bwT⟩
  have HR := Lib.hid (show AsgRes f c g X V by simpa using HQ.out)
  obtain ⟨hfam, hcls, hgl, -⟩ := givenB_facts H1.out.symm
  obtain ⟨h40, h60, -, -⟩ := famB_facts hfam
  obtain ⟨c0, c8, -, -, -⟩ := isCls_facts hcls
  have HE := Lib.hid (edOk hfam hcls)
  have HRG := Lib.hid (given_rng H1.out.symm)
  have hg40 : g.length ≤ 40 := by omega
  have HFAM := Lib.hid hfam
  have HCLS := Lib.hid hcls
  have hT := Lib.hid h.top
  have hcT := Lib.hid hc.top
  obtain ⟨Wa, hWa⟩ : ∃ W : World, W = w1 := ⟨_, rfl⟩
  subst hWa
  have hBa : Below w.heap.size w Wa := hBw1
  have sa := hBa.size
  have qa_f0 := q_f0
  have qa_f1 := q_f1
  have qa_c0 := q_c0
  have qa_c1 := q_c1
  have la_f : w.heap.size < Wa.heap.size := l_f
  have la_c : w.heap.size + 1 < Wa.heap.size := l_c
  have hGa := h'.below hBa
  clear HQ hfam hcls hgl h hc h'
  go_wp2_with (at_builtin; refine wpList_spread_flat rfl rfl slInt (by show (0 : Nat) < 1; omega) (GL.lit0 true Wa.heap.size Wa.heap.size Wa _ (Nat.le_refl _)) rfl rfl (hGa.below bwT) (by unfold maxLen; simp; omega) (by simp; omega) (by simp) ?_)
  intro v1 w3 hG3 _ hb3w0
  have hb3 : Below Wa.heap.size Wa w3 := Below.trans bwT hb3w0
  have s3 := hb3.size
  (try simp only [List.nil_append] at hG3)
  have how := GL.ow (l0 := Wa.heap.size) hG3 (Nat.le_refl _) (Nat.le_refl _)
  obtain ⟨aoM, capM, rfl, hcM1, hcM2⟩ := hG3.len
  obtain ⟨fp, hm, hz, hnd⟩ := how
  have HM := Lib.hid hm
  have HND := Lib.hid hnd
  have hB3 : Below w.heap.size w w3 := hBa.trans (hb3.mono sa)
  have q_f0 := oldc hb3 la_f qa_f0
  have q_f1 := oldc hb3 la_f qa_f1
  have q_c0 := oldc hb3 la_c qa_c0
  have q_c1 := oldc hb3 la_c qa_c1
  have l_f := Nat.lt_of_lt_of_le la_f s3
  have l_c := Nat.lt_of_lt_of_le la_c s3
  clear hb3w0 hG3 hm hnd hGa
  go_wp2_with fail
  refine (spreadS_any _ _ _ _ _ _ f c (hT.out.below hB3) (hcT.out.below hB3) g g fp HM.out Wa.heap.size hz (by omega) (by omega) (by omega) HFAM.out HCLS.out HRG.out).mono ?_
  rintro e w4 ⟨t, o', rfl, hr1, ho1, HT, HNT⟩
  have s4 := ho1.size
  have hb4 : Below Wa.heap.size Wa w4 := hb3.trans (ho1.toBelow s3 (fun b hb => (hz b hb).1))
  have hB4 : Below w.heap.size w w4 := hBa.trans (hb4.mono sa)
  have q_f0 := oldc hb4 la_f qa_f0
  have q_f1 := oldc hb4 la_f qa_f1
  have q_c0 := oldc hb4 la_c qa_c0
  have q_c1 := oldc hb4 la_c qa_c1
  have how4 := Lib.hid (show Ow Wa.heap.size w4.heap.size w4 [.slice aoM g.length capM] o' from ⟨fp, hr1, fun b hb => by have := hz b hb; omega, HND.out⟩)
  clear hr1 ho1 HM HND hz hb3 hB3
  cases t
  · obtain ⟨rfl, rfl⟩ := HR.out.no (first_none (HNT.out rfl))
    clear HR HT HNT how4 HE HRG
    go_wp2
    exact bodyPost_ret (v := .tuple #[.slice none 0 0, .bool false]) (by simp [results, go_sem]) rfl ⟨_, rfl, Ow.nil _ _ _, bwT⟩
  have HO := Lib.hid (AOut.first (HT.out rfl).1 (HT.out rfl).2)
  have HGI := Lib.hid (GIn.inn (show GIn f g g from fun q hq h0 => ⟨h0, rfl⟩) (HT.out rfl).1)
  have HGN := Lib.hid (show g.length = f.1.length from HRG.out.1)
  have HIN := Lib.hid (show ∀ a b π, IsEd f c a b π → a < f.1.length from fun a b π he => (HE.out.inn _ (mem_edges.2 he)).1)
  clear HT HNT q_f0 q_f1 q_c0 q_c1 l_f l_c hcM1 hcM2
  go_wp2
  go_loopw [8, 9, 10, 11, 12, 28] (fun s8 _ _ _ _ s28 wr => ∃ (i : Nat) (o : List Int) (am : Option Addr) (cm : Nat), i ≤ g.length ∧ s28 = .int .i64 i ∧ s8 = .slice am g.length cm ∧ Hid (Ow Wa.heap.size wr.heap.size wr [.slice am g.length cm] o) ∧ Hid (AOut f c g i o) ∧ Hid (GIn f g o) ∧ Below Wa.heap.size Wa wr) (fun _ _ _ _ _ s28 _ => g.length - (intOf s28).toNat)
  case atStart => exact ⟨0, o', _, _, Nat.zero_le _, rfl, rfl, how4, HO, HGI, hb4⟩
  case round =>
    clear how4 HO HGI hb4 hB4 s4
    obtain ⟨wb, hwb⟩ : ∃ wm : World, wm = wr := ⟨_, rfl⟩
    subst hwb
    obtain ⟨i, o, am, cm, hi1, rfl, rfl, hM, HO, HGI, hbb⟩ := hrel
    have sR := hbb.size
    have hBb : Below w.heap.size w wb := hBa.trans (hbb.mono sa)
    have q_c0 := oldc hbb la_c qa_c0
    have l_c := Nat.lt_of_lt_of_le la_c sR
    by_cases hli : i < g.length
    · have hI : (i : Int) < (g.length : Int) := by omega
      obtain ⟨b0, off, x0, rfl, hx, hcx, hx1, hx2, -, -, hbl, -⟩ := hM.out.rd.int_at (i := i) hli
      have HMX := Lib.hid (show mrk o i = x0 from getI_at hx.out)
      obtain ⟨d, hlet_d⟩ : ∃ r, r = decide (0 ≤ x0) := ⟨_, rfl⟩
      have HD := Lib.hid hlet_d
      clear hlet_d
      have hdd : decide (0 ≤ x0) = d := HD.out.symm
      have HT0 := Lib.hid (show d = true → AOut f c g (i + 1) o from fun e => HO.out.skip (by have := HGN.out; omega) (by rw [HMX.out]; exact of_decide_eq_true (HD.out.symm.trans e)))
      have HF0 := Lib.hid (show d = false → AOut f c g i o ∧ mrk o i < 0 ∧ ∀ y : Int, 0 ≤ y → y < ((0 : Nat) : Int) → ¬ ∃ k, AVal f c g k ∧ Agr f.1.length k (o.set i y) from fun e => ⟨HO.out, by rw [HMX.out]; have := of_decide_eq_false (HD.out.symm.trans e); omega, fun y h1 h2 => by omega⟩)
      clear HO HMX HD hx
      go_wp2
      go_loopw [8, 10, 11, 12] (fun s8 s10 s11 _ wr => ∃ (x : Nat) (d : Bool) (o : List Int) (am : Option Addr) (cm : Nat), x ≤ c.1.length ∧ s11 = .int .i64 x ∧ s10 = .bool d ∧ s8 = .slice am g.length cm ∧ Hid (Ow Wa.heap.size wr.heap.size wr [.slice am g.length cm] o) ∧ Hid (GIn f g o) ∧ Hid (d = true → AOut f c g (i + 1) o) ∧ Hid (d = false → AOut f c g i o ∧ mrk o i < 0 ∧ ∀ y : Int, 0 ≤ y → y < (x : Int) → ¬ ∃ k, AVal f c g k ∧ Agr f.1.length k (o.set i y)) ∧ Below Wa.heap.size Wa wr) (fun _ _ s11 _ _ => c.1.length - (intOf s11).toNat)
      case atStart => exact ⟨0, d, o, _, _, Nat.zero_le _, rfl, rfl, rfl, hM, HGI, HT0, HF0, hbb⟩
      case round =>
        clear HT0 HF0 hM HGI hbb hBb sR q_c0 l_c hcx hx1 hx2 hbl hdd
        obtain ⟨wc, hwc⟩ : ∃ wm : World, wm = wr := ⟨_, rfl⟩
        subst hwc
        obtain ⟨x, d, o, am, cm, hx1, rfl, rfl, rfl, hM, HGI, HT, HF, hbb⟩ := hrel
        have sR := hbb.size
        have hBb : Below w.heap.size w wc := hBa.trans (hbb.mono sa)
        have q_f0 := oldc hbb la_f qa_f0
        have q_f1 := oldc hbb la_f qa_f1
        have q_c0 := oldc hbb la_c qa_c0
        have q_c1 := oldc hbb la_c qa_c1
        have l_f := Nat.lt_of_lt_of_le la_f sR
        have l_c := Nat.lt_of_lt_of_le la_c sR
        cases d
        rotate_left
        · have HN := Lib.hid (HT.out rfl)
          clear HT HF
          by_cases hlx : x < c.1.length
          · have hIx : (x : Int) < (c.1.length : Int) := by omega
            go_wp2
            go_roundw
            case rel => exact ⟨i + 1, o, am, cm, by omega, by go_num, rfl, hM, HN, HGI, hbb⟩
            case measure => simp [intOf]; omega
          · have nIx : ¬ (x : Int) < (c.1.length : Int) := by omega
            go_wp2
            go_roundw
            case rel => exact ⟨i + 1, o, am, cm, by omega, by go_num, rfl, hM, HN, HGI, hbb⟩
            case measure => simp [intOf]; omega
        have HOF := Lib.hid (HF.out rfl)
        clear HT HF
        by_cases hlx : x < c.1.length
        · have hIx : (x : Int) < (c.1.length : Int) := by omega
          have hol : o.length = g.length := by rw [HOF.out.1.rng.1, HGN.out]
          have HOL := Lib.hid hol
          have hol40 : o.length ≤ 40 := by omega
          clear hol
          go_wp2_with (at_builtin; refine wpList_spread_flat rfl rfl slInt (by show (0 : Nat) < 1; omega) (GL.lit0 true wc.heap.size wc.heap.size wc _ (Nat.le_refl _)) rfl rfl (hM.out.rd.below bwT) (by unfold maxLen; simp; omega) (by simp; omega) (by simp) ?_)
          intro v5 w5 hG5 _ hb5w0
          have hb5 : Below wc.heap.size wc w5 := Below.trans bwT hb5w0
          have s5 := hb5.size
          (try simp only [List.nil_append] at hG5)
          have how := GL.ow (l0 := wc.heap.size) hG5 (Nat.le_refl _) (Nat.le_refl _)
          obtain ⟨aoN, capN, rfl, hcN1, hcN2⟩ : ∃ ao cap, v5 = .slice ao g.length cap ∧ g.length ≤ cap ∧ cap ≤ maxLen := by have := hG5.len; rw [HOL.out] at this; exact this
          obtain ⟨fp, hm, hz, hnd⟩ := how
          obtain ⟨b5, off5, y5, rfl, hy, hcy, hy1, hy2, hbm, hbl5, hfz⟩ := rep_int_at hm (i := i) hli
          have hfz := hfz rfl
          have hb5z := hz b5 hbm.out
          have hset := Lib.hid (rep_int_set hm hy.out ⟨hy1, hy2⟩ (y := x) ⟨by omega, by omega⟩)
          have HND := Lib.hid hnd
          have HRS := Lib.hid (HOF.out.1.rng.set (p := i) (by have := HGN.out; omega) (y := x) (by omega) hIx)
          have q_f0 := oldc hb5 l_f q_f0
          have q_f1 := oldc hb5 l_f q_f1
          have q_c0 := oldc hb5 l_c q_c0
          have q_c1 := oldc hb5 l_c q_c1
          have nf1 : ¬ b5 = w.heap.size := by omega
          have nf2 : ¬ w.heap.size = b5 := by omega
          have nc1 : ¬ b5 = w.heap.size + 1 := by omega
          have nc2 : ¬ w.heap.size + 1 = b5 := by omega
          have hB5 : Below w.heap.size w (w5.setCell ⟨b5, off5 + i, none⟩ (.int .i64 x)) := (hBb.trans (hb5.mono (by omega))).setCell (p := ⟨b5, off5 + i, none⟩) (by show w.heap.size ≤ b5; omega) _
          have hb5s : Below wc.heap.size wc (w5.setCell ⟨b5, off5 + i, none⟩ (.int .i64 x)) := hb5.setCell (p := ⟨b5, off5 + i, none⟩) (by show wc.heap.size ≤ b5; omega) _
          have HZ := Lib.hid hz
          clear hb5w0 hG5 hm hnd hy hz hb5
          go_wp2_with fail
          refine (spreadS_any _ _ _ _ _ _ f c (hT.out.below hB5) (hcT.out.below hB5) g (o.set i x) fp hset.out Wa.heap.size (fun b hb => by have := HZ.out b hb; simp; omega) (by omega) (by omega) (by simp; omega) HFAM.out HCLS.out HRS.out).mono ?_
          rintro e w6 ⟨t, o2, rfl, hr6, ho6, HT6, HNT6⟩
          have s6 := ho6.size
          simp only [World.size_setCell] at s6
          have hb6 : Below wc.heap.size wc w6 := hb5s.trans (ho6.toBelow hb5s.size (fun b hb => (HZ.out b hb).1))
          have hbb6 : Below Wa.heap.size Wa w6 := hbb.trans (hb6.mono sR)
          have hM6 := Lib.hid (hM.out.below hb6)
          have q_c0 := oldc hbb6 la_c qa_c0
          have l_c6 : w.heap.size + 1 < w6.heap.size := by omega
          cases t
          · have HN := Lib.hid (HNT6.out rfl)
            have HF2 := Lib.hid (show AOut f c g i o ∧ mrk o i < 0 ∧ ∀ y : Int, 0 ≤ y → y < ((x + 1 : Nat) : Int) → ¬ ∃ k, AVal f c g k ∧ Agr f.1.length k (o.set i y) from ⟨HOF.out.1, HOF.out.2.1, fun y h1 h2 => by
              by_cases e : y = (x : Int)
              · rw [e]; exact HN.out
              · exact HOF.out.2.2 y h1 (by omega)⟩)
            clear HOF HN HT6 HNT6 hr6 ho6 hset HRS hb5s hB5
            go_wp2
            go_roundw
            case rel => exact ⟨x + 1, false, o, am, cm, by omega, by go_num, rfl, rfl, Lib.hid (hM6.out.mono (Nat.le_refl _) (by omega)), HGI, Lib.hid (fun h => by cases h), Lib.hid (fun _ => HF2.out), hbb6⟩
            case measure => simp [intOf]; omega
          · have HI := Lib.hid (HT6.out rfl)
            have hG6 : GIn f g o2 := (HGI.out.set (p := i) (by rw [HOL.out]; exact hli) (by have := HOF.out.2.1; omega) x).inn HI.out.1
            have HN := Lib.hid (AOut.next HOF.out.1 (by have := HGN.out; omega) (by have := HOF.out.2.1; omega) (by omega) HOF.out.2.2 HI.out.1 (HI.out.2.con hG6))
            have HG6 := Lib.hid hG6
            have how6 := Lib.hid (show Ow Wa.heap.size w6.heap.size w6 [.slice (some ⟨b5, off5, none⟩) g.length capN] o2 from ⟨fp, hr6, fun b hb => by have := HZ.out b hb; omega, HND.out⟩)
            clear HOF HI HT6 HNT6 hr6 ho6 hset HRS hb5s hB5 hG6 hM6 HGI
            go_wp2
            go_roundw
            case rel => exact ⟨x + 1, true, o2, _, capN, by omega, by go_num, rfl, rfl, how6, HG6, Lib.hid (fun _ => HN.out), Lib.hid (fun h => by cases h), hbb6⟩
            case measure => simp [intOf]; omega
        · obtain rfl : x = c.1.length := by omega
          have nIx : ¬ (c.1.length : Int) < (c.1.length : Int) := by omega
          obtain ⟨rfl, rfl⟩ := HR.out.no (HOF.out.1.fail (by have := HGN.out; omega) (by have := HOF.out.2.1; omega) HOF.out.2.2)
          clear HR HOF
          go_wp2
          exact bodyPost_ret (v := .tuple #[.slice none 0 0, .bool false]) (by simp [results, go_sem]) rfl ⟨_, rfl, Ow.nil _ _ _, bwT⟩
    · obtain rfl : i = g.length := by omega
      have nI : ¬ (g.length : Int) < (g.length : Int) := by omega
      obtain ⟨rfl, rfl⟩ := HR.out.yes (AOut.least_of (by have := HO.out; rw [HGN.out] at this; exact this) HIN.out)
      have HW := Lib.hid (hM.out.mono (show w.heap.size ≤ Wa.heap.size from sa) (Nat.le_refl _))
      clear HR HO
      go_wp2
      exact bodyPost_ret (v := .tuple #[.slice am g.length cm, .bool true]) (by simp [results, go_sem]) rfl ⟨_, rfl, HW.out, bwT⟩

end

/-! ### AsgI -/
section

set_option maxRecDepth 20000 in
set_option maxHeartbeats 16000000 in
theorem assignI_any {z z1 z' : Bool} {lo hi lo1 hi1 lo' hi' : Nat} (w : World) (v v2 u1 u2 v3 : Value) (f : Fam) (c : Cls) (g : List Int) (h : Rd z lo hi w [v, v2] f) (hc : Rd z1 lo1 hi1 w [u1, u2] c) (h' : Rd z' lo' hi' w [v3] g) (hlc : c.1.length ≤ 1048576) (X : List Int) (V : Bool) (hXV : AsgAns f c g X V) :
    Calls Try.prog 22 #[.agg #[v, v2], .agg #[u1, u2], v3] w (PostOwB w X V) := by
  obtain ⟨ha, hb⟩ := h.fam
  obtain ⟨hw, hq⟩ := hc.two rfl
  obtain ⟨ao, n, cap, rfl, hn, hnc, hcm, hnone⟩ := ha.shape
  obtain ⟨ao2, n2, cap2, rfl, hn2, hnc2, hcm2, hnone2⟩ := hb.shape
  subst hn hn2
  obtain ⟨bo, n3, dap, rfl, hn3, hnc3, hcm3, hnone3⟩ := hw.shape
  obtain ⟨bo2, n4, dap2, rfl, hn4, hnc4, hcm4, hnone4⟩ := hq.shape
  obtain ⟨go, n5, gap, rfl, hn5, hnc5, hcm5, hnone5⟩ := h'.shape
  subst hn3 hn4 hn5
  unfold maxLen at *
  obtain ⟨r1, hlet_r1⟩ : ∃ r, r = givenB f c g (-1) := ⟨_, rfl⟩
  have H1 := Lib.hid hlet_r1
  clear hlet_r1
  have HQ := Lib.hid (show if r1 = true then AsgRes f c g X V else (X = [] ∧ V = false) by rw [H1.out]; exact hXV)
  clear hXV hnone hnone2 hnone3 hnone4 hnone5 ha hb hw hq
  go_enter Try.func22, Try.ntmps22
  go_wp2_with fail
  refine (givenI_b _ _ _ _ _ _ f c g (h.below bwT) (hc.below bwT) (h'.below bwT) hlc (-1) (by decide) (by decide) r1 H1.out).mono ?_
  rintro e2 w2 ⟨rfl, hbw2⟩
  have hpw2 : Below w.heap.size w w2 := Below.after bwT hbw2 szT
  have sw2 := hpw2.size
  have hBw2 : Below w.heap.size w w2 := hpw2
  have l_f : w.heap.size < w2.heap.size := by have := hbw2.size; simp at this; omega
  have q_f0 : w2.cell? ⟨w.heap.size, 0, none⟩ = some (.slice ao f.1.length cap) := oldc hbw2 ltT (by simp [go_sem])
  have q_f1 : w2.cell? ⟨w.heap.size, 1, none⟩ = some (.slice ao2 f.2.length cap2) := oldc hbw2 ltT (by simp [go_sem])
  have l_c : w.heap.size + 1 < w2.heap.size := by have := hbw2.size; simp at this; omega
  have q_c0 : w2.cell? ⟨w.heap.size + 1, 0, none⟩ = some (.slice bo c.1.length dap) := oldc hbw2 ltT (by simp [go_sem])
  have q_c1 : w2.cell? ⟨w.heap.size + 1, 1, none⟩ = some (.slice bo2 c.2.length dap2) := oldc hbw2 ltT (by simp [go_sem])
  clear hbw2 hpw2
  cases r1
  · obtain ⟨rfl, rfl⟩ : X = [] ∧ V = false := by simpa using HQ.out
    clear h hc h' HQ
    go_wp2
    exact bodyPost_ret (v := .tuple #[.slice none 0 0, .bool false]) (by simp [results, go_sem]) rfl ⟨_, rfl, Ow.nil _ _ _, bwT⟩
  have HR := Lib.hid (show AsgRes f c g X V by simpa using HQ.out)
  obtain ⟨hfam, hcls, hgl, -⟩ := givenB_facts H1.out.symm
  obtain ⟨h40, h60, -, -⟩ := famB_facts hfam
  obtain ⟨c0, c8, -, -, -⟩ := isCls_facts hcls
  have HE := Lib.hid (edOk hfam hcls)
  have HRG := Lib.hid (given_rng H1.out.symm)
  have HFAM := Lib.hid hfam
  have HCLS := Lib.hid hcls
  clear HQ hfam hcls hgl
  go_wp2_with fail
  refine (tiesOfI_any _ _ _ _ _ f c (h.below bwT) (hc.below bwT) HFAM.out HCLS.out).mono ?_
  rintro e3 w3 ⟨ut, rfl, hut, hbw3⟩
  have hpw3 : Below w2.heap.size w2 w3 := Below.after bwT hbw3 szT
  have sw3 := hpw3.size
  have hBw3 : Below w.heap.size w w3 := Below.trans hBw2 (Below.mono hpw3 hBw2.size)
  have q_f0 := oldc hpw3 l_f q_f0
  have q_f1 := oldc hpw3 l_f q_f1
  have q_c0 := oldc hpw3 l_c q_c0
  have q_c1 := oldc hpw3 l_c q_c1
  have l_c := Nat.lt_of_lt_of_le l_c sw3
  have l_f := Nat.lt_of_lt_of_le l_f sw3
  clear hbw3 hpw3
  obtain ⟨Wa, hWa⟩ : ∃ W : World, W = w3 := ⟨_, rfl⟩
  subst hWa
  have hBa : Below w.heap.size w Wa := hBw3
  have sa := hBa.size
  go_wp2_with (at_make; refine wpList_mk (α := Int) rfl rfl slInt (y0 := 0) (fun _ => ⟨rfl, by unfold I64; omega, rfl⟩) rfl rfl rfl rfl (by omega) (by unfold maxLen; omega) ?_; intro wA how hbA hlt1)
  have qa_c0 := oldc hbA l_c q_c0
  have la_c : w.heap.size + 1 < wA.heap.size := Nat.lt_of_lt_of_le l_c hbA.size
  have hBA : Below w.heap.size w wA := hBa.trans (hbA.mono sa)
  have sA := hBA.size
  have sAa := hbA.size
  have hut0 := Lib.hid hut
  have hg0 := Lib.hid h'
  have hz1 := inz1 Wa.heap.size
  have how0 := Lib.hid (show Ow Wa.heap.size (Wa.heap.size + 1) wA [.slice (some ⟨Wa.heap.size, 0, none⟩) f.1.length f.1.length] (List.replicate 0 (-1) ++ List.replicate (f.1.length - 0) 0) from how)
  clear how q_f0 q_f1 q_c0 q_c1 hut h hc h'
  go_loopw [10, 30] (fun _ s30 wr => ∃ k : Nat, k ≤ f.1.length ∧ s30 = .int .i64 k ∧ Hid (Ow Wa.heap.size (Wa.heap.size + 1) wr [.slice (some ⟨Wa.heap.size, 0, none⟩) f.1.length f.1.length] (List.replicate k (-1 : Int) ++ List.replicate (f.1.length - k) 0)) ∧ OffF [Wa.heap.size] wA wr) (fun _ s30 _ => f.1.length - (intOf s30).toNat)
  case atStart => exact ⟨0, Nat.zero_le _, rfl, how0, OffF.refl _ _⟩
  case round =>
    clear how0
    obtain ⟨wb, hwb⟩ : ∃ wm : World, wm = wr := ⟨_, rfl⟩
    subst hwb
    obtain ⟨k, hk, rfl, hM, hoff⟩ := hrel
    by_cases hlt : k < f.1.length
    · have hI : (k : Int) < (f.1.length : Int) := by omega
      obtain ⟨x, hx, hcx, hx1, hx2, hfx, -⟩ := hM.out.int_at0 (i := k) hlt
      have hset := hM.out.int_set0 (i := k) hlt (y := -1) ⟨by omega, by omega⟩
      rw [rep_set_snoc hlt] at hset
      have HS := Lib.hid hset
      clear hset hM hx
      go_wp2
      go_roundw
      case rel => exact ⟨k + 1, by omega, by go_num, HS, hoff.setCell (by simp) _⟩
      case measure => simp [intOf]; omega
    · obtain rfl : k = f.1.length := by omega
      have nI : ¬ (f.1.length : Int) < (f.1.length : Int) := by omega
      have so := hoff.size
      have hm0 := Lib.hid (show Ow Wa.heap.size wb.heap.size wb [.slice (some ⟨Wa.heap.size, 0, none⟩) f.1.length f.1.length] (List.replicate f.1.length (-1 : Int)) by have := hM.out.mono (Nat.le_refl _) (show Wa.heap.size + 1 ≤ wb.heap.size by omega); simpa using this)
      have hbb0 : Below Wa.heap.size Wa wb := hbA.trans (hoff.toBelow hbA.size (fun b hb => by simp at hb; omega))
      have HO0 := Lib.hid (AOut.start (f := f) (c := c) (g := g) (fun a b π he => HE.out.inn _ (mem_edges.2 he)))
      have HIN := Lib.hid (show ∀ a b π, IsEd f c a b π → a < f.1.length from fun a b π he => (HE.out.inn _ (mem_edges.2 he)).1)
      have qb_c0 := offc hoff hz1 (.inl (by omega)) la_c qa_c0
      have lb_c : w.heap.size + 1 < Wa.heap.size := l_c
      have qW_c0 : Wa.cell? ⟨w.heap.size + 1, 0, none⟩ = some (.slice bo c.1.length dap) := by
        have := (hbb0.cell (p := ⟨w.heap.size + 1, 0, none⟩) lb_c).symm.trans qb_c0
        exact this
      clear hM hoff qb_c0 qa_c0
      go_wp2
      go_loopw [9, 11, 39] (fun s9 _ s39 wr => ∃ (i : Nat) (o : List Int) (am : Option Addr) (cm : Nat), i ≤ f.1.length ∧ s39 = .int .i64 i ∧ s9 = .slice am f.1.length cm ∧ Hid (Ow Wa.heap.size wr.heap.size wr [.slice am f.1.length cm] o) ∧ Hid (AOut f c g i o) ∧ Below Wa.heap.size Wa wr) (fun _ _ s39 _ => f.1.length - (intOf s39).toNat)
      case atStart => exact ⟨0, _, _, _, Nat.zero_le _, rfl, rfl, hm0, HO0, hbb0⟩
      case round =>
        clear hm0 HO0 hbb0 so sA sAa hBA la_c hbA hlt1
        obtain ⟨wc, hwc⟩ : ∃ wm : World, wm = wr := ⟨_, rfl⟩
        subst hwc
        obtain ⟨i, o, am, cm, hi1, rfl, rfl, hM, HO, hbb⟩ := hrel
        have sR := hbb.size
        have q_c0 := oldc hbb lb_c qW_c0
        have l_c := Nat.lt_of_lt_of_le lb_c sR
        by_cases hli : i < f.1.length
        · have hI : (i : Int) < (f.1.length : Int) := by omega
          obtain ⟨b0, off, x0, rfl, hx, hcx, hx1, hx2, -, -, hbl, -⟩ := hM.out.rd.int_at (i := i) hli
          have HMX := Lib.hid (show mrk o i = x0 from getI_at hx.out)
          by_cases h0 : 0 ≤ x0
          · have HN := Lib.hid (HO.out.skip hli (by rw [HMX.out]; exact h0))
            clear hx HMX HO
            go_wp2
            go_roundw
            case rel => exact ⟨i + 1, o, _, cm, by omega, by go_num, rfl, hM, HN, hbb⟩
            case measure => simp [intOf]; omega
          have HNM := Lib.hid (show mrk o i < 0 by rw [HMX.out]; omega)
          have HF0 := Lib.hid (show ∀ y : Int, 0 ≤ y → y < ((0 : Nat) : Int) → ¬ ∃ k, AVal f c g k ∧ Agr f.1.length k (o.set i y) from fun y h1 h2 => by omega)
          clear hx HMX
          go_wp2
          go_loopw [9, 12, 13, 14, 15, 50] (fun s9 s12 _ _ _ s50 wr => ∃ (x : Nat), x ≤ c.1.length ∧ s50 = .int .i64 x ∧ s12 = .bool false ∧ s9 = .slice (some ⟨b0, off, none⟩) f.1.length cm ∧ Hid (Ow Wa.heap.size wr.heap.size wr [.slice (some ⟨b0, off, none⟩) f.1.length cm] o) ∧ Hid (∀ y : Int, 0 ≤ y → y < (x : Int) → ¬ ∃ k, AVal f c g k ∧ Agr f.1.length k (o.set i y)) ∧ Below Wa.heap.size Wa wr) (fun _ _ _ _ _ s50 _ => c.1.length - (intOf s50).toNat)
          case atStart => exact ⟨0, Nat.zero_le _, rfl, rfl, rfl, hM, HF0, hbb⟩
          case round =>
            clear HF0 hM hbb sR q_c0 l_c hcx hx1 hx2 hbl
            obtain ⟨wd, hwd⟩ : ∃ wm : World, wm = wr := ⟨_, rfl⟩
            subst hwd
            obtain ⟨x, hx1, rfl, rfl, rfl, hM, HF, hbb⟩ := hrel
            have sR := hbb.size
            by_cases hlx : x < c.1.length
            · have hIx : (x : Int) < (c.1.length : Int) := by omega
              go_wp2_with fail
              refine (spread_any _ _ _ _ f c g o (hut0.out.below hbb) hM.out.rd (hg0.out.below (hBa.trans (hbb.mono sa))) HE.out h40 h60 c8 HRG.out.1 i hli HO.out (by have := HNM.out; omega) x hlx).mono ?_
              rintro e w6 ⟨t, o2, us, rfl, how6, hb6, HT6, HNT6⟩
              have s6 := hb6.size
              have hbb6 : Below Wa.heap.size Wa w6 := hbb.trans (hb6.mono sR)
              cases t
              · obtain ⟨rfl, hN⟩ := HNT6.out rfl
                have HN := Lib.hid hN
                have HF2 := Lib.hid (show ∀ y : Int, 0 ≤ y → y < ((x + 1 : Nat) : Int) → ¬ ∃ k, AVal f c g k ∧ Agr f.1.length k (o.set i y) from fun y h1 h2 => by
                  by_cases e : y = (x : Int)
                  · rw [e]; exact HN.out
                  · exact HF.out y h1 (by omega))
                have hM6 := Lib.hid ((hM.out.below hb6).mono (Nat.le_refl _) s6)
                clear hN HN HT6 HNT6 how6 HF hM
                go_wp2
                go_roundw
                case rel => exact ⟨x + 1, by omega, by go_num, rfl, rfl, hM6, HF2, hbb6⟩
                case measure => simp [intOf]; omega
              · obtain ⟨⟨au, cu, rfl⟩, hI1, hI2⟩ := HT6.out rfl
                have HN := Lib.hid (AOut.next HO.out hli (by have := HNM.out; omega) (by omega) HF.out hI1 hI2)
                have how := Lib.hid (how6.mono (show Wa.heap.size ≤ wd.heap.size from sR) (Nat.le_refl _))
                clear HT6 HNT6 how6 HF hM hI1 hI2
                go_wp2
                go_roundw
                case rel => exact ⟨i + 1, o2, au, cu, by omega, by go_num, rfl, how, HN, hbb6⟩
                case measure => simp [intOf]; omega
            · obtain rfl : x = c.1.length := by omega
              have nIx : ¬ (c.1.length : Int) < (c.1.length : Int) := by omega
              obtain ⟨rfl, rfl⟩ := HR.out.no (HO.out.fail hli (by have := HNM.out; omega) HF.out)
              have hBd : Below w.heap.size w wd := hBa.trans (hbb.mono sa)
              clear HR HO
              go_wp2
              exact bodyPost_ret (v := .tuple #[.slice none 0 0, .bool false]) (by simp [results, go_sem]) rfl ⟨_, rfl, Ow.nil _ _ _, bwT⟩
        · obtain rfl : i = f.1.length := by omega
          have nI : ¬ (f.1.length : Int) < (f.1.length : Int) := by omega
          obtain ⟨rfl, rfl⟩ := HR.out.yes (AOut.least_of HO.out HIN.out)
          have HW := Lib.hid (hM.out.mono (show w.heap.size ≤ Wa.heap.size from sa) (Nat.le_refl _))
          have hBd : Below w.heap.size w wc := hBa.trans (hbb.mono sa)
          clear HR HO
          go_wp2
          exact bodyPost_ret (v := .tuple #[.slice am f.1.length cm, .bool true]) (by simp [results, go_sem]) rfl ⟨_, rfl, HW.out, bwT⟩

end

end Go.Proofs.Ytefbbbhidnnchaa
