/- The walk of the law FnGroup. -/
import Derived.Test.YtlnhhfebmeekhaaZ10K
import Derived.Test.YtlnhhfebmeekhaaDrwC
import Derived.Test.YtlnhhfebmeekhaaRegI
import Derived.Test.YtlnhhfebmeekhaaCan2I
import Derived.Test.YtlnhhfebmeekhaaZ10O
import Derived.Test.YtlnhhfebmeekhaaZ10I
namespace Go.Proofs.Ytlnhhfebmeekhaa
set_option linter.unusedVariables false
set_option linter.unusedSimpArgs false
open Go.RowKit

theorem any_take {l : Pms} {i : Nat} {g x : List Int} (h : l[i]? = some g) : decide (x ∈ l.take (i + 1)) = (decide (x ∈ l.take i) || decide (g = x)) := by
  rw [take_snoc h]
  by_cases h1 : x ∈ l.take i <;> by_cases h2 : g = x <;> simp_all [eq_comm]
set_option maxRecDepth 20000 in
set_option maxHeartbeats 40000000 in
theorem walk_FnGroup (w : World) (c0a : Value) (code : List UInt8) (h0 : Rd false 0 w.heap.size w [c0a] code) :
    Calls Try.prog 5 #[c0a] w (PostB w true) := by
  obtain ⟨ao0, len0, cap0, hcs0, hln0, hcn0, hcm0, -⟩ := h0.shape
  subst hcs0
  subst hln0
  unfold maxLen at hcm0
  have hle0 : code.length ≤ 9223372036854775807 := by omega
  clear hcm0 hcn0
  by_cases hg0 : 1048576 < code.length
  · go_enter Try.func5, Try.ntmps5
    go_wp2
    go_ret
    exact ⟨rfl, bwT⟩
  have hq1 : code.length ≤ 1048576 := by omega
  go_enter Try.func5, Try.ntmps5
  go_wp2_with fail
  refine (makeClasses_any _ _ code (h0.below bwT) hq1 5 (by omega) (by omega)).mono ?_
  rintro e1 w1 ⟨ca, cb, c, rfl, hoc, hcl, hbw1⟩
  have hpw1 : Below w.heap.size w w1 := Below.after bwT hbw1 szT
  have sw1 := hpw1.size
  have hBw1 : Below w.heap.size w w1 := hpw1
  clear hbw1 hpw1
  obtain ⟨ac, nc, kc, bc, mc, lc, rfl, rfl⟩ := shapeCls hoc.rd
  obtain ⟨_, _, _, e3, hn3, -⟩ := (hoc.rd.two rfl).1.shape
  simp only [Value.slice.injEq] at e3
  obtain ⟨-, rfl, -⟩ := e3
  subst hn3
  have hc5 : c.1.length ≤ 5 := hcl.out.2
  go_wp2_with fail
  refine (groupOfI_any _ _ _ c (hoc.rd.below bwT) (by omega)).mono ?_
  rintro e2 w2 ⟨ug, rfl, hog, hbw2⟩
  have hpw2 : Below w1.heap.size w1 w2 := Below.after bwT hbw2 szT
  have sw2 := hpw2.size
  have hBw2 : Below w.heap.size w w2 := Below.trans hBw1 (Below.mono hpw2 hBw1.size)
  have l_cc : w1.heap.size < w2.heap.size := by have := hbw2.size; simp at this; omega
  have q_cc0 : w2.cell? ⟨w1.heap.size, 0, none⟩ = some (.slice ac c.1.length kc) := oldc hbw2 ltT (by simp [go_sem])
  have q_cc1 : w2.cell? ⟨w1.heap.size, 1, none⟩ = some (.slice bc mc lc) := oldc hbw2 ltT (by simp [go_sem])
  replace hoc := Ow.below hoc hpw2
  clear hbw2 hpw2
  have HC := Lib.hid hcl.out.1
  obtain ⟨l0, HL0⟩ := grp_law HC.out hc5 (isP_id _)
  obtain ⟨l, hl⟩ : ∃ l, l = l0 := ⟨_, rfl⟩
  rw [← hl] at HL0
  have HX := Lib.hid HL0.x
  have HLP := Lib.hid HL0
  rw [HL0.v]
  rw [HL0.x] at hog
  have hlp : 0 < l.length := HL0.pos
  have hl2 : l.length ≤ 200 := HL0.few
  have hrvS : ∀ sh, IsP c.1.length sh → relabV c sh = true := fun sh hsh => by
    obtain ⟨_, h⟩ := grp_law HC.out hc5 hsh
    exact h.rv
  have HLS := Lib.hid (show ∀ sh, IsP c.1.length sh → GrpLaw c sh l from fun sh hsh => by
    obtain ⟨l2, h⟩ := grp_law HC.out hc5 hsh
    have e : l2 = l := h.x.symm.trans HX.out
    rwa [e] at h)
  clear hl HL0 hcl
  obtain ⟨ag, ng, kg, rfl, hng, -⟩ := hog.rd.shape
  subst hng
  have hne : ((l.length : Int) == 0) = false := beq_eq_false_iff_ne.2 (by omega)
  go_wp2_with fail
  refine (at_any _ _ code (h0.below bwT) hq1 1 (by omega) (by omega)).mono ?_
  rintro e3 w3 ⟨x1, rfl, hx1, hbw3⟩
  have hpw3 : Below w2.heap.size w2 w3 := Below.after bwT hbw3 szT
  have sw3 := hpw3.size
  have hBw3 : Below w.heap.size w w3 := Below.trans hBw2 (Below.mono hpw3 hBw2.size)
  replace q_cc0 := oldc hpw3 l_cc q_cc0
  replace q_cc1 := oldc hpw3 l_cc q_cc1
  replace l_cc := Nat.lt_of_lt_of_le l_cc sw3
  replace hoc := Ow.below hoc hpw3
  replace hog := Ow.below hog hpw3
  clear hbw3 hpw3
  obtain ⟨m1, rfl⟩ := Int.eq_ofNat_of_zero_le hx1.1
  have km1 : ((m1 : Nat) : Int).tmod (l.length : Int) = ((m1 % l.length : Nat) : Int) := by rw [Int.tmod_eq_emod_of_nonneg (by omega)]; rfl
  have hm1 : m1 % l.length < l.length := Nat.mod_lt _ hlp
  obtain ⟨i1, hi1⟩ : ∃ i, i = m1 % l.length := ⟨_, rfl⟩
  rw [← hi1] at km1 hm1
  have hl0 : ¬ (l.length : Int) = 0 := by omega
  have hi1I : (i1 : Int) < (l.length : Int) := by omega
  obtain ⟨b1, o1, p, vp, rfl, hp, cp, hrp, -, -, hb1⟩ := hog.rd.lists_at hm1
  have HP := Lib.hid (List.mem_of_getElem? hp.out)
  obtain ⟨ap, np, kp, rfl, hnp, -⟩ := hrp.shape
  have hpl : p.length ≤ 5 := by have := (HLP.out.isp p HP.out).len; omega
  subst hnp
  have HRP := Lib.hid hrp
  have hbp : Below w3.heap.size w3 w3 := Below.refl _ _
  clear hi1 hp hrp
  go_wp2_with fail
  refine (at_any _ _ code (h0.below bwT) hq1 2 (by omega) (by omega)).mono ?_
  rintro e4 w4 ⟨x2, rfl, hx2, hbw4⟩
  have hpw4 : Below w3.heap.size w3 w4 := Below.after bwT hbw4 szT
  have sw4 := hpw4.size
  have hBw4 : Below w.heap.size w w4 := Below.trans hBw3 (Below.mono hpw4 hBw3.size)
  replace q_cc0 := oldc hpw4 l_cc q_cc0
  replace q_cc1 := oldc hpw4 l_cc q_cc1
  replace l_cc := Nat.lt_of_lt_of_le l_cc sw4
  replace hoc := Ow.below hoc hpw4
  replace hog := Ow.below hog hpw4
  replace hbp := Below.trans hbp (Below.mono hpw4 (by omega))
  clear hbw4 hpw4
  obtain ⟨m2, rfl⟩ := Int.eq_ofNat_of_zero_le hx2.1
  have km2 : ((m2 : Nat) : Int).tmod (l.length : Int) = ((m2 % l.length : Nat) : Int) := by rw [Int.tmod_eq_emod_of_nonneg (by omega)]; rfl
  have hm2 : m2 % l.length < l.length := Nat.mod_lt _ hlp
  obtain ⟨i2, hi2⟩ : ∃ i, i = m2 % l.length := ⟨_, rfl⟩
  rw [← hi2] at km2 hm2
  have hi2I : (i2 : Int) < (l.length : Int) := by omega
  obtain ⟨b2, o2, q, vq, e5, hq, cq, hrq, -, -, hb2⟩ := hog.rd.lists_at hm2
  simp only [Option.some.injEq, Addr.mk.injEq, and_true] at e5
  obtain ⟨rfl, rfl⟩ := e5
  have HQ := Lib.hid (List.mem_of_getElem? hq.out)
  obtain ⟨aq, nq, kq, rfl, hnq, -⟩ := hrq.shape
  have hql : q.length ≤ 5 := by have := (HLP.out.isp q HQ.out).len; omega
  subst hnq
  have HRQ := Lib.hid hrq
  have hbq : Below w4.heap.size w4 w4 := Below.refl _ _
  clear hi2 hq hrq
  go_wp2_with fail
  refine (composeI_any _ _ _ p q (HRP.out.below bwT) (HRQ.out.below bwT) (by omega) (by omega)).mono ?_
  rintro e5 w5 ⟨upq, rfl, hopq, hbw5⟩
  have hpw5 : Below w4.heap.size w4 w5 := Below.after bwT hbw5 szT
  have sw5 := hpw5.size
  have hBw5 : Below w.heap.size w w5 := Below.trans hBw4 (Below.mono hpw5 hBw4.size)
  replace q_cc0 := oldc hpw5 l_cc q_cc0
  replace q_cc1 := oldc hpw5 l_cc q_cc1
  replace l_cc := Nat.lt_of_lt_of_le l_cc sw5
  replace hoc := Ow.below hoc hpw5
  replace hog := Ow.below hog hpw5
  replace hbp := Below.trans hbp (Below.mono hpw5 (by omega))
  replace hbq := Below.trans hbq (Below.mono hpw5 (by omega))
  clear hbw5 hpw5
  obtain ⟨pq, hpq⟩ : ∃ x, x = compP p q := ⟨_, rfl⟩
  obtain ⟨ip, hip⟩ : ∃ x, x = invP p := ⟨_, rfl⟩
  rw [← hpq] at hopq
  have HPQ := Lib.hid (show pq ∈ l by rw [hpq]; exact HLP.out.mul p HP.out q HQ.out)
  have HIP := Lib.hid (show ip ∈ l by rw [hip]; exact HLP.out.inv p HP.out)
  have HIE := Lib.hid hip
  have hpql : pq.length ≤ 5 := by have := (HLP.out.isp pq HPQ.out).len; omega
  have hipl : ip.length ≤ 5 := by have := (HLP.out.isp ip HIP.out).len; omega
  obtain ⟨apq, npq, kpq, rfl, hnpq, -⟩ := hopq.rd.shape
  subst hnpq
  clear hpq hip
  obtain ⟨wB, hwB⟩ : ∃ x : World, x = w5 := ⟨_, rfl⟩
  have HOC := Lib.hid hoc.rd.weak.all
  have HOG := Lib.hid hog.rd.weak.all
  have HOPQ := Lib.hid hopq.rd.weak.all
  have HRPB := Lib.hid ((HRP.out.below hbp).all)
  have hBB : Below w.heap.size w w5 := hBw5
  subst hwB
  go_wp2
  go_loopw [9, 10, 11, 12, 59] (fun s9 s10 _ _ s59 wr => ∃ (k : Nat) (b9 b10 : Bool), k ≤ l.length ∧ s59 = .int .i64 k ∧ s9 = .bool b9 ∧ s10 = .bool b10 ∧ Hid (b9 = decide (pq ∈ l.take k)) ∧ Hid (b10 = decide (ip ∈ l.take k)) ∧ Below wB.heap.size wB wr) (fun _ _ _ _ s59 _ => l.length - (intOf s59).toNat)
  case atStart => exact ⟨0, false, false, Nat.zero_le _, rfl, rfl, rfl, Lib.hid (by simp), Lib.hid (by simp), Below.refl _ _⟩
  case round =>
    obtain ⟨wl, hwl⟩ : ∃ wm : World, wm = wr := ⟨_, rfl⟩
    subst hwl
    obtain ⟨k, b9, b10, hk, rfl, rfl, rfl, HB9, HB10, hbl⟩ := hrel
    have sbl := hbl.size
    have hBl : Below w.heap.size w wl := hBB.trans (hbl.mono hBB.size)
    have l_cl : w1.heap.size < wl.heap.size := by omega
    have k_cc0 := oldc hbl l_cc q_cc0
    have k_cc1 := oldc hbl l_cc q_cc1
    by_cases hlt : k < l.length
    · have hI : (k : Int) < (l.length : Int) := by omega
      obtain ⟨b3, o3, g, vg, e6, hg, cg, hrg, -, -, hb3⟩ := (HOG.out.below hbl).lists_at hlt
      simp only [Option.some.injEq, Addr.mk.injEq, and_true] at e6
      obtain ⟨rfl, rfl⟩ := e6
      have HGA := Lib.hid hg.out
      have HGM := Lib.hid (List.mem_of_getElem? hg.out)
      have HGL := Lib.hid ((HLP.out.isp g HGM.out).len)
      have hgl5 : g.length ≤ 5 := by have := HGL.out; omega
      obtain ⟨aG, nG, kG, rfl, hnG, -⟩ := hrg.shape
      subst hnG
      have HRG := Lib.hid hrg
      have hglne : (((g.length : Nat) : Int) != (c.1.length : Int)) = false := by rw [HGL.out]; simp
      clear hg hrg
      obtain ⟨r9, hlet_r9⟩ : ∃ r, r = (b9 || decide (g = pq)) := ⟨_, rfl⟩
      have HF9 := Lib.hid hlet_r9
      clear hlet_r9
      obtain ⟨r10, hlet_r10⟩ : ∃ r, r = (b10 || decide (g = ip)) := ⟨_, rfl⟩
      have HF10 := Lib.hid hlet_r10
      clear hlet_r10
      have HN9 := Lib.hid (show r9 = decide (pq ∈ l.take (k + 1)) by rw [HF9.out, HB9.out, any_take HGA.out])
      have HN10 := Lib.hid (show r10 = decide (ip ∈ l.take (k + 1)) by rw [HF10.out, HB10.out, any_take HGA.out])
      clear HB9 HB10
      go_upto_region 15 with fail
      go_cut [9] (fun s9 wx => s9 = .bool r9 ∧ Below wl.heap.size wl wx)
      case first =>
        cases b9
        · go_wp2_with fail
          refine (ints_b _ _ _ g pq (HRG.out.below bwT) ((HOPQ.out.below hbl).below bwT) r9 (by rw [HF9.out]; rfl)).mono ?_
          rintro e wx ⟨rfl, hbx⟩
          go_wp2_with fail
          go_meet
          exact ⟨rfl, bwT⟩
        · have hr9 : r9 = true := by rw [HF9.out]; rfl
          clear HF9 HN9
          go_wp2_with fail
          go_meet
          exact ⟨by rw [hr9], Below.refl _ _⟩
      case rest =>
        obtain ⟨wm, hwm⟩ : ∃ W : World, W = wc := ⟨_, rfl⟩
        subst hwm
        obtain ⟨rfl, hbm⟩ := hcut
        have sbm := hbm.size
        have hblm : Below wB.heap.size wB wm := hbl.trans (hbm.mono sbl)
        have HRG := Lib.hid (HRG.out.below hbm)
        have cg := oldc hbm (show b1 < wl.heap.size by omega) cg
        clear HF9
        go_upto_region 16 with fail
        go_cut [10] (fun s10 wx => s10 = .bool r10 ∧ Below wm.heap.size wm wx)
        case first =>
          cases b10
          · go_wp2_with fail
            refine (inversePermI_any _ _ p (((HRPB.out.below hblm)).below bwT) (by omega)).mono ?_
            rintro e wi ⟨ui, rfl, hoi, hbi⟩
            rw [← HIE.out] at hoi
            go_wp2_with fail
            refine (ints_b _ _ _ g ip ((HRG.out.below hbi).below bwT) (hoi.rd.below bwT) r10 (by rw [HF10.out]; rfl)).mono ?_
            rintro e wx ⟨rfl, hbx⟩
            go_wp2_with fail
            go_meet
            exact ⟨rfl, hbi.trans ((show Below wi.heap.size wi _ from bwT).mono hbi.size)⟩
          · have hr10 : r10 = true := by rw [HF10.out]; rfl
            clear HF10 HN10
            go_wp2_with fail
            go_meet
            exact ⟨by rw [hr10], Below.refl _ _⟩
        case rest =>
          obtain ⟨wn, hwn⟩ : ∃ W : World, W = wc := ⟨_, rfl⟩
          subst hwn
          obtain ⟨rfl, hbn⟩ := hcut
          have sbn := hbn.size
          have hbBn : Below wB.heap.size wB wn := hblm.trans (hbn.mono (by omega))
          have HRG := Lib.hid (HRG.out.below hbn)
          have q3 := oldc hbBn l_cc q_cc0
          clear HF10
          by_cases hkz : k = 0
          · have hk0 : ¬ (0 : Int) < ((k : Nat) : Int) := by omega
            have hk1 : ((k : Nat) : Int) ≤ 0 := by omega
            have HKZ := Lib.hid hkz
            clear k_cc0 k_cc1 q_cc0 q_cc1 hkz
            go_wp2
            go_roundw
            case rel => exact ⟨k + 1, _, _, by omega, by go_num, rfl, rfl, HN9, HN10, hbBn⟩
            case measure => simp [intOf]; omega
          · obtain ⟨j, hkj⟩ : ∃ j : Nat, k = j + 1 := ⟨k - 1, by omega⟩
            obtain ⟨b4, o4, g2, vg2, e7, hg2, cg2, hrg2, -, -, hb4⟩ := (HOG.out.below hbBn).lists_at (show j < l.length by omega)
            simp only [Option.some.injEq, Addr.mk.injEq, and_true] at e7
            obtain ⟨rfl, rfl⟩ := e7
            have HNE := Lib.hid (show false = decide (g = g2) from by
              symm; rw [decide_eq_false_iff_not]
              intro e
              have h1 := HGA.out
              rw [e, ← hg2.out] at h1
              have := (List.getElem?_inj (by omega) HLP.out.nodup).1 h1
              omega)
            clear k_cc0 k_cc1 q_cc0 q_cc1 hg2
            have hw1 : wrap64 (((k : Nat) : Int) - 1) = ((j : Nat) : Int) := by rw [hkj]; unfold wrap64; omega
            have hw2 : IntKind.i64.wrap (((k : Nat) : Int) - 1) = ((j : Nat) : Int) := (IntWalk.i64_in _ (by omega)).trans (by omega)
            have hk0 : (0 : Int) < ((k : Nat) : Int) := by omega
            have hkI : ((k : Nat) : Int) < (l.length : Int) := by omega
            have hjI : ((j : Nat) : Int) < (l.length : Int) := by omega
            have hkk := Lib.hid hkj
            clear hkj
            go_wp2_with fail
            refine (ints_b _ _ _ g g2 (HRG.out.below bwT) (hrg2.below bwT) false HNE.out).mono ?_
            rintro e wx ⟨rfl, hbx⟩
            have hpx : Below wn.heap.size wn wx := Below.after bwT hbx szT
            have q4 := oldc hpx (show w1.heap.size < wn.heap.size by omega) q3
            clear hbx
            go_wp2
            go_roundw
            case rel => exact ⟨k + 1, _, _, by omega, by go_num, rfl, rfl, HN9, HN10, hbBn.trans (hpx.mono hbBn.size)⟩
            case measure => simp [intOf]; omega
    · obtain rfl : k = l.length := by omega
      have h9 : b9 = true := by rw [HB9.out, List.take_of_length_le (Nat.le_refl _)]; exact decide_eq_true HPQ.out
      have h10 : b10 = true := by rw [HB10.out, List.take_of_length_le (Nat.le_refl _)]; exact decide_eq_true HIP.out
      subst h9 h10
      clear HB9 HB10 q_cc0 q_cc1
      obtain ⟨wL, hwL⟩ : ∃ x : World, x = wl := ⟨_, rfl⟩
      subst hwL
      have HOC := Lib.hid ((HOC.out.below hbl).all0)
      have hRest := Lib.hid hBl
      obtain ⟨W9, hW9⟩ : ∃ n : Nat, n = w.heap.size := ⟨_, rfl⟩
      have h0len : c.1.length ≤ 1048576 := by omega
      go_upto_region 20 with fail
      go_cut [13, 14] (fun s13 s14 wx => ∃ (D : Nat) (da db : Value) (sh : List Int), s13 = .pointer (some ⟨D, 0, none⟩) ∧ s14 = .bool true ∧ wx.cell? ⟨D, 0, none⟩ = some da ∧ wx.cell? ⟨D, 1, none⟩ = some db ∧ D < wx.heap.size ∧ Hid (IsP c.1.length sh) ∧ Hid (Rd false 0 wx.heap.size wx [da, db] (relabC c sh)) ∧ Below wL.heap.size wL wx)
      case first =>
        have hHeld0 : True := trivial
        refine wp_region_held_drew (S := (fun w' => w'.cell? ⟨w1.heap.size, 0, none⟩ = some (.slice ac c.1.length kc) ∧ w'.cell? ⟨w1.heap.size, 1, none⟩ = some (.slice bc mc lc))) (by kernel_rfl) ?_ (fun hHeld => ?_)
        · first | exact trivial | ((try dsimp only); go_keep)
        refine tkR 0 (v := ?_) ?_ ?_
        rotate_left
        · intro w hSw; (try dsimp only at hSw); go_simp <;> with_reducible rfl
        try simp only [Act.put, List.setIfInBounds_toArray, List.set_cons_zero, List.set_cons_succ]
        refine tkR 1 (v := ?_) ?_ ?_
        rotate_left
        · intro w hSw; (try dsimp only at hSw); go_simp <;> with_reducible rfl
        try simp only [Act.put, List.setIfInBounds_toArray, List.set_cons_zero, List.set_cons_succ]
        refine tkR 3 (v := ?_) ?_ ?_
        rotate_left
        · intro w hSw; (try dsimp only at hSw); go_simp <;> with_reducible rfl
        try simp only [Act.put, List.setIfInBounds_toArray, List.set_cons_zero, List.set_cons_succ]
        refine tkR 4 (v := ?_) ?_ ?_
        rotate_left
        · intro w hSw; (try dsimp only at hSw); go_simp <;> with_reducible rfl
        try simp only [Act.put, List.setIfInBounds_toArray, List.set_cons_zero, List.set_cons_succ]
        refine tkR 5 (v := ?_) ?_ ?_
        rotate_left
        · intro w hSw; (try dsimp only at hSw); go_simp <;> with_reducible rfl
        try simp only [Act.put, List.setIfInBounds_toArray, List.set_cons_zero, List.set_cons_succ]
        refine wpAnyH_ready (rs := [2, 11]) (by kernel_rfl) (by simp) ?_
        refine rdR (fun K hK => ?_) ?_
        · go_simp
          refine (fresh_any _ _ code (h0.below ?b1) hq1 3 (by omega) (by omega)).mono ?_
          case b1 => exact bwT
          rintro e wa ⟨fa, ys, rfl, hofa, hlfa, hrwa⟩
          have hpwa : Below wL.heap.size wL wa := Below.after bwT hrwa (by first | omega | (simp; omega) | simp)
          have swa := hpwa.size
          have hSa := And.intro (oldc hrwa (by first | (simp; omega) | (simp; done) | omega) hHeld.1) (oldc hrwa (by first | (simp; omega) | (simp; done) | omega) hHeld.2)
          have HFA := Lib.hid hofa.rd.all0
          refine hK.out _ _ ?_ (fun hHeld => ?_)
          · exact kpT
          clear hK K
          try simp only [Act.put, List.setIfInBounds_toArray, List.set_cons_zero, List.set_cons_succ]
          refine wpAnyH_ready (rs := [6, 11]) (by kernel_rfl) (by simp) ?_
          refine rdR (fun K hK => ?_) ?_
          · go_simp
            refine (makeShuffle_any _ _ ys (HFA.out.below ?b1) (by omega) c.1.length (by omega)).mono ?_
            case b1 => exact bwT
            rintro e wb ⟨us, sh, rfl, hos, hsh, hrwb⟩
            have hpwb : Below wa.heap.size wa wb := Below.after bwT hrwb (by first | omega | (simp; omega) | simp)
            have swb := hpwb.size
            have hSb := And.intro (oldc hrwb (by first | (simp; omega) | (simp; done) | omega) hHeld.1) (oldc hrwb (by first | (simp; omega) | (simp; done) | omega) hHeld.2)
            have HSH := Lib.hid hos.rd.all0
            refine hK.out _ _ ?_ (fun hHeld => ?_)
            · exact kpT
            clear hK K
            try simp only [Act.put, List.setIfInBounds_toArray, List.set_cons_zero, List.set_cons_succ]
            refine wpAnyH_ready (rs := [7, 11]) (by kernel_rfl) (by simp) ?_
            refine rdR (fun K hK => ?_) ?_
            · go_simp
              refine (relabI_any _ _ _ _ c sh (HOC.out.below ?b1) (HSH.out.below ?b2) (by have := hsh.out.length_eq; rw [idL_len] at this; omega)).mono ?_
              case b1 => exact (hpwa.trans (hpwb.mono swa)).trans (show Below wL.heap.size wb _ from bwT)
              case b2 => exact bwT
              rintro e wd ⟨da, db, rfl, hod, hrwd⟩
              obtain ⟨ad, nd, kd, bd, md, ld, rfl, rfl⟩ := shapeCls hod.rd
              rw [hrvS sh hsh.out]
              have hpwd : Below wb.heap.size wb wd := Below.after bwT hrwd (by first | omega | (simp; omega) | simp)
              have swd := hpwd.size
              have hSd := And.intro (oldc hrwd (by first | (simp; omega) | (simp; done) | omega) hHeld.1) (oldc hrwd (by first | (simp; omega) | (simp; done) | omega) hHeld.2)
              have HOD := Lib.hid hod
              have hBLd : Below wL.heap.size wL wd := (hpwa.trans (hpwb.mono swa)).trans (hpwd.mono (by omega))
              (try simp only [World.size_alloc, World.size_drew] at HOD)
              have dnc : ¬ w1.heap.size = wd.heap.size := by omega
              have dmc : ¬ wd.heap.size = w1.heap.size := by omega
              refine hK.out _ _ ?_ (fun hHeld => ?_)
              · exact kpT
              clear hK K
              try simp only [Act.put, List.setIfInBounds_toArray, List.set_cons_zero, List.set_cons_succ]
              refine tkR 8 (v := ?_) ?_ ?_
              rotate_left
              · intro w hSw; (try dsimp only at hSw); go_simp <;> with_reducible rfl
              try simp only [Act.put, List.setIfInBounds_toArray, List.set_cons_zero, List.set_cons_succ]
              refine tkR 9 (v := ?_) ?_ ?_
              rotate_left
              · intro w hSw; (try dsimp only at hSw); go_simp <;> with_reducible rfl
              try simp only [Act.put, List.setIfInBounds_toArray, List.set_cons_zero, List.set_cons_succ]
              refine tkR 10 (v := ?_) ?_ ?_
              rotate_left
              · intro w hSw; (try dsimp only at hSw); go_simp <;> with_reducible rfl
              try simp only [Act.put, List.setIfInBounds_toArray, List.set_cons_zero, List.set_cons_succ]
              refine wpAnyH_ready (rs := [11]) (by kernel_rfl) (by simp) ?_
              refine rdR (fun K hK => ?_) ?_
              · go_simp
                refine hK.out _ _ ?_ (fun hHeld => ?_)
                · exact kpT
                clear hK K
                try simp only [Act.put, List.setIfInBounds_toArray, List.set_cons_zero, List.set_cons_succ]
                refine wpAnyH_ready (rs := [12]) (by kernel_rfl) (by simp) ?_
                refine rdR (fun K hK => ?_) ?_
                · go_simp
                  refine hK.out _ _ ?_ (fun hHeld => ?_)
                  · exact kpT
                  clear hK K
                  try simp only [Act.put, List.setIfInBounds_toArray, List.set_cons_zero, List.set_cons_succ]
                  refine tkR 13 (v := ?_) ?_ ?_
                  rotate_left
                  · intro w hSw; (try dsimp only at hSw); go_simp <;> with_reducible rfl
                  try simp only [Act.put, List.setIfInBounds_toArray, List.set_cons_zero, List.set_cons_succ]
                  refine wpAnyH_done (by kernel_rfl) ?_ _
                  go_wp2_with fail
                  go_meet
                  exact ⟨_, .slice ad nd kd, .slice bd md ld, sh, rfl, rfl, by first | (simp [go_sem]; done) | simp [go_sem, *], by first | (simp [go_sem]; done) | simp [go_sem, *], by first | (simp; omega) | simp, hsh, Lib.hid ((HOD.out.keep zgT).rd.weak.all0), bwT⟩
                exact AllReadyH.nil
              exact AllReadyH.nil
            refine rdR (fun K hK => ?_) ?_
            · go_simp
              refine hK.out _ _ ?_ (fun hHeld => ?_)
              · exact kpT
              clear hK K
              try simp only [Act.put, List.setIfInBounds_toArray, List.set_cons_zero, List.set_cons_succ]
              refine wpAnyH_ready (rs := [7]) (by kernel_rfl) (by simp) ?_
              refine rdR (fun K hK => ?_) ?_
              · go_simp
                refine (relabI_any _ _ _ _ c sh (HOC.out.below ?b1) (HSH.out.below ?b2) (by have := hsh.out.length_eq; rw [idL_len] at this; omega)).mono ?_
                case b1 => exact (hpwa.trans (hpwb.mono swa)).trans (show Below wL.heap.size wb _ from bwT)
                case b2 => exact bwT
                rintro e wd ⟨da, db, rfl, hod, hrwd⟩
                obtain ⟨ad, nd, kd, bd, md, ld, rfl, rfl⟩ := shapeCls hod.rd
                rw [hrvS sh hsh.out]
                have hpwd : Below wb.heap.size wb wd := Below.after bwT hrwd (by first | omega | (simp; omega) | simp)
                have swd := hpwd.size
                have hSd := And.intro (oldc hrwd (by first | (simp; omega) | (simp; done) | omega) hHeld.1) (oldc hrwd (by first | (simp; omega) | (simp; done) | omega) hHeld.2)
                have HOD := Lib.hid hod
                have hBLd : Below wL.heap.size wL wd := (hpwa.trans (hpwb.mono swa)).trans (hpwd.mono (by omega))
                (try simp only [World.size_alloc, World.size_drew] at HOD)
                have d0 : wd.cell? ⟨wb.heap.size, 0, none⟩ = some (.slice none 0 0) := oldc hrwd (by simp) (by simp [go_sem])
                have d1 : wd.cell? ⟨wb.heap.size, 1, none⟩ = some (.slice none 0 0) := oldc hrwd (by simp) (by simp [go_sem])
                have df : ∀ o, wd.frozen? ⟨wb.heap.size, o, none⟩ = false := (fun o => (hrwd.frozen (p := ⟨wb.heap.size, o, none⟩) (by simp)).trans (by simp [go_sem]))
                have dl : wb.heap.size < wd.heap.size := (by have := hrwd.size; simp at this; omega)
                have dnc : ¬ w1.heap.size = wb.heap.size := by omega
                have dmc : ¬ wb.heap.size = w1.heap.size := by omega
                refine hK.out _ _ ?_ (fun hHeld => ?_)
                · exact kpT
                clear hK K
                try simp only [Act.put, List.setIfInBounds_toArray, List.set_cons_zero, List.set_cons_succ]
                refine tkR 8 (v := ?_) ?_ ?_
                rotate_left
                · intro w hSw; (try dsimp only at hSw); go_simp <;> with_reducible rfl
                try simp only [Act.put, List.setIfInBounds_toArray, List.set_cons_zero, List.set_cons_succ]
                refine tkR 9 (v := ?_) ?_ ?_
                rotate_left
                · intro w hSw; (try dsimp only at hSw); go_simp <;> with_reducible rfl
                try simp only [Act.put, List.setIfInBounds_toArray, List.set_cons_zero, List.set_cons_succ]
                refine tkR 10 (v := ?_) ?_ ?_
                rotate_left
                · intro w hSw; (try dsimp only at hSw); go_simp <;> with_reducible rfl
                try simp only [Act.put, List.setIfInBounds_toArray, List.set_cons_zero, List.set_cons_succ]
                refine wpAnyH_ready (rs := [12]) (by kernel_rfl) (by simp) ?_
                refine rdR (fun K hK => ?_) ?_
                · go_simp
                  refine hK.out _ _ ?_ (fun hHeld => ?_)
                  · exact kpT
                  clear hK K
                  try simp only [Act.put, List.setIfInBounds_toArray, List.set_cons_zero, List.set_cons_succ]
                  refine tkR 13 (v := ?_) ?_ ?_
                  rotate_left
                  · intro w hSw; (try dsimp only at hSw); go_simp <;> with_reducible rfl
                  try simp only [Act.put, List.setIfInBounds_toArray, List.set_cons_zero, List.set_cons_succ]
                  refine wpAnyH_done (by kernel_rfl) ?_ _
                  go_wp2_with fail
                  go_meet
                  exact ⟨_, .slice ad nd kd, .slice bd md ld, sh, rfl, rfl, by first | (simp [go_sem]; done) | simp [go_sem, *], by first | (simp [go_sem]; done) | simp [go_sem, *], by first | (simp; omega) | simp, hsh, Lib.hid ((HOD.out.keep zgT).rd.weak.all0), bwT⟩
                exact AllReadyH.nil
              exact AllReadyH.nil
            exact AllReadyH.nil
          refine rdR (fun K hK => ?_) ?_
          · go_simp
            refine hK.out _ _ ?_ (fun hHeld => ?_)
            · exact kpT
            clear hK K
            try simp only [Act.put, List.setIfInBounds_toArray, List.set_cons_zero, List.set_cons_succ]
            refine wpAnyH_ready (rs := [6]) (by kernel_rfl) (by simp) ?_
            refine rdR (fun K hK => ?_) ?_
            · go_simp
              refine (makeShuffle_any _ _ ys (HFA.out.below ?b1) (by omega) c.1.length (by omega)).mono ?_
              case b1 => exact bwT
              rintro e wb ⟨us, sh, rfl, hos, hsh, hrwb⟩
              have hpwb : Below wa.heap.size wa wb := Below.after bwT hrwb (by first | omega | (simp; omega) | simp)
              have swb := hpwb.size
              have hSb := And.intro (oldc hrwb (by first | (simp; omega) | (simp; done) | omega) hHeld.1) (oldc hrwb (by first | (simp; omega) | (simp; done) | omega) hHeld.2)
              have HSH := Lib.hid hos.rd.all0
              have d0 : wb.cell? ⟨wa.heap.size, 0, none⟩ = some (.slice none 0 0) := oldc hrwb (by simp) (by simp [go_sem])
              have d1 : wb.cell? ⟨wa.heap.size, 1, none⟩ = some (.slice none 0 0) := oldc hrwb (by simp) (by simp [go_sem])
              have df : ∀ o, wb.frozen? ⟨wa.heap.size, o, none⟩ = false := (fun o => (hrwb.frozen (p := ⟨wa.heap.size, o, none⟩) (by simp)).trans (by simp [go_sem]))
              have dl : wa.heap.size < wb.heap.size := (by have := hrwb.size; simp at this; omega)
              refine hK.out _ _ ?_ (fun hHeld => ?_)
              · exact kpT
              clear hK K
              try simp only [Act.put, List.setIfInBounds_toArray, List.set_cons_zero, List.set_cons_succ]
              refine wpAnyH_ready (rs := [7]) (by kernel_rfl) (by simp) ?_
              refine rdR (fun K hK => ?_) ?_
              · go_simp
                refine (relabI_any _ _ _ _ c sh (HOC.out.below ?b1) (HSH.out.below ?b2) (by have := hsh.out.length_eq; rw [idL_len] at this; omega)).mono ?_
                case b1 => exact (hpwa.trans (hpwb.mono swa)).trans (show Below wL.heap.size wb _ from bwT)
                case b2 => exact bwT
                rintro e wd ⟨da, db, rfl, hod, hrwd⟩
                obtain ⟨ad, nd, kd, bd, md, ld, rfl, rfl⟩ := shapeCls hod.rd
                rw [hrvS sh hsh.out]
                have hpwd : Below wb.heap.size wb wd := Below.after bwT hrwd (by first | omega | (simp; omega) | simp)
                have swd := hpwd.size
                have hSd := And.intro (oldc hrwd (by first | (simp; omega) | (simp; done) | omega) hHeld.1) (oldc hrwd (by first | (simp; omega) | (simp; done) | omega) hHeld.2)
                have HOD := Lib.hid hod
                have hBLd : Below wL.heap.size wL wd := (hpwa.trans (hpwb.mono swa)).trans (hpwd.mono (by omega))
                (try simp only [World.size_alloc, World.size_drew] at HOD)
                have d0 := oldc hpwd dl d0
                have d1 := oldc hpwd dl d1
                have df : ∀ o, wd.frozen? ⟨wa.heap.size, o, none⟩ = false := (fun o => (hpwd.frozen (p := ⟨wa.heap.size, o, none⟩) dl).trans (df o))
                have dl := Nat.lt_of_lt_of_le dl hpwd.size
                have dnc : ¬ w1.heap.size = wa.heap.size := by omega
                have dmc : ¬ wa.heap.size = w1.heap.size := by omega
                refine hK.out _ _ ?_ (fun hHeld => ?_)
                · exact kpT
                clear hK K
                try simp only [Act.put, List.setIfInBounds_toArray, List.set_cons_zero, List.set_cons_succ]
                refine tkR 8 (v := ?_) ?_ ?_
                rotate_left
                · intro w hSw; (try dsimp only at hSw); go_simp <;> with_reducible rfl
                try simp only [Act.put, List.setIfInBounds_toArray, List.set_cons_zero, List.set_cons_succ]
                refine tkR 9 (v := ?_) ?_ ?_
                rotate_left
                · intro w hSw; (try dsimp only at hSw); go_simp <;> with_reducible rfl
                try simp only [Act.put, List.setIfInBounds_toArray, List.set_cons_zero, List.set_cons_succ]
                refine tkR 10 (v := ?_) ?_ ?_
                rotate_left
                · intro w hSw; (try dsimp only at hSw); go_simp <;> with_reducible rfl
                try simp only [Act.put, List.setIfInBounds_toArray, List.set_cons_zero, List.set_cons_succ]
                refine wpAnyH_ready (rs := [12]) (by kernel_rfl) (by simp) ?_
                refine rdR (fun K hK => ?_) ?_
                · go_simp
                  refine hK.out _ _ ?_ (fun hHeld => ?_)
                  · exact kpT
                  clear hK K
                  try simp only [Act.put, List.setIfInBounds_toArray, List.set_cons_zero, List.set_cons_succ]
                  refine tkR 13 (v := ?_) ?_ ?_
                  rotate_left
                  · intro w hSw; (try dsimp only at hSw); go_simp <;> with_reducible rfl
                  try simp only [Act.put, List.setIfInBounds_toArray, List.set_cons_zero, List.set_cons_succ]
                  refine wpAnyH_done (by kernel_rfl) ?_ _
                  go_wp2_with fail
                  go_meet
                  exact ⟨_, .slice ad nd kd, .slice bd md ld, sh, rfl, rfl, by first | (simp [go_sem]; done) | simp [go_sem, *], by first | (simp [go_sem]; done) | simp [go_sem, *], by first | (simp; omega) | simp, hsh, Lib.hid ((HOD.out.keep zgT).rd.weak.all0), bwT⟩
                exact AllReadyH.nil
              exact AllReadyH.nil
            exact AllReadyH.nil
          exact AllReadyH.nil
        refine rdR (fun K hK => ?_) ?_
        · go_simp
          refine hK.out _ _ ?_ (fun hHeld => ?_)
          · exact kpT
          clear hK K
          try simp only [Act.put, List.setIfInBounds_toArray, List.set_cons_zero, List.set_cons_succ]
          refine wpAnyH_ready (rs := [2]) (by kernel_rfl) (by simp) ?_
          refine rdR (fun K hK => ?_) ?_
          · go_simp
            refine (fresh_any _ _ code (h0.below ?b1) hq1 3 (by omega) (by omega)).mono ?_
            case b1 => exact bwT
            rintro e wa ⟨fa, ys, rfl, hofa, hlfa, hrwa⟩
            have hpwa : Below wL.heap.size wL wa := Below.after bwT hrwa (by first | omega | (simp; omega) | simp)
            have swa := hpwa.size
            have hSa := And.intro (oldc hrwa (by first | (simp; omega) | (simp; done) | omega) hHeld.1) (oldc hrwa (by first | (simp; omega) | (simp; done) | omega) hHeld.2)
            have HFA := Lib.hid hofa.rd.all0
            have d0 : wa.cell? ⟨wL.heap.size, 0, none⟩ = some (.slice none 0 0) := oldc hrwa (by simp) (by simp [go_sem])
            have d1 : wa.cell? ⟨wL.heap.size, 1, none⟩ = some (.slice none 0 0) := oldc hrwa (by simp) (by simp [go_sem])
            have df : ∀ o, wa.frozen? ⟨wL.heap.size, o, none⟩ = false := (fun o => (hrwa.frozen (p := ⟨wL.heap.size, o, none⟩) (by simp)).trans (by simp [go_sem]))
            have dl : wL.heap.size < wa.heap.size := (by have := hrwa.size; simp at this; omega)
            refine hK.out _ _ ?_ (fun hHeld => ?_)
            · exact kpT
            clear hK K
            try simp only [Act.put, List.setIfInBounds_toArray, List.set_cons_zero, List.set_cons_succ]
            refine wpAnyH_ready (rs := [6]) (by kernel_rfl) (by simp) ?_
            refine rdR (fun K hK => ?_) ?_
            · go_simp
              refine (makeShuffle_any _ _ ys (HFA.out.below ?b1) (by omega) c.1.length (by omega)).mono ?_
              case b1 => exact bwT
              rintro e wb ⟨us, sh, rfl, hos, hsh, hrwb⟩
              have hpwb : Below wa.heap.size wa wb := Below.after bwT hrwb (by first | omega | (simp; omega) | simp)
              have swb := hpwb.size
              have hSb := And.intro (oldc hrwb (by first | (simp; omega) | (simp; done) | omega) hHeld.1) (oldc hrwb (by first | (simp; omega) | (simp; done) | omega) hHeld.2)
              have HSH := Lib.hid hos.rd.all0
              have d0 := oldc hpwb dl d0
              have d1 := oldc hpwb dl d1
              have df : ∀ o, wb.frozen? ⟨wL.heap.size, o, none⟩ = false := (fun o => (hpwb.frozen (p := ⟨wL.heap.size, o, none⟩) dl).trans (df o))
              have dl := Nat.lt_of_lt_of_le dl hpwb.size
              refine hK.out _ _ ?_ (fun hHeld => ?_)
              · exact kpT
              clear hK K
              try simp only [Act.put, List.setIfInBounds_toArray, List.set_cons_zero, List.set_cons_succ]
              refine wpAnyH_ready (rs := [7]) (by kernel_rfl) (by simp) ?_
              refine rdR (fun K hK => ?_) ?_
              · go_simp
                refine (relabI_any _ _ _ _ c sh (HOC.out.below ?b1) (HSH.out.below ?b2) (by have := hsh.out.length_eq; rw [idL_len] at this; omega)).mono ?_
                case b1 => exact (hpwa.trans (hpwb.mono swa)).trans (show Below wL.heap.size wb _ from bwT)
                case b2 => exact bwT
                rintro e wd ⟨da, db, rfl, hod, hrwd⟩
                obtain ⟨ad, nd, kd, bd, md, ld, rfl, rfl⟩ := shapeCls hod.rd
                rw [hrvS sh hsh.out]
                have hpwd : Below wb.heap.size wb wd := Below.after bwT hrwd (by first | omega | (simp; omega) | simp)
                have swd := hpwd.size
                have hSd := And.intro (oldc hrwd (by first | (simp; omega) | (simp; done) | omega) hHeld.1) (oldc hrwd (by first | (simp; omega) | (simp; done) | omega) hHeld.2)
                have HOD := Lib.hid hod
                have hBLd : Below wL.heap.size wL wd := (hpwa.trans (hpwb.mono swa)).trans (hpwd.mono (by omega))
                (try simp only [World.size_alloc, World.size_drew] at HOD)
                have d0 := oldc hpwd dl d0
                have d1 := oldc hpwd dl d1
                have df : ∀ o, wd.frozen? ⟨wL.heap.size, o, none⟩ = false := (fun o => (hpwd.frozen (p := ⟨wL.heap.size, o, none⟩) dl).trans (df o))
                have dl := Nat.lt_of_lt_of_le dl hpwd.size
                have dnc : ¬ w1.heap.size = wL.heap.size := by omega
                have dmc : ¬ wL.heap.size = w1.heap.size := by omega
                refine hK.out _ _ ?_ (fun hHeld => ?_)
                · exact kpT
                clear hK K
                try simp only [Act.put, List.setIfInBounds_toArray, List.set_cons_zero, List.set_cons_succ]
                refine tkR 8 (v := ?_) ?_ ?_
                rotate_left
                · intro w hSw; (try dsimp only at hSw); go_simp <;> with_reducible rfl
                try simp only [Act.put, List.setIfInBounds_toArray, List.set_cons_zero, List.set_cons_succ]
                refine tkR 9 (v := ?_) ?_ ?_
                rotate_left
                · intro w hSw; (try dsimp only at hSw); go_simp <;> with_reducible rfl
                try simp only [Act.put, List.setIfInBounds_toArray, List.set_cons_zero, List.set_cons_succ]
                refine tkR 10 (v := ?_) ?_ ?_
                rotate_left
                · intro w hSw; (try dsimp only at hSw); go_simp <;> with_reducible rfl
                try simp only [Act.put, List.setIfInBounds_toArray, List.set_cons_zero, List.set_cons_succ]
                refine wpAnyH_ready (rs := [12]) (by kernel_rfl) (by simp) ?_
                refine rdR (fun K hK => ?_) ?_
                · go_simp
                  refine hK.out _ _ ?_ (fun hHeld => ?_)
                  · exact kpT
                  clear hK K
                  try simp only [Act.put, List.setIfInBounds_toArray, List.set_cons_zero, List.set_cons_succ]
                  refine tkR 13 (v := ?_) ?_ ?_
                  rotate_left
                  · intro w hSw; (try dsimp only at hSw); go_simp <;> with_reducible rfl
                  try simp only [Act.put, List.setIfInBounds_toArray, List.set_cons_zero, List.set_cons_succ]
                  refine wpAnyH_done (by kernel_rfl) ?_ _
                  go_wp2_with fail
                  go_meet
                  exact ⟨_, .slice ad nd kd, .slice bd md ld, sh, rfl, rfl, by first | (simp [go_sem]; done) | simp [go_sem, *], by first | (simp [go_sem]; done) | simp [go_sem, *], by first | (simp; omega) | simp, hsh, Lib.hid ((HOD.out.keep zgT).rd.weak.all0), bwT⟩
                exact AllReadyH.nil
              exact AllReadyH.nil
            exact AllReadyH.nil
          exact AllReadyH.nil
        exact AllReadyH.nil
      case rest =>
        obtain ⟨wD, hwD⟩ : ∃ W : World, W = wc := ⟨_, rfl⟩
        subst hwD
        obtain ⟨D, da, db, sh, rfl, rfl, q_d0, q_d1, l_d, HSH, HOD, hbLD⟩ := hcut
        have sLD := hbLD.size
        have hBwD : Below w.heap.size w wD := hBl.trans (hbLD.mono hBl.size)
        obtain ⟨ad, nd, kd, bd, md, ld, rfl, rfl⟩ := shapeCls HOD.out
        have l_cc : w1.heap.size < wD.heap.size := by omega
        have q_cc0 := oldc hbLD l_cl k_cc0
        have q_cc1 := oldc hbLD l_cl k_cc1
        have HL := Lib.hid (HLS.out sh HSH.out)
        have HOC := Lib.hid ((HOC.out.below hbLD).all0)
        have hdl := HL.out.dlen
        obtain ⟨d, hd⟩ : ∃ x, x = relabC c sh := ⟨_, rfl⟩
        rw [← hd] at HOD hdl
        have HDD := Lib.hid hd
        have hd5 : d.1.length ≤ 1048576 := by omega
        have HDL := Lib.hid hdl
        clear hdl hd k_cc0 k_cc1 hBl
        have hbD : Below wD.heap.size wD wD := Below.refl _ _
        go_wp2_with fail
        refine (canonicalI_any _ _ _ c ((HOC.out.below hbD).below bwT)).mono ?_
        rintro e6 w6 ⟨xa, xb, rfl, hox, hbw6⟩
        have hpw6 : Below wD.heap.size wD w6 := Below.after bwT hbw6 szT
        have sw6 := hpw6.size
        have hBw6 : Below w.heap.size w w6 := Below.trans hBwD (Below.mono hpw6 hBwD.size)
        replace q_cc0 := oldc hpw6 l_cc q_cc0
        replace q_cc1 := oldc hpw6 l_cc q_cc1
        replace q_d0 := oldc hpw6 l_d q_d0
        replace q_d1 := oldc hpw6 l_d q_d1
        replace l_cc := Nat.lt_of_lt_of_le l_cc sw6
        replace l_d := Nat.lt_of_lt_of_le l_d sw6
        replace hbD := Below.trans hbD (Below.mono hpw6 (by omega))
        clear hbw6 hpw6
        have HCX := Lib.hid (show canonR d = canonR c by rw [HDD.out]; exact HL.out.canon)
        rw [HL.out.cv]
        obtain ⟨X, hX⟩ : ∃ X, X = canonR c := ⟨_, rfl⟩
        rw [← hX] at hox HCX
        have HX2 := Lib.hid hX
        clear hX
        obtain ⟨ax, nx, kx, bx, mx, lx, rfl, rfl⟩ := shapeCls hox.rd
        go_wp2_with fail
        refine (canonicalI_any _ _ _ d ((HOD.out.below hbD).below bwT)).mono ?_
        rintro e7 w7 ⟨ya, yb, rfl, hoy, hbw7⟩
        have hpw7 : Below w6.heap.size w6 w7 := Below.after bwT hbw7 szT
        have sw7 := hpw7.size
        have hBw7 : Below w.heap.size w w7 := Below.trans hBw6 (Below.mono hpw7 hBw6.size)
        replace q_cc0 := oldc hpw7 l_cc q_cc0
        replace q_cc1 := oldc hpw7 l_cc q_cc1
        replace q_d0 := oldc hpw7 l_d q_d0
        replace q_d1 := oldc hpw7 l_d q_d1
        replace l_cc := Nat.lt_of_lt_of_le l_cc sw7
        replace l_d := Nat.lt_of_lt_of_le l_d sw7
        have l_xx : w6.heap.size < w7.heap.size := by have := hbw7.size; simp at this; omega
        have q_xx0 : w7.cell? ⟨w6.heap.size, 0, none⟩ = some (.slice ax nx kx) := oldc hbw7 ltT (by simp [go_sem])
        have q_xx1 : w7.cell? ⟨w6.heap.size, 1, none⟩ = some (.slice bx mx lx) := oldc hbw7 ltT (by simp [go_sem])
        replace hox := Ow.below hox hpw7
        replace hbD := Below.trans hbD (Below.mono hpw7 (by omega))
        clear hbw7 hpw7
        rw [HCX.out] at hoy
        rw [show canonV d = true by rw [HDD.out]; exact HL.out.dv]
        obtain ⟨ay, ny, ky, byy, my, ly, rfl, rfl⟩ := shapeCls hoy.rd
        go_wp2_with fail
        refine (groupOfI_any _ _ _ d ((HOD.out.below hbD).below bwT) hd5).mono ?_
        rintro e8 w8 ⟨uo, rfl, hoo, hbw8⟩
        have hpw8 : Below w7.heap.size w7 w8 := Below.after bwT hbw8 szT
        have sw8 := hpw8.size
        have hBw8 : Below w.heap.size w w8 := Below.trans hBw7 (Below.mono hpw8 hBw7.size)
        replace q_cc0 := oldc hpw8 l_cc q_cc0
        replace q_cc1 := oldc hpw8 l_cc q_cc1
        replace q_d0 := oldc hpw8 l_d q_d0
        replace q_d1 := oldc hpw8 l_d q_d1
        replace q_xx0 := oldc hpw8 l_xx q_xx0
        replace q_xx1 := oldc hpw8 l_xx q_xx1
        replace l_cc := Nat.lt_of_lt_of_le l_cc sw8
        replace l_d := Nat.lt_of_lt_of_le l_d sw8
        replace l_xx := Nat.lt_of_lt_of_le l_xx sw8
        have l_yy : w7.heap.size < w8.heap.size := by have := hbw8.size; simp at this; omega
        have q_yy0 : w8.cell? ⟨w7.heap.size, 0, none⟩ = some (.slice ay ny ky) := oldc hbw8 ltT (by simp [go_sem])
        have q_yy1 : w8.cell? ⟨w7.heap.size, 1, none⟩ = some (.slice byy my ly) := oldc hbw8 ltT (by simp [go_sem])
        replace hox := Ow.below hox hpw8
        replace hoy := Ow.below hoy hpw8
        replace hbD := Below.trans hbD (Below.mono hpw8 (by omega))
        clear hbw8 hpw8
        rw [show grpV d = true by rw [HDD.out]; exact HL.out.gv]
        obtain ⟨ao2, no2, ko2, rfl, hno2, -⟩ := hoo.rd.shape
        have hno3 : no2 = l.length := by rw [← hno2, HDD.out]; exact HL.out.glen
        subst hno3
        clear hno2 hoo
        obtain ⟨wY, hwY⟩ : ∃ x : World, x = w8 := ⟨_, rfl⟩
        have hBY : Below w.heap.size w w8 := hBw8
        have hbDY : Below wD.heap.size wD w8 := hbD
        have HRX := Lib.hid hox.rd.weak.all
        have HRY := Lib.hid hoy.rd.weak.all
        subst hwY
        have HRC := Lib.hid ((HOC.out.below hbDY).all0)
        have HRD := Lib.hid ((HOD.out.below hbDY).all0)
        have HQX := Lib.hid (HRX.out.two rfl)
        have HQY := Lib.hid (HRY.out.two rfl)
        obtain ⟨rg, hlet_rg⟩ : ∃ r, r = isReg c := ⟨_, rfl⟩
        have HRG1 := Lib.hid hlet_rg
        clear hlet_rg
        have HRG2 := Lib.hid (show rg = isReg d by rw [HRG1.out, HDD.out]; exact HL.out.reg.symm)
        obtain ⟨fb, hlet_fb⟩ : ∃ r, r = forb c := ⟨_, rfl⟩
        have HFB1 := Lib.hid hlet_fb
        clear hlet_fb
        have HFB2 := Lib.hid (show fb = forb d by rw [HFB1.out, HDD.out]; exact HL.out.forb.symm)
        obtain ⟨al, hal⟩ : ∃ x, x = allowX c 3 := ⟨_, rfl⟩
        have HAL := Lib.hid hal
        have HAL2 := Lib.hid (show al = allowX d 3 by rw [hal, HDD.out]; exact (grp_allow HC.out HSH.out 3).symm)
        clear hal
        have HSM := Lib.hid (show true = (canonV c && canonV d && decide (canonR c = canonR d)) by rw [HL.out.cv, show canonV d = true by rw [HDD.out]; exact HL.out.dv, HCX.out, ← HX2.out]; simp)
        have HFin := Lib.hid (show ∀ (V : World), Below wY.heap.size wY V → Below w.heap.size w V from fun V h => hBY.trans (h.mono hBY.size))
        clear HX2 HCX HL HLS hrvS HX HLP HSH HDD HDL
        go_upto_region 24 with fail
        refine wp_region_held_drew (S := (fun w' => w'.cell? ⟨w1.heap.size, 0, none⟩ = some (.slice ac c.1.length kc) ∧ w'.cell? ⟨w1.heap.size, 1, none⟩ = some (.slice bc mc lc) ∧ w'.cell? ⟨D, 0, none⟩ = some (.slice ad nd kd) ∧ w'.cell? ⟨D, 1, none⟩ = some (.slice bd md ld) ∧ w'.cell? ⟨w6.heap.size, 0, none⟩ = some (.slice ax nx kx) ∧ w'.cell? ⟨w6.heap.size, 1, none⟩ = some (.slice bx mx lx) ∧ w'.cell? ⟨w7.heap.size, 0, none⟩ = some (.slice ay ny ky) ∧ w'.cell? ⟨w7.heap.size, 1, none⟩ = some (.slice byy my ly))) (by kernel_rfl) ?_ (fun hHeld => ?_)
        · first | exact trivial | ((try dsimp only); go_keep)
        refine tkR 0 (v := ?_) ?_ ?_
        rotate_left
        · intro w hSw; (try dsimp only at hSw); go_simp <;> with_reducible rfl
        try simp only [Act.put, List.setIfInBounds_toArray, List.set_cons_zero, List.set_cons_succ]
        refine tkR 1 (v := ?_) ?_ ?_
        rotate_left
        · intro w hSw; (try dsimp only at hSw); go_simp <;> with_reducible rfl
        try simp only [Act.put, List.setIfInBounds_toArray, List.set_cons_zero, List.set_cons_succ]
        refine tkR 2 (v := ?_) ?_ ?_
        rotate_left
        · intro w hSw; (try dsimp only at hSw); go_simp <;> with_reducible rfl
        try simp only [Act.put, List.setIfInBounds_toArray, List.set_cons_zero, List.set_cons_succ]
        refine tkR 3 (v := ?_) ?_ ?_
        rotate_left
        · intro w hSw; (try dsimp only at hSw); go_simp <;> with_reducible rfl
        try simp only [Act.put, List.setIfInBounds_toArray, List.set_cons_zero, List.set_cons_succ]
        refine tkR 4 (v := ?_) ?_ ?_
        rotate_left
        · intro w hSw; (try dsimp only at hSw); go_simp <;> with_reducible rfl
        try simp only [Act.put, List.setIfInBounds_toArray, List.set_cons_zero, List.set_cons_succ]
        refine tkR 5 (v := ?_) ?_ ?_
        rotate_left
        · intro w hSw; (try dsimp only at hSw); go_simp <;> with_reducible rfl
        try simp only [Act.put, List.setIfInBounds_toArray, List.set_cons_zero, List.set_cons_succ]
        refine tkR 6 (v := ?_) ?_ ?_
        rotate_left
        · intro w hSw; (try dsimp only at hSw); go_simp <;> with_reducible rfl
        try simp only [Act.put, List.setIfInBounds_toArray, List.set_cons_zero, List.set_cons_succ]
        refine tkR 7 (v := ?_) ?_ ?_
        rotate_left
        · intro w hSw; (try dsimp only at hSw); go_simp <;> with_reducible rfl
        try simp only [Act.put, List.setIfInBounds_toArray, List.set_cons_zero, List.set_cons_succ]
        refine tkR 8 (v := ?_) ?_ ?_
        rotate_left
        · intro w hSw; (try dsimp only at hSw); go_simp <;> with_reducible rfl
        try simp only [Act.put, List.setIfInBounds_toArray, List.set_cons_zero, List.set_cons_succ]
        refine tkR 9 (v := ?_) ?_ ?_
        rotate_left
        · intro w hSw; (try dsimp only at hSw); go_simp <;> with_reducible rfl
        try simp only [Act.put, List.setIfInBounds_toArray, List.set_cons_zero, List.set_cons_succ]
        refine tkR 10 (v := ?_) ?_ ?_
        rotate_left
        · intro w hSw; (try dsimp only at hSw); go_simp <;> with_reducible rfl
        try simp only [Act.put, List.setIfInBounds_toArray, List.set_cons_zero, List.set_cons_succ]
        refine tkR 11 (v := ?_) ?_ ?_
        rotate_left
        · intro w hSw; (try dsimp only at hSw); go_simp <;> with_reducible rfl
        try simp only [Act.put, List.setIfInBounds_toArray, List.set_cons_zero, List.set_cons_succ]
        refine tkR 12 (v := ?_) ?_ ?_
        rotate_left
        · intro w hSw; (try dsimp only at hSw); go_simp <;> with_reducible rfl
        try simp only [Act.put, List.setIfInBounds_toArray, List.set_cons_zero, List.set_cons_succ]
        refine tkR 13 (v := ?_) ?_ ?_
        rotate_left
        · intro w hSw; (try dsimp only at hSw); go_simp <;> with_reducible rfl
        try simp only [Act.put, List.setIfInBounds_toArray, List.set_cons_zero, List.set_cons_succ]
        refine tkR 14 (v := ?_) ?_ ?_
        rotate_left
        · intro w hSw; (try dsimp only at hSw); go_simp <;> with_reducible rfl
        try simp only [Act.put, List.setIfInBounds_toArray, List.set_cons_zero, List.set_cons_succ]
        refine tkR 15 (v := ?_) ?_ ?_
        rotate_left
        · intro w hSw; (try dsimp only at hSw); go_simp <;> with_reducible rfl
        try simp only [Act.put, List.setIfInBounds_toArray, List.set_cons_zero, List.set_cons_succ]
        refine tkR 16 (v := ?_) ?_ ?_
        rotate_left
        · intro w hSw; (try dsimp only at hSw); go_simp <;> with_reducible rfl
        try simp only [Act.put, List.setIfInBounds_toArray, List.set_cons_zero, List.set_cons_succ]
        refine tkR 17 (v := ?_) ?_ ?_
        rotate_left
        · intro w hSw; (try dsimp only at hSw); go_simp <;> with_reducible rfl
        try simp only [Act.put, List.setIfInBounds_toArray, List.set_cons_zero, List.set_cons_succ]
        refine tkR 19 (v := ?_) ?_ ?_
        rotate_left
        · intro w hSw; (try dsimp only at hSw); go_simp <;> with_reducible rfl
        try simp only [Act.put, List.setIfInBounds_toArray, List.set_cons_zero, List.set_cons_succ]
        refine tkR 18 (v := ?_) ?_ ?_
        rotate_left
        · intro w hSw; (try dsimp only at hSw); go_simp <;> with_reducible rfl
        try simp only [Act.put, List.setIfInBounds_toArray, List.set_cons_zero, List.set_cons_succ]
        refine tkR 20 (v := ?_) ?_ ?_
        rotate_left
        · intro w hSw; (try dsimp only at hSw); go_simp <;> with_reducible rfl
        try simp only [Act.put, List.setIfInBounds_toArray, List.set_cons_zero, List.set_cons_succ]
        refine wpAnyH_ready (rs := [21]) (by kernel_rfl) (by simp) ?_
        refine rdR (fun K hK => ?_) ?_
        · go_simp
          refine (ints_b _ _ _ _ _ (HQX.out.1.below (show Below wY.heap.size wY _ from bwT)) (HQY.out.1.below (show Below wY.heap.size wY _ from bwT)) true (decide_eq_true rfl).symm).mono ?_
          rintro e va ⟨rfl, hrva⟩
          have hpva : Below wY.heap.size wY va := Below.after bwT hrva (by first | omega | (simp; omega) | simp)
          have sva := hpva.size
          have hbva : Below wY.heap.size wY va := hpva
          have hSva := (And.intro (oldc hbva l_cc q_cc0) (And.intro (oldc hbva l_cc q_cc1) (And.intro (oldc hbva l_d q_d0) (And.intro (oldc hbva l_d q_d1) (And.intro (oldc hbva l_xx q_xx0) (And.intro (oldc hbva l_xx q_xx1) (And.intro (oldc hbva l_yy q_yy0) (oldc hbva l_yy q_yy1))))))))
          clear hrva
          refine hK.out _ _ ?_ (fun hHeld => ?_)
          · exact kpT
          clear hK K
          try simp only [Act.put, List.setIfInBounds_toArray, List.set_cons_zero, List.set_cons_succ]
          refine tkR 22 (v := ?_) ?_ ?_
          rotate_left
          · intro w hSw; (try dsimp only at hSw); go_simp <;> with_reducible rfl
          try simp only [Act.put, List.setIfInBounds_toArray, List.set_cons_zero, List.set_cons_succ]
          refine tkR 23 (v := ?_) ?_ ?_
          rotate_left
          · intro w hSw; (try dsimp only at hSw); go_simp <;> with_reducible rfl
          try simp only [Act.put, List.setIfInBounds_toArray, List.set_cons_zero, List.set_cons_succ]
          refine tkR 24 (v := ?_) ?_ ?_
          rotate_left
          · intro w hSw; (try dsimp only at hSw); go_simp <;> with_reducible rfl
          try simp only [Act.put, List.setIfInBounds_toArray, List.set_cons_zero, List.set_cons_succ]
          refine tkR 26 (v := ?_) ?_ ?_
          rotate_left
          · intro w hSw; (try dsimp only at hSw); go_simp <;> with_reducible rfl
          try simp only [Act.put, List.setIfInBounds_toArray, List.set_cons_zero, List.set_cons_succ]
          refine tkR 25 (v := ?_) ?_ ?_
          rotate_left
          · intro w hSw; (try dsimp only at hSw); go_simp <;> with_reducible rfl
          try simp only [Act.put, List.setIfInBounds_toArray, List.set_cons_zero, List.set_cons_succ]
          refine tkR 27 (v := ?_) ?_ ?_
          rotate_left
          · intro w hSw; (try dsimp only at hSw); go_simp <;> with_reducible rfl
          try simp only [Act.put, List.setIfInBounds_toArray, List.set_cons_zero, List.set_cons_succ]
          refine wpAnyH_ready (rs := [28]) (by kernel_rfl) (by simp) ?_
          refine rdR (fun K hK => ?_) ?_
          · go_simp
            refine (ints_b _ _ _ _ _ (HQX.out.2.below (show Below wY.heap.size wY _ from hbva.trans ((show Below va.heap.size va _ from bwT).mono (by omega)))) (HQY.out.2.below (show Below wY.heap.size wY _ from hbva.trans ((show Below va.heap.size va _ from bwT).mono (by omega)))) true (decide_eq_true rfl).symm).mono ?_
            rintro e vb ⟨rfl, hrvb⟩
            have hpvb : Below va.heap.size va vb := Below.after bwT hrvb (by first | omega | (simp; omega) | simp)
            have svb := hpvb.size
            have hbvb : Below wY.heap.size wY vb := hbva.trans (hpvb.mono (by omega))
            have hSvb := (And.intro (oldc hbvb l_cc q_cc0) (And.intro (oldc hbvb l_cc q_cc1) (And.intro (oldc hbvb l_d q_d0) (And.intro (oldc hbvb l_d q_d1) (And.intro (oldc hbvb l_xx q_xx0) (And.intro (oldc hbvb l_xx q_xx1) (And.intro (oldc hbvb l_yy q_yy0) (oldc hbvb l_yy q_yy1))))))))
            clear hrvb
            refine hK.out _ _ ?_ (fun hHeld => ?_)
            · exact kpT
            clear hK K
            try simp only [Act.put, List.setIfInBounds_toArray, List.set_cons_zero, List.set_cons_succ]
            refine tkR 29 (v := ?_) ?_ ?_
            rotate_left
            · intro w hSw; (try dsimp only at hSw); go_simp <;> with_reducible rfl
            try simp only [Act.put, List.setIfInBounds_toArray, List.set_cons_zero, List.set_cons_succ]
            refine tkR 30 (v := ?_) ?_ ?_
            rotate_left
            · intro w hSw; (try dsimp only at hSw); go_simp <;> with_reducible rfl
            try simp only [Act.put, List.setIfInBounds_toArray, List.set_cons_zero, List.set_cons_succ]
            refine tkR 31 (v := ?_) ?_ ?_
            rotate_left
            · intro w hSw; (try dsimp only at hSw); go_simp <;> with_reducible rfl
            try simp only [Act.put, List.setIfInBounds_toArray, List.set_cons_zero, List.set_cons_succ]
            refine tkR 32 (v := ?_) ?_ ?_
            rotate_left
            · intro w hSw; (try dsimp only at hSw); go_simp <;> with_reducible rfl
            try simp only [Act.put, List.setIfInBounds_toArray, List.set_cons_zero, List.set_cons_succ]
            refine wpAnyH_ready (rs := [33]) (by kernel_rfl) (by simp) ?_
            refine rdR (fun K hK => ?_) ?_
            · go_simp
              refine (sameI_b _ _ _ _ _ c d (HRC.out.below (show Below wY.heap.size wY _ from hbvb.trans ((show Below vb.heap.size vb _ from bwT).mono (by omega)))) (HRD.out.below (show Below wY.heap.size wY _ from hbvb.trans ((show Below vb.heap.size vb _ from bwT).mono (by omega)))) true HSM.out).mono ?_
              rintro e vc ⟨rfl, hrvc⟩
              have hpvc : Below vb.heap.size vb vc := Below.after bwT hrvc (by first | omega | (simp; omega) | simp)
              have svc := hpvc.size
              have hbvc : Below wY.heap.size wY vc := hbvb.trans (hpvc.mono (by omega))
              have hSvc := (And.intro (oldc hbvc l_cc q_cc0) (And.intro (oldc hbvc l_cc q_cc1) (And.intro (oldc hbvc l_d q_d0) (And.intro (oldc hbvc l_d q_d1) (And.intro (oldc hbvc l_xx q_xx0) (And.intro (oldc hbvc l_xx q_xx1) (And.intro (oldc hbvc l_yy q_yy0) (oldc hbvc l_yy q_yy1))))))))
              clear hrvc
              refine hK.out _ _ ?_ (fun hHeld => ?_)
              · exact kpT
              clear hK K
              try simp only [Act.put, List.setIfInBounds_toArray, List.set_cons_zero, List.set_cons_succ]
              refine tkR 34 (v := ?_) ?_ ?_
              rotate_left
              · intro w hSw; (try dsimp only at hSw); go_simp <;> with_reducible rfl
              try simp only [Act.put, List.setIfInBounds_toArray, List.set_cons_zero, List.set_cons_succ]
              refine tkR 35 (v := ?_) ?_ ?_
              rotate_left
              · intro w hSw; (try dsimp only at hSw); go_simp <;> with_reducible rfl
              try simp only [Act.put, List.setIfInBounds_toArray, List.set_cons_zero, List.set_cons_succ]
              refine tkR 36 (v := ?_) ?_ ?_
              rotate_left
              · intro w hSw; (try dsimp only at hSw); go_simp <;> with_reducible rfl
              try simp only [Act.put, List.setIfInBounds_toArray, List.set_cons_zero, List.set_cons_succ]
              refine tkR 38 (v := ?_) ?_ ?_
              rotate_left
              · intro w hSw; (try dsimp only at hSw); go_simp <;> with_reducible rfl
              try simp only [Act.put, List.setIfInBounds_toArray, List.set_cons_zero, List.set_cons_succ]
              refine tkR 37 (v := ?_) ?_ ?_
              rotate_left
              · intro w hSw; (try dsimp only at hSw); go_simp <;> with_reducible rfl
              try simp only [Act.put, List.setIfInBounds_toArray, List.set_cons_zero, List.set_cons_succ]
              refine tkR 39 (v := ?_) ?_ ?_
              rotate_left
              · intro w hSw; (try dsimp only at hSw); go_simp <;> with_reducible rfl
              try simp only [Act.put, List.setIfInBounds_toArray, List.set_cons_zero, List.set_cons_succ]
              refine tkR 40 (v := ?_) ?_ ?_
              rotate_left
              · intro w hSw; (try dsimp only at hSw); go_simp <;> with_reducible rfl
              try simp only [Act.put, List.setIfInBounds_toArray, List.set_cons_zero, List.set_cons_succ]
              refine tkR 41 (v := ?_) ?_ ?_
              rotate_left
              · intro w hSw; (try dsimp only at hSw); go_simp <;> with_reducible rfl
              try simp only [Act.put, List.setIfInBounds_toArray, List.set_cons_zero, List.set_cons_succ]
              refine tkR 42 (v := ?_) ?_ ?_
              rotate_left
              · intro w hSw; (try dsimp only at hSw); go_simp <;> with_reducible rfl
              try simp only [Act.put, List.setIfInBounds_toArray, List.set_cons_zero, List.set_cons_succ]
              refine tkR 43 (v := ?_) ?_ ?_
              rotate_left
              · intro w hSw; (try dsimp only at hSw); go_simp <;> with_reducible rfl
              try simp only [Act.put, List.setIfInBounds_toArray, List.set_cons_zero, List.set_cons_succ]
              refine tkR 45 (v := ?_) ?_ ?_
              rotate_left
              · intro w hSw; (try dsimp only at hSw); go_simp <;> with_reducible rfl
              try simp only [Act.put, List.setIfInBounds_toArray, List.set_cons_zero, List.set_cons_succ]
              refine wpAnyH_ready (rs := [44]) (by kernel_rfl) (by simp) ?_
              refine rdR (fun K hK => ?_) ?_
              · go_simp
                refine (isRegI_b _ _ _ c (HRC.out.below (show Below wY.heap.size wY _ from hbvc.trans ((show Below vc.heap.size vc _ from bwT).mono (by omega)))) (by omega) rg HRG1.out).mono ?_
                rintro e vd ⟨rfl, hrvd⟩
                have hpvd : Below vc.heap.size vc vd := Below.after bwT hrvd (by first | omega | (simp; omega) | simp)
                have svd := hpvd.size
                have hbvd : Below wY.heap.size wY vd := hbvc.trans (hpvd.mono (by omega))
                have hSvd := (And.intro (oldc hbvd l_cc q_cc0) (And.intro (oldc hbvd l_cc q_cc1) (And.intro (oldc hbvd l_d q_d0) (And.intro (oldc hbvd l_d q_d1) (And.intro (oldc hbvd l_xx q_xx0) (And.intro (oldc hbvd l_xx q_xx1) (And.intro (oldc hbvd l_yy q_yy0) (oldc hbvd l_yy q_yy1))))))))
                clear hrvd
                refine hK.out _ _ ?_ (fun hHeld => ?_)
                · exact kpT
                clear hK K
                try simp only [Act.put, List.setIfInBounds_toArray, List.set_cons_zero, List.set_cons_succ]
                refine wpAnyH_ready (rs := [46]) (by kernel_rfl) (by simp) ?_
                refine rdR (fun K hK => ?_) ?_
                · go_simp
                  refine (isRegI_b _ _ _ d (HRD.out.below (show Below wY.heap.size wY _ from hbvd.trans ((show Below vd.heap.size vd _ from bwT).mono (by omega)))) hd5 rg HRG2.out).mono ?_
                  rintro e ve ⟨rfl, hrve⟩
                  have hpve : Below vd.heap.size vd ve := Below.after bwT hrve (by first | omega | (simp; omega) | simp)
                  have sve := hpve.size
                  have hbve : Below wY.heap.size wY ve := hbvd.trans (hpve.mono (by omega))
                  have hSve := (And.intro (oldc hbve l_cc q_cc0) (And.intro (oldc hbve l_cc q_cc1) (And.intro (oldc hbve l_d q_d0) (And.intro (oldc hbve l_d q_d1) (And.intro (oldc hbve l_xx q_xx0) (And.intro (oldc hbve l_xx q_xx1) (And.intro (oldc hbve l_yy q_yy0) (oldc hbve l_yy q_yy1))))))))
                  clear hrve
                  refine hK.out _ _ ?_ (fun hHeld => ?_)
                  · exact kpT
                  clear hK K
                  try simp only [Act.put, List.setIfInBounds_toArray, List.set_cons_zero, List.set_cons_succ]
                  refine tkR 47 (v := ?_) ?_ ?_
                  rotate_left
                  · intro w hSw; (try dsimp only at hSw); go_simp <;> with_reducible rfl
                  try simp only [Act.put, List.setIfInBounds_toArray, List.set_cons_zero, List.set_cons_succ]
                  refine tkR 48 (v := ?_) ?_ ?_
                  rotate_left
                  · intro w hSw; (try dsimp only at hSw); go_simp <;> with_reducible rfl
                  try simp only [Act.put, List.setIfInBounds_toArray, List.set_cons_zero, List.set_cons_succ]
                  refine tkR 49 (v := ?_) ?_ ?_
                  rotate_left
                  · intro w hSw; (try dsimp only at hSw); go_simp <;> with_reducible rfl
                  try simp only [Act.put, List.setIfInBounds_toArray, List.set_cons_zero, List.set_cons_succ]
                  refine tkR 50 (v := ?_) ?_ ?_
                  rotate_left
                  · intro w hSw; (try dsimp only at hSw); go_simp <;> with_reducible rfl
                  try simp only [Act.put, List.setIfInBounds_toArray, List.set_cons_zero, List.set_cons_succ]
                  refine tkR 52 (v := ?_) ?_ ?_
                  rotate_left
                  · intro w hSw; (try dsimp only at hSw); go_simp <;> with_reducible rfl
                  try simp only [Act.put, List.setIfInBounds_toArray, List.set_cons_zero, List.set_cons_succ]
                  refine wpAnyH_ready (rs := [51]) (by kernel_rfl) (by simp) ?_
                  refine rdR (fun K hK => ?_) ?_
                  · go_simp
                    refine (forbI_b _ _ _ c (HRC.out.below (show Below wY.heap.size wY _ from hbve.trans ((show Below ve.heap.size ve _ from bwT).mono (by omega)))) (by omega) fb HFB1.out).mono ?_
                    rintro e vf ⟨rfl, hrvf⟩
                    have hpvf : Below ve.heap.size ve vf := Below.after bwT hrvf (by first | omega | (simp; omega) | simp)
                    have svf := hpvf.size
                    have hbvf : Below wY.heap.size wY vf := hbve.trans (hpvf.mono (by omega))
                    have hSvf := (And.intro (oldc hbvf l_cc q_cc0) (And.intro (oldc hbvf l_cc q_cc1) (And.intro (oldc hbvf l_d q_d0) (And.intro (oldc hbvf l_d q_d1) (And.intro (oldc hbvf l_xx q_xx0) (And.intro (oldc hbvf l_xx q_xx1) (And.intro (oldc hbvf l_yy q_yy0) (oldc hbvf l_yy q_yy1))))))))
                    clear hrvf
                    refine hK.out _ _ ?_ (fun hHeld => ?_)
                    · exact kpT
                    clear hK K
                    try simp only [Act.put, List.setIfInBounds_toArray, List.set_cons_zero, List.set_cons_succ]
                    refine wpAnyH_ready (rs := [53]) (by kernel_rfl) (by simp) ?_
                    refine rdR (fun K hK => ?_) ?_
                    · go_simp
                      refine (forbI_b _ _ _ d (HRD.out.below (show Below wY.heap.size wY _ from hbvf.trans ((show Below vf.heap.size vf _ from bwT).mono (by omega)))) hd5 fb HFB2.out).mono ?_
                      rintro e vg ⟨rfl, hrvg⟩
                      have hpvg : Below vf.heap.size vf vg := Below.after bwT hrvg (by first | omega | (simp; omega) | simp)
                      have svg := hpvg.size
                      have hbvg : Below wY.heap.size wY vg := hbvf.trans (hpvg.mono (by omega))
                      have hSvg := (And.intro (oldc hbvg l_cc q_cc0) (And.intro (oldc hbvg l_cc q_cc1) (And.intro (oldc hbvg l_d q_d0) (And.intro (oldc hbvg l_d q_d1) (And.intro (oldc hbvg l_xx q_xx0) (And.intro (oldc hbvg l_xx q_xx1) (And.intro (oldc hbvg l_yy q_yy0) (oldc hbvg l_yy q_yy1))))))))
                      clear hrvg
                      refine hK.out _ _ ?_ (fun hHeld => ?_)
                      · exact kpT
                      clear hK K
                      try simp only [Act.put, List.setIfInBounds_toArray, List.set_cons_zero, List.set_cons_succ]
                      refine tkR 54 (v := ?_) ?_ ?_
                      rotate_left
                      · intro w hSw; (try dsimp only at hSw); go_simp <;> with_reducible rfl
                      try simp only [Act.put, List.setIfInBounds_toArray, List.set_cons_zero, List.set_cons_succ]
                      refine tkR 55 (v := ?_) ?_ ?_
                      rotate_left
                      · intro w hSw; (try dsimp only at hSw); go_simp <;> with_reducible rfl
                      try simp only [Act.put, List.setIfInBounds_toArray, List.set_cons_zero, List.set_cons_succ]
                      refine tkR 56 (v := ?_) ?_ ?_
                      rotate_left
                      · intro w hSw; (try dsimp only at hSw); go_simp <;> with_reducible rfl
                      try simp only [Act.put, List.setIfInBounds_toArray, List.set_cons_zero, List.set_cons_succ]
                      refine tkR 57 (v := ?_) ?_ ?_
                      rotate_left
                      · intro w hSw; (try dsimp only at hSw); go_simp <;> with_reducible rfl
                      try simp only [Act.put, List.setIfInBounds_toArray, List.set_cons_zero, List.set_cons_succ]
                      refine tkR 59 (v := ?_) ?_ ?_
                      rotate_left
                      · intro w hSw; (try dsimp only at hSw); go_simp <;> with_reducible rfl
                      try simp only [Act.put, List.setIfInBounds_toArray, List.set_cons_zero, List.set_cons_succ]
                      refine wpAnyH_ready (rs := [58]) (by kernel_rfl) (by simp) ?_
                      refine rdR (fun K hK => ?_) ?_
                      · go_simp
                        refine (allowedI_any _ _ _ c (HRC.out.below (show Below wY.heap.size wY _ from hbvg.trans ((show Below vg.heap.size vg _ from bwT).mono (by omega)))) (by omega) 3).mono ?_
                        rintro e vh ⟨uh, rfl, hoh, hrvh⟩
                        have hpvh : Below vg.heap.size vg vh := Below.after bwT hrvh (by first | omega | (simp; omega) | simp)
                        have svh := hpvh.size
                        have hbvh : Below wY.heap.size wY vh := hbvg.trans (hpvh.mono (by omega))
                        have hSvh := (And.intro (oldc hbvh l_cc q_cc0) (And.intro (oldc hbvh l_cc q_cc1) (And.intro (oldc hbvh l_d q_d0) (And.intro (oldc hbvh l_d q_d1) (And.intro (oldc hbvh l_xx q_xx0) (And.intro (oldc hbvh l_xx q_xx1) (And.intro (oldc hbvh l_yy q_yy0) (oldc hbvh l_yy q_yy1))))))))
                        rw [← HAL.out] at hoh
                        have HOH := Lib.hid hoh.rd
                        clear hrvh
                        refine hK.out _ _ ?_ (fun hHeld => ?_)
                        · exact kpT
                        clear hK K
                        try simp only [Act.put, List.setIfInBounds_toArray, List.set_cons_zero, List.set_cons_succ]
                        refine wpAnyH_ready (rs := [60]) (by kernel_rfl) (by simp) ?_
                        refine rdR (fun K hK => ?_) ?_
                        · go_simp
                          refine (allowedI_any _ _ _ d (HRD.out.below (show Below wY.heap.size wY _ from hbvh.trans ((show Below vh.heap.size vh _ from bwT).mono (by omega)))) hd5 3).mono ?_
                          rintro e vi ⟨ui, rfl, hoi, hrvi⟩
                          have hpvi : Below vh.heap.size vh vi := Below.after bwT hrvi (by first | omega | (simp; omega) | simp)
                          have svi := hpvi.size
                          have hbvi : Below wY.heap.size wY vi := hbvh.trans (hpvi.mono (by omega))
                          have hSvi := (And.intro (oldc hbvi l_cc q_cc0) (And.intro (oldc hbvi l_cc q_cc1) (And.intro (oldc hbvi l_d q_d0) (And.intro (oldc hbvi l_d q_d1) (And.intro (oldc hbvi l_xx q_xx0) (And.intro (oldc hbvi l_xx q_xx1) (And.intro (oldc hbvi l_yy q_yy0) (oldc hbvi l_yy q_yy1))))))))
                          rw [← HAL2.out] at hoi
                          have HOI := Lib.hid hoi.rd
                          have HOH := Lib.hid (HOH.out.below hpvi)
                          clear hrvi
                          refine hK.out _ _ ?_ (fun hHeld => ?_)
                          · exact kpT
                          clear hK K
                          try simp only [Act.put, List.setIfInBounds_toArray, List.set_cons_zero, List.set_cons_succ]
                          refine wpAnyH_ready (rs := [61]) (by kernel_rfl) (by simp) ?_
                          refine rdR (fun K hK => ?_) ?_
                          · go_simp
                            refine (sameTypes_b _ _ _ al al (HOH.out.below bwT) (HOI.out.below bwT) true (decide_eq_true rfl).symm).mono ?_
                            rintro e vj ⟨rfl, hrvj⟩
                            have hpvj : Below vi.heap.size vi vj := Below.after bwT hrvj (by first | omega | (simp; omega) | simp)
                            have svj := hpvj.size
                            have hbvj : Below wY.heap.size wY vj := hbvi.trans (hpvj.mono (by omega))
                            have hSvj := (And.intro (oldc hbvj l_cc q_cc0) (And.intro (oldc hbvj l_cc q_cc1) (And.intro (oldc hbvj l_d q_d0) (And.intro (oldc hbvj l_d q_d1) (And.intro (oldc hbvj l_xx q_xx0) (And.intro (oldc hbvj l_xx q_xx1) (And.intro (oldc hbvj l_yy q_yy0) (oldc hbvj l_yy q_yy1))))))))
                            clear hrvj
                            refine hK.out _ _ ?_ (fun hHeld => ?_)
                            · exact kpT
                            clear hK K
                            try simp only [Act.put, List.setIfInBounds_toArray, List.set_cons_zero, List.set_cons_succ]
                            refine tkR 62 (v := ?_) ?_ ?_
                            rotate_left
                            · intro w hSw; (try dsimp only at hSw); go_simp <;> with_reducible rfl
                            try simp only [Act.put, List.setIfInBounds_toArray, List.set_cons_zero, List.set_cons_succ]
                            refine tkR 63 (v := ?_) ?_ ?_
                            rotate_left
                            · intro w hSw; (try dsimp only at hSw); go_simp <;> with_reducible rfl
                            try simp only [Act.put, List.setIfInBounds_toArray, List.set_cons_zero, List.set_cons_succ]
                            refine wpAnyH_done (by kernel_rfl) ?_ _
                            go_wp2
                            go_ret
                            exact ⟨rfl, HFin.out _ (hbvj.trans ((show Below vj.heap.size vj _ from bwT).mono (by omega)))⟩
                          exact AllReadyH.nil
                        exact AllReadyH.nil
                      exact AllReadyH.nil
                    exact AllReadyH.nil
                  exact AllReadyH.nil
                exact AllReadyH.nil
              exact AllReadyH.nil
            exact AllReadyH.nil
          exact AllReadyH.nil
        exact AllReadyH.nil
end Go.Proofs.Ytlnhhfebmeekhaa
