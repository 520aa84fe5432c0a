/- Contracts of TypePermutation (spec) and what it calls. -/
import Derived.Test.YtdjnogcljmaapaaTypS
import Derived.Test.YtdjnogcljmaapaaTPm
namespace Go.Proofs.Ytdjnogcljmaapaa
set_option linter.unusedVariables false
set_option linter.unusedSimpArgs false
open Go.RowKit

theorem comp_getP {p q : List Int} {x : Int} (h0 : 0 ≤ x) (h1 : x < p.length) : getP (comp p q) x = getP q (getP p x) := by
  have h := getP_some h0 h1
  have h2 : (comp p q)[x.toNat]? = some (getP q (getP p x)) := by
    show (p.map fun x => q.getD x.toNat 0)[x.toNat]? = _
    rw [List.getElem?_map, h]; rfl
  simp [getP, List.getD_eq_getElem?_getD, h2]
theorem idL_getP {n x : Nat} (h : x < n) : getP (idL n) (x : Int) = x := by simp [getP, idL, List.getD_eq_getElem?_getD, h]

set_option maxRecDepth 20000 in
set_option maxHeartbeats 4000000 in
theorem l6StepS_any {z : Bool} {lo hi : Nat} (w : World) (u v : Value) (c : Cls) (h : Rd z lo hi w [u, v] c) (hc : isCls c = true) (k sex : Int) (hk : 1 ≤ k ∧ k ≤ 8) (x : Nat) (hx : x < c.1.length) (R : Int) (hR : R = getP (stepPm c k sex) x) : Calls Try.prog 124 #[.agg #[u, v], .int .i64 k, .int .i64 sex, .int .i64 x] w (PostI w R) := by
  obtain ⟨hw, hq⟩ := h.two rfl
  obtain ⟨bo, n3, dap, rfl, hn3, hnc3, hcm3, hnone3⟩ := hw.shape
  obtain ⟨bo2, n4, dap2, rfl, hn4, hnc4, hcm4, hnone4⟩ := hq.shape
  subst hn3 hn4
  unfold maxLen at *
  obtain ⟨hl0, hl, hp1, hp2, ok1, ok2⟩ := cls_ok hc
  have hxI : (x : Int) < (c.1.length : Int) := by omega
  have hx2 : x < c.2.length := by omega
  have hxI2 : (x : Int) < (c.2.length : Int) := by omega
  have i2 : POk c.1.length (inv c.2) := POk.inv hl
  have i1 : POk c.1.length (inv c.1) := POk.inv rfl
  obtain ⟨f0, hf0⟩ : ∃ y, y = getP (inv c.2) (x : Int) := ⟨_, rfl⟩
  obtain ⟨m0, hm0⟩ : ∃ y, y = getP (inv c.1) (x : Int) := ⟨_, rfl⟩
  have hfr := getP_in i2.rng (x := (x : Int)) (by omega) (by rw [i2.len]; omega)
  have hmr := getP_in i1.rng (x := (x : Int)) (by omega) (by rw [i1.len]; omega)
  rw [← hf0] at hfr
  rw [← hm0] at hmr
  have HF0 := Lib.hid (show (inv c.2)[x]? = some f0 by rw [hf0]; have := getP_some (p := inv c.2) (x := (x : Int)) (by omega) (by rw [i2.len]; omega); rwa [Int.toNat_natCast] at this)
  have HM0 := Lib.hid (show (inv c.1)[x]? = some m0 by rw [hm0]; have := getP_some (p := inv c.1) (x := (x : Int)) (by omega) (by rw [i1.len]; omega); rwa [Int.toNat_natCast] at this)
  have HR := Lib.hid (show R = if k = 1 then f0 else if k = 2 then getP c.1 f0 else if k = 5 ∨ k = 6 then (if sex = 1 then getP c.2 x else getP c.2 m0) else if k = 7 then m0 else if k = 8 then getP c.1 x else x by
    rw [hR]; unfold stepPm
    split
    · exact hf0.symm
    split
    · rw [comp_getP (by omega) (by rw [i2.len]; omega), hf0]
    split
    · split
      · rfl
      · rw [comp_getP (by omega) (by rw [i1.len]; omega), hm0]
    split
    · exact hm0.symm
    split
    · rfl
    · exact idL_getP hx)
  have HI1 := Lib.hid i1.len
  have HI2 := Lib.hid i2.len
  have HP1 := Lib.hid hp1
  have HP2 := Lib.hid hp2
  have c8 : c.1.length ≤ 8 := hl0.2
  have c28 : c.2.length ≤ 8 := by omega
  obtain ⟨fn, rfl⟩ := Int.eq_ofNat_of_zero_le hfr.1
  obtain ⟨mn, rfl⟩ := Int.eq_ofNat_of_zero_le hmr.1
  have hf1 : fn < c.1.length := by omega
  have hm1 : mn < c.1.length := by omega
  have hm2 : mn < c.2.length := by omega
  have hf1I : (fn : Int) < (c.1.length : Int) := by omega
  have hm2I : (mn : Int) < (c.2.length : Int) := by omega
  clear hl0 hl hp1 hp2 ok1 ok2 hc hnone3 hnone4 h hR hf0 hm0 i1 i2 hfr hmr
  go_enter Try.func124, Try.ntmps124
  go_wp2_with fail
  refine (inversePermS_any _ _ _ (hq.below (by repeat' (first | (with_reducible exact Below.refl _ _) | (with_reducible assumption) | (with_reducible refine Below.alloc ?_ (by first | omega | (simp; omega) | simp) _) | (with_reducible refine Below.setCell ?_ (by first | omega | (simp; omega) | simp) _) | (with_reducible refine Below.drew ?_) | (with_reducible refine below_drewN ?_ _)))) (by omega)).mono ?_
  rintro e1 w1 ⟨ur, rfl, ho, hbw1⟩
  have hpw1 : Below w.heap.size w w1 := Below.after (by repeat' (first | (with_reducible exact Below.refl _ _) | (with_reducible assumption) | (with_reducible refine Below.alloc ?_ (by first | omega | (simp; omega) | simp) _) | (with_reducible refine Below.setCell ?_ (by first | omega | (simp; omega) | simp) _) | (with_reducible refine Below.drew ?_) | (with_reducible refine below_drewN ?_ _))) hbw1 (by first | omega | (simp only [World.size_alloc, World.size_setCell, World.size_drew] at *; omega) | (simp; omega) | simp)
  have sw1 := hpw1.size
  have hBw1 : Below w.heap.size w w1 := hpw1
  have l_c : w.heap.size < w1.heap.size := by have := hbw1.size; simp at this; omega
  have q_c0 : w1.cell? ⟨w.heap.size, 0, none⟩ = some (.slice bo c.1.length dap) := oldc hbw1 (by first | omega | (simp; omega) | (simp; done)) (by simp [go_sem])
  have q_c1 : w1.cell? ⟨w.heap.size, 1, none⟩ = some (.slice bo2 c.2.length dap2) := oldc hbw1 (by first | omega | (simp; omega) | (simp; done)) (by simp [go_sem])
  clear hbw1 hpw1
  rw [invP, if_pos HP2.out] at ho
  obtain ⟨r1, r2, r3, rfl, hr2, -, -, -⟩ := ho.rd.shape
  obtain rfl : r2 = c.1.length := by rw [← hr2]; exact HI2.out
  obtain ⟨rb, roff, y, rfl, hy, hcy, -, -, -, -, hrbl, -⟩ := ho.rd.int_at (i := x) hx
  obtain rfl : y = (fn : Int) := Option.some.inj (hy.out.symm.trans HF0.out)
  clear hy ho hr2 HF0
  go_wp2_with fail
  refine (inversePermS_any _ _ _ (hw.below (by repeat' (first | (with_reducible exact Below.refl _ _) | (with_reducible assumption) | (with_reducible refine Below.alloc ?_ (by first | omega | (simp; omega) | simp) _) | (with_reducible refine Below.setCell ?_ (by first | omega | (simp; omega) | simp) _) | (with_reducible refine Below.drew ?_) | (with_reducible refine below_drewN ?_ _)))) (by omega)).mono ?_
  rintro e2 w2 ⟨ur, rfl, ho, hbw2⟩
  have hpw2 : Below w1.heap.size w1 w2 := Below.after (by repeat' (first | (with_reducible exact Below.refl _ _) | (with_reducible assumption) | (with_reducible refine Below.alloc ?_ (by first | omega | (simp; omega) | simp) _) | (with_reducible refine Below.setCell ?_ (by first | omega | (simp; omega) | simp) _) | (with_reducible refine Below.drew ?_) | (with_reducible refine below_drewN ?_ _))) hbw2 (by first | omega | (simp only [World.size_alloc, World.size_setCell, World.size_drew] at *; omega) | (simp; omega) | simp)
  have sw2 := hpw2.size
  have hBw2 : Below w.heap.size w w2 := Below.trans hBw1 (Below.mono hpw2 hBw1.size)
  have q_c0 := oldc hpw2 l_c q_c0
  have q_c1 := oldc hpw2 l_c q_c1
  have l_c := Nat.lt_of_lt_of_le l_c sw2
  clear hbw2 hpw2
  rw [invP, if_pos HP1.out] at ho
  obtain ⟨r4, r5, r6, rfl, hr5, -, -, -⟩ := ho.rd.shape
  obtain rfl : r5 = c.1.length := by rw [← hr5]; exact HI1.out
  obtain ⟨rb2, roff2, y, rfl, hy, hcy2, -, -, -, -, hrbl2, -⟩ := ho.rd.int_at (i := x) hx
  obtain rfl : y = (mn : Int) := Option.some.inj (hy.out.symm.trans HM0.out)
  clear hy ho hr5 HM0 HI1 HI2 HP1 HP2
  obtain ⟨ab, aoff, a1, rfl, ha1, hca1, -, -, -, -, hab, -⟩ := (hw.below hBw2).int_at (i := x) hx
  obtain ⟨_, _, a2, ee, ha2, hca2, -, -, -, -, -, -⟩ := (hw.below hBw2).int_at (i := fn) hf1
  simp only [Option.some.injEq, Addr.mk.injEq, and_true] at ee
  obtain ⟨rfl, rfl⟩ := ee
  obtain ⟨bb, boff, b1, rfl, hb1, hcb1, -, -, -, -, hbb, -⟩ := (hq.below hBw2).int_at (i := x) hx2
  obtain ⟨_, _, b2, ee, hb2, hcb2, -, -, -, -, -, -⟩ := (hq.below hBw2).int_at (i := mn) hm2
  simp only [Option.some.injEq, Addr.mk.injEq, and_true] at ee
  obtain ⟨rfl, rfl⟩ := ee
  have HR2 := Lib.hid (show R = if k = 1 then (fn : Int) else if k = 2 then a2 else if k = 5 ∨ k = 6 then (if sex = 1 then b1 else b2) else if k = 7 then (mn : Int) else if k = 8 then a1 else x by
    rw [HR.out, getP_of ha1.out, getP_of ha2.out, getP_of hb1.out, getP_of hb2.out])
  clear HR ha1 ha2 hb1 hb2 hw hq
  obtain rfl | rfl | rfl | rfl | rfl | rfl | rfl | rfl : k = 1 ∨ k = 2 ∨ k = 3 ∨ k = 4 ∨ k = 5 ∨ k = 6 ∨ k = 7 ∨ k = 8 := by omega
  all_goals
    by_cases hs : sex = 1
    · subst hs
      have HF := Lib.hid HR2.out
      simp at HF
      clear HR2 hk
      go_wp2
      go_ret
      exact ⟨ret_int HF.out.symm, hBw2⟩
    · have ns : (sex == 1) = false := by simpa using hs
      have HF := Lib.hid HR2.out
      simp [hs] at HF
      clear HR2 hk
      go_wp2
      go_ret
      exact ⟨ret_int HF.out.symm, hBw2⟩
set_option maxRecDepth 20000 in
set_option maxHeartbeats 8000000 in
theorem l6TypeS_any {z z1 : Bool} {lo hi lo1 hi1 : Nat} (w : World) (u v a b : Value) (c : Cls) (t : Kin) (h : Rd z lo hi w [u, v] c) (h' : Rd z1 lo1 hi1 w [a, b] t) (hcls : isCls c = true) (hkin : isKin t = true) : Calls Try.prog 72 #[.agg #[u, v], .agg #[a, b]] w (PostOw w (typePm c t)) := by
  obtain ⟨hw, hq⟩ := h.two rfl
  obtain ⟨bo, n3, dap, rfl, hn3, hnc3, hcm3, hnone3⟩ := hw.shape
  obtain ⟨bo2, n4, dap2, rfl, hn4, hnc4, hcm4, hnone4⟩ := hq.shape
  subst hn3 hn4
  obtain ⟨rfl, hI, hb⟩ := h'.kin
  obtain ⟨ao, n, cap, rfl, hn, hnc, hcm, hnone⟩ := hb.shape
  subst hn
  unfold maxLen at *
  obtain ⟨X, hX⟩ : ∃ X, X = typePm c t := ⟨_, rfl⟩
  rw [← hX]
  have HX := Lib.hid (show X = (idL c.1.length).map fun x => atGo c (egoOf t) x t.2 by rw [hX]; exact typePm_at c t)
  have c8 : c.1.length ≤ 8 := (cls_ok hcls).1.2
  have hcls := Lib.hid hcls
  have hkf := isKin_facts hkin
  have HSt := Lib.hid hkf.2.2.2
  have t8 : t.2.length ≤ 8 := hkf.2.1
  have hcz := Lib.hid h
  have htz := Lib.hid h'
  have hbz := Lib.hid hb
  clear hX hnone hnone3 hnone4 hw hq h h' hb hkf hkin
  go_enter Try.func72, Try.ntmps72
  obtain ⟨W0, hW0⟩ : ∃ W0 : World, W0 = (w.alloc (.cells #[.slice bo c.1.length dap, .slice bo2 c.2.length dap2] 32)).alloc (.cells #[.int .i64 t.1, .slice ao t.2.length cap] 36) := ⟨_, rfl⟩
  have hB0 : Below w.heap.size w W0 := by subst hW0; exact (by repeat' (first | (with_reducible exact Below.refl _ _) | (with_reducible assumption) | (with_reducible refine Below.alloc ?_ (by first | omega | (simp; omega) | simp) _) | (with_reducible refine Below.setCell ?_ (by first | omega | (simp; omega) | simp) _) | (with_reducible refine Below.drew ?_) | (with_reducible refine below_drewN ?_ _)))
  have sz0 : W0.heap.size = w.heap.size + 2 := by subst hW0; simp
  have qa_c0 : W0.cell? ⟨w.heap.size, 0, none⟩ = some (.slice bo c.1.length dap) := by subst hW0; simp [go_sem]
  have qa_c1 : W0.cell? ⟨w.heap.size, 1, none⟩ = some (.slice bo2 c.2.length dap2) := by subst hW0; simp [go_sem]
  have qa_t0 : W0.cell? ⟨w.heap.size + 1, 0, none⟩ = some (.int .i64 t.1) := by subst hW0; simp [go_sem]
  have qa_t1 : W0.cell? ⟨w.heap.size + 1, 1, none⟩ = some (.slice ao t.2.length cap) := by subst hW0; simp [go_sem]
  go_wp2
  rw [← hW0]
  have HG0 := Lib.hid (show GL true W0.heap.size W0.heap.size (W0.alloc (.cells #[] 3)).heap.size (W0.alloc (.cells #[] 3)) 3 (.slice (some ⟨w.heap.size + 1 + 1, 0, none⟩) 0 0) ((idL 0).map fun x => atGo c (egoOf t) x t.2) by
    rw [show w.heap.size + 1 + 1 = W0.heap.size from sz0.symm]
    exact (GL.lit0 (α := Int) true W0.heap.size W0.heap.size W0 3 (Nat.le_refl _)).top)
  have lw0 : w.heap.size + 1 < W0.heap.size := by omega
  clear hW0 sz0
  go_loopw [5, 6, 7, 8, 10, 15] (fun s5 _ _ _ _ s15 wr => ∃ (x : Nat), x ≤ c.1.length ∧ s15 = .int .i64 x ∧ Hid (GL true W0.heap.size W0.heap.size wr.heap.size wr 3 s5 ((idL x).map fun x => atGo c (egoOf t) x t.2)) ∧ Below W0.heap.size W0 wr) (fun _ _ _ _ _ s15 _ => c.1.length - (intOf s15).toNat)
  case atStart => exact ⟨0, Nat.zero_le _, rfl, HG0, (by repeat' (first | (with_reducible exact Below.refl _ _) | (with_reducible assumption) | (with_reducible refine Below.alloc ?_ (by first | omega | (simp; omega) | simp) _) | (with_reducible refine Below.setCell ?_ (by first | omega | (simp; omega) | simp) _) | (with_reducible refine Below.drew ?_) | (with_reducible refine below_drewN ?_ _)))⟩
  case round =>
    clear HG0
    obtain ⟨wb, hwb⟩ : ∃ wm : World, wm = wr := ⟨_, rfl⟩
    subst hwb
    obtain ⟨x, hx1, rfl, hG, hbb⟩ := hrel
    have sR := hbb.size
    have hBb : Below w.heap.size w wb := hB0.trans (hbb.mono hB0.size)
    have q_c0 := oldc hbb (by omega) qa_c0
    have q_c1 := oldc hbb (by omega) qa_c1
    have q_t0 := oldc hbb (by omega) qa_t0
    have q_t1 := oldc hbb (by omega) qa_t1
    by_cases hlx : x < c.1.length
    · have hIx : (x : Int) < (c.1.length : Int) := by omega
      obtain ⟨eg, hlet_eg⟩ : ∃ r, r = egoOf t := ⟨_, rfl⟩
      have HG := Lib.hid hlet_eg
      clear hlet_eg
      go_wp2_with fail
      refine (egoS_any _ _ _ t (htz.out.below hBb) eg HG.out).mono ?_
      rintro e w1 ⟨rfl, hb1⟩
      have hbb1 : Below W0.heap.size W0 w1 := hbb.trans (hb1.mono sR)
      have hG1 := Lib.hid (hG.out.below hb1)
      have s1 := hb1.size
      have q_c0 := oldc hbb1 (by omega) qa_c0
      have q_c1 := oldc hbb1 (by omega) qa_c1
      have q_t1 := oldc hbb1 (by omega) qa_t1
      have HA := Lib.hid (show atGo c eg (x : Int) t.2 = atGo c eg (x : Int) (t.2.drop 0) from rfl)
      clear hb1 hG q_t0 hbb hBb
      go_wp2
      go_loopw [7, 8, 10, 24] (fun s7 s8 _ s24 wr => ∃ (j : Nat) (sx : Int) (y : Nat), j ≤ t.2.length ∧ s24 = .int .i64 j ∧ s7 = .int .i64 sx ∧ s8 = .int .i64 y ∧ y < c.1.length ∧ Hid (atGo c eg (x : Int) t.2 = atGo c sx (y : Int) (t.2.drop j)) ∧ Below w1.heap.size w1 wr) (fun _ _ _ s24 _ => t.2.length - (intOf s24).toNat)
      case atStart => exact ⟨0, eg, x, Nat.zero_le _, rfl, rfl, rfl, hlx, HA, Below.refl _ _⟩
      case round =>
        clear HA
        obtain ⟨wc, hwc⟩ : ∃ wm : World, wm = wr := ⟨_, rfl⟩
        subst hwc
        obtain ⟨j, sx, y, hj1, rfl, rfl, rfl, hy, HA, hcc⟩ := hrel
        have sC := hcc.size
        have hbc : Below W0.heap.size W0 wc := hbb1.trans (hcc.mono (by omega))
        have hBc : Below w.heap.size w wc := hB0.trans (hbc.mono hB0.size)
        have q_c0 := oldc hbc (by omega) qa_c0
        have q_c1 := oldc hbc (by omega) qa_c1
        by_cases hlj : j < t.2.length
        · have hIj : (j : Int) < (t.2.length : Int) := by omega
          obtain ⟨sb, soff, ki, ag, rfl, hs, c0, c1, -, -, -, -, sbl, -⟩ := (hbz.out.below hBc).stp_at hlj
          have hki := (HSt.out _ (List.mem_of_getElem? hs.out)).1
          dsimp only at hki
          have hok := stepPm_ok hcls.out ki sx
          obtain ⟨y2, hlet_y2⟩ : ∃ r, r = getP (stepPm c ki sx) (y : Int) := ⟨_, rfl⟩
          have HQ := Lib.hid hlet_y2
          clear hlet_y2
          have hy2 := getP_in hok.rng (x := (y : Int)) (by omega) (by rw [hok.len]; omega)
          rw [← HQ.out] at hy2
          have HN := Lib.hid (show atGo c eg (x : Int) t.2 = atGo c (stSex ki) y2 (t.2.drop (j + 1)) by rw [HA.out, drop_cons hs.out, atGo, HQ.out])
          obtain ⟨yn, rfl⟩ := Int.eq_ofNat_of_zero_le hy2.1
          have l_c : w.heap.size < wc.heap.size := by omega
          clear hok HA hs
          go_wp2_with fail
          refine (l6StepS_any _ _ _ c (hcz.out.below ?b1) hcls.out ki sx hki y hy (yn : Int) HQ.out).mono ?_
          case b1 => exact (by repeat' (first | (with_reducible exact Below.refl _ _) | (with_reducible assumption) | (with_reducible refine Below.alloc ?_ (by first | omega | (simp; omega) | simp) _) | (with_reducible refine Below.setCell ?_ (by first | omega | (simp; omega) | simp) _) | (with_reducible refine Below.drew ?_) | (with_reducible refine below_drewN ?_ _)))
          rintro e w3 ⟨rfl, hb3⟩
          have hc3 : Below w1.heap.size w1 w3 := Below.trans (show Below w1.heap.size w1 _ from (by repeat' (first | (with_reducible exact Below.refl _ _) | (with_reducible assumption) | (with_reducible refine Below.alloc ?_ (by first | omega | (simp; omega) | simp) _) | (with_reducible refine Below.setCell ?_ (by first | omega | (simp; omega) | simp) _) | (with_reducible refine Below.drew ?_) | (with_reducible refine below_drewN ?_ _)))) (hb3.mono (by first | omega | (simp only [World.size_alloc, World.size_setCell, World.size_drew] at *; omega) | (simp; omega) | simp))
          have qk : w3.cell? ⟨wc.heap.size, 0, none⟩ = some (.int .i64 ki) := oldc hb3 (by first | omega | (simp; omega) | (simp; done)) (by simp [go_sem])
          clear hb3 HQ c0 c1
          go_wp2_with fail
          refine (stepSexS_any _ ki hki).mono ?_
          rintro e w4 ⟨rfl, hb4⟩
          have hc4 : Below w1.heap.size w1 w4 := hc3.trans (hb4.mono hc3.size)
          clear hb4 hc3
          go_wp2
          go_roundw
          case rel => exact ⟨j + 1, _, yn, by omega, by go_num, rfl, rfl, by omega, HN, hc4⟩
          case measure => simp [intOf]; omega
        · have nIj : ¬ (j : Int) < (t.2.length : Int) := by omega
          have HE := Lib.hid (show atGo c (egoOf t) (x : Int) t.2 = (y : Int) by rw [← HG.out, HA.out, List.drop_eq_nil_of_le (by omega)]; rfl)
          have hG2 := Lib.hid (hG1.out.below hcc)
          have sG : W0.heap.size ≤ wc.heap.size := hbc.size
          have hll : ((idL x).map fun x => atGo c (egoOf t) x t.2).length ≤ 8 := by rw [List.length_map, idL_len]; omega
          clear HA HG hG1
          go_wp2_with (at_builtin; refine wpList_push rfl rfl slInt (by show (0 : Nat) < 1; omega) (hG2.out.alloc _) rfl (ad := ⟨wc.heap.size, 0, none⟩) rfl (cs := [.int .i64 y]) (y := (y : Int)) (lx := wc.heap.size) (hx' := wc.heap.size) ?k1 (It.flat (z := true) (w0 := wc) (fp := []) ⟨rfl, ⟨by omega, by omega⟩, rfl⟩) sG (.inl (by omega)) (by unfold maxLen; omega) (by omega) ?k2 ?_)
          case k2 => first | omega | (simp; omega) | assumption
          intro v' w5 hG5 _ hb5
          have HG5 := Lib.hid (show GL true W0.heap.size W0.heap.size w5.heap.size w5 3 v' ((idL (x + 1)).map fun x => atGo c (egoOf t) x t.2) by rw [idL_succ, List.map_append, List.map_cons, List.map_nil, HE.out]; exact hG5)
          have hbb5 : Below W0.heap.size W0 w5 := Below.trans (hbc.alloc sG _) hb5
          clear hG5 hb5 hG2
          go_wp2
          go_roundw
          case rel => exact ⟨x + 1, by omega, by go_num, HG5, hbb5⟩
          case measure => simp [intOf]; omega
    · obtain rfl : x = c.1.length := by omega
      have nIx : ¬ (c.1.length : Int) < (c.1.length : Int) := by omega
      have HW := Lib.hid (hG.out.ow (l0 := w.heap.size) (by omega) (by omega))
      clear hG
      go_wp2
      go_ret
      exact ⟨_, rfl, by rw [HX.out]; exact HW.out, hBb⟩
set_option maxRecDepth 20000 in
set_option maxHeartbeats 8000000 in
theorem typePmS_any {z z1 : Bool} {lo hi lo1 hi1 : Nat} (w : World) (u v a b : Value) (c : Cls) (t : Kin) (h : Rd z lo hi w [u, v] c) (h' : Rd z1 lo1 hi1 w [a, b] t) (hl1 : c.1.length ≤ 1048576) (V : Bool) (hV : V = tpV c t) : Calls Try.prog 17 #[.agg #[u, v], .agg #[a, b]] w (PostOwB w (tpX c t) V) := by
  obtain ⟨X, hX⟩ : ∃ X, X = tpX c t := ⟨_, rfl⟩
  rw [← hX]
  obtain ⟨hw, hq⟩ := h.two rfl
  obtain ⟨bo, n3, dap, rfl, hn3, hnc3, hcm3, hnone3⟩ := hw.shape
  obtain ⟨bo2, n4, dap2, rfl, hn4, hnc4, hcm4, hnone4⟩ := hq.shape
  subst hn3 hn4
  obtain ⟨rfl, hI, hb⟩ := h'.kin
  obtain ⟨ao, n, cap, rfl, hn, hnc, hcm, hnone⟩ := hb.shape
  subst hn
  unfold maxLen at *
  obtain ⟨r1, hlet_r1⟩ : ∃ r, r = isCls c := ⟨_, rfl⟩
  have H1 := Lib.hid hlet_r1
  clear hlet_r1
  obtain ⟨r2, hlet_r2⟩ : ∃ r, r = isKin t := ⟨_, rfl⟩
  have H2 := Lib.hid hlet_r2
  clear hlet_r2
  have HV := Lib.hid (show V = (r1 && (r2 && !decide (0 < t.2.length ∧ egoOf t = 0))) by rw [hV, H1.out, H2.out]; rfl)
  have HX := Lib.hid (show X = if V = true then typePm c t else [] by rw [hX, hV]; rfl)
  clear hV hX hnone hnone3 hnone4 hw hq hb
  go_enter Try.func17, Try.ntmps17
  go_wp2_with fail
  refine (isClsS_b _ _ _ c (h.below (by repeat' (first | (with_reducible exact Below.refl _ _) | (with_reducible assumption) | (with_reducible refine Below.alloc ?_ (by first | omega | (simp; omega) | simp) _) | (with_reducible refine Below.setCell ?_ (by first | omega | (simp; omega) | simp) _) | (with_reducible refine Below.drew ?_) | (with_reducible refine below_drewN ?_ _)))) hl1 r1 H1.out).mono ?_
  rintro e3 w3 ⟨rfl, hbw3⟩
  have hpw3 : Below w.heap.size w w3 := Below.after (by repeat' (first | (with_reducible exact Below.refl _ _) | (with_reducible assumption) | (with_reducible refine Below.alloc ?_ (by first | omega | (simp; omega) | simp) _) | (with_reducible refine Below.setCell ?_ (by first | omega | (simp; omega) | simp) _) | (with_reducible refine Below.drew ?_) | (with_reducible refine below_drewN ?_ _))) hbw3 (by first | omega | (simp only [World.size_alloc, World.size_setCell, World.size_drew] at *; omega) | (simp; omega) | simp)
  have sw3 := hpw3.size
  have hBw3 : Below w.heap.size w w3 := hpw3
  have l_c : w.heap.size < w3.heap.size := by have := hbw3.size; simp at this; omega
  have q_c0 : w3.cell? ⟨w.heap.size, 0, none⟩ = some (.slice bo c.1.length dap) := oldc hbw3 (by first | omega | (simp; omega) | (simp; done)) (by simp [go_sem])
  have q_c1 : w3.cell? ⟨w.heap.size, 1, none⟩ = some (.slice bo2 c.2.length dap2) := oldc hbw3 (by first | omega | (simp; omega) | (simp; done)) (by simp [go_sem])
  have l_t : w.heap.size + 1 < w3.heap.size := by have := hbw3.size; simp at this; omega
  have q_t0 : w3.cell? ⟨w.heap.size + 1, 0, none⟩ = some (.int .i64 t.1) := oldc hbw3 (by first | omega | (simp; omega) | (simp; done)) (by simp [go_sem])
  have q_t1 : w3.cell? ⟨w.heap.size + 1, 1, none⟩ = some (.slice ao t.2.length cap) := oldc hbw3 (by first | omega | (simp; omega) | (simp; done)) (by simp [go_sem])
  clear hbw3 hpw3
  cases r1
  · obtain rfl : V = false := by rw [HV.out]; rfl
    obtain rfl : X = [] := by rw [HX.out]; rfl
    clear h h' HV HX H1 H2
    go_wp2
    exact bodyPost_ret (v := .tuple #[.slice none 0 0, .bool false]) (by simp [results, go_sem]) rfl ⟨_, rfl, Ow.nil _ _ _, (by repeat' (first | (with_reducible exact Below.refl _ _) | (with_reducible assumption) | (with_reducible refine Below.alloc ?_ (by first | omega | (simp; omega) | simp) _) | (with_reducible refine Below.setCell ?_ (by first | omega | (simp; omega) | simp) _) | (with_reducible refine Below.drew ?_) | (with_reducible refine below_drewN ?_ _)))⟩
  go_wp2_with fail
  refine (isTypeS_b _ _ _ t (h'.below (by repeat' (first | (with_reducible exact Below.refl _ _) | (with_reducible assumption) | (with_reducible refine Below.alloc ?_ (by first | omega | (simp; omega) | simp) _) | (with_reducible refine Below.setCell ?_ (by first | omega | (simp; omega) | simp) _) | (with_reducible refine Below.drew ?_) | (with_reducible refine below_drewN ?_ _)))) r2 H2.out).mono ?_
  rintro e4 w4 ⟨rfl, hbw4⟩
  have hpw4 : Below w3.heap.size w3 w4 := Below.after (by repeat' (first | (with_reducible exact Below.refl _ _) | (with_reducible assumption) | (with_reducible refine Below.alloc ?_ (by first | omega | (simp; omega) | simp) _) | (with_reducible refine Below.setCell ?_ (by first | omega | (simp; omega) | simp) _) | (with_reducible refine Below.drew ?_) | (with_reducible refine below_drewN ?_ _))) hbw4 (by first | omega | (simp only [World.size_alloc, World.size_setCell, World.size_drew] at *; omega) | (simp; omega) | simp)
  have sw4 := hpw4.size
  have hBw4 : Below w.heap.size w w4 := Below.trans hBw3 (Below.mono hpw4 hBw3.size)
  have q_c0 := oldc hpw4 l_c q_c0
  have q_c1 := oldc hpw4 l_c q_c1
  have q_t0 := oldc hpw4 l_t q_t0
  have q_t1 := oldc hpw4 l_t q_t1
  have l_c := Nat.lt_of_lt_of_le l_c sw4
  have l_t := Nat.lt_of_lt_of_le l_t sw4
  clear hbw4 hpw4
  cases r2
  · obtain rfl : V = false := by rw [HV.out]; rfl
    obtain rfl : X = [] := by rw [HX.out]; rfl
    clear h h' HV HX H1 H2
    go_wp2
    exact bodyPost_ret (v := .tuple #[.slice none 0 0, .bool false]) (by simp [results, go_sem]) rfl ⟨_, rfl, Ow.nil _ _ _, (by repeat' (first | (with_reducible exact Below.refl _ _) | (with_reducible assumption) | (with_reducible refine Below.alloc ?_ (by first | omega | (simp; omega) | simp) _) | (with_reducible refine Below.setCell ?_ (by first | omega | (simp; omega) | simp) _) | (with_reducible refine Below.drew ?_) | (with_reducible refine below_drewN ?_ _)))⟩
  have hcls := Lib.hid H1.out.symm
  have hkin := Lib.hid H2.out.symm
  clear H1 H2
  have hdd := Lib.hid (show V = !decide (0 < t.2.length ∧ egoOf t = 0) by rw [HV.out]; rfl)
  by_cases hpos : 0 < t.2.length
  · have hposI : (0 : Int) < (t.2.length : Int) := by omega
    obtain ⟨eg, hlet_eg⟩ : ∃ r, r = egoOf t := ⟨_, rfl⟩
    have HG := Lib.hid hlet_eg
    clear hlet_eg
    go_wp2_with fail
    refine (egoS_any _ _ _ t (h'.below (by repeat' (first | (with_reducible exact Below.refl _ _) | (with_reducible assumption) | (with_reducible refine Below.alloc ?_ (by first | omega | (simp; omega) | simp) _) | (with_reducible refine Below.setCell ?_ (by first | omega | (simp; omega) | simp) _) | (with_reducible refine Below.drew ?_) | (with_reducible refine below_drewN ?_ _)))) eg HG.out).mono ?_
    rintro e5 w5 ⟨rfl, hbw5⟩
    have hpw5 : Below w4.heap.size w4 w5 := Below.after (by repeat' (first | (with_reducible exact Below.refl _ _) | (with_reducible assumption) | (with_reducible refine Below.alloc ?_ (by first | omega | (simp; omega) | simp) _) | (with_reducible refine Below.setCell ?_ (by first | omega | (simp; omega) | simp) _) | (with_reducible refine Below.drew ?_) | (with_reducible refine below_drewN ?_ _))) hbw5 (by first | omega | (simp only [World.size_alloc, World.size_setCell, World.size_drew] at *; omega) | (simp; omega) | simp)
    have sw5 := hpw5.size
    have hBw5 : Below w.heap.size w w5 := Below.trans hBw4 (Below.mono hpw5 hBw4.size)
    have q_c0 := oldc hpw5 l_c q_c0
    have q_c1 := oldc hpw5 l_c q_c1
    have q_t0 := oldc hpw5 l_t q_t0
    have q_t1 := oldc hpw5 l_t q_t1
    have l_c := Nat.lt_of_lt_of_le l_c sw5
    have l_t := Nat.lt_of_lt_of_le l_t sw5
    clear hbw5 hpw5
    by_cases he : eg = 0
    · have HVF := Lib.hid (show V = false by rw [hdd.out, ← HG.out, he]; simp [hpos])
      obtain rfl : V = false := HVF.out
      obtain rfl : X = [] := by rw [HX.out]; rfl
      subst he
      clear h h' HV HX HG hdd
      go_wp2
      exact bodyPost_ret (v := .tuple #[.slice none 0 0, .bool false]) (by simp [results, go_sem]) rfl ⟨_, rfl, Ow.nil _ _ _, (by repeat' (first | (with_reducible exact Below.refl _ _) | (with_reducible assumption) | (with_reducible refine Below.alloc ?_ (by first | omega | (simp; omega) | simp) _) | (with_reducible refine Below.setCell ?_ (by first | omega | (simp; omega) | simp) _) | (with_reducible refine Below.drew ?_) | (with_reducible refine below_drewN ?_ _)))⟩
    · have HVT := Lib.hid (show V = true by rw [hdd.out, ← HG.out]; simp [he])
      have neg : (eg == 0) = false := by simpa using he
      clear HG hdd
      have HF := Lib.hid (show X = typePm c t by rw [HX.out, HVT.out]; rfl)
      obtain rfl : V = true := HVT.out
      clear HX HV HVT
      go_wp2_with fail
      refine (l6TypeS_any _ _ _ _ _ c t (h.below (by repeat' (first | (with_reducible exact Below.refl _ _) | (with_reducible assumption) | (with_reducible refine Below.alloc ?_ (by first | omega | (simp; omega) | simp) _) | (with_reducible refine Below.setCell ?_ (by first | omega | (simp; omega) | simp) _) | (with_reducible refine Below.drew ?_) | (with_reducible refine below_drewN ?_ _)))) (h'.below (by repeat' (first | (with_reducible exact Below.refl _ _) | (with_reducible assumption) | (with_reducible refine Below.alloc ?_ (by first | omega | (simp; omega) | simp) _) | (with_reducible refine Below.setCell ?_ (by first | omega | (simp; omega) | simp) _) | (with_reducible refine Below.drew ?_) | (with_reducible refine below_drewN ?_ _)))) hcls.out hkin.out).mono ?_
      rintro e6 w6 ⟨ur, rfl, ho, hbw6⟩
      have hpw6 : Below w5.heap.size w5 w6 := Below.after (by repeat' (first | (with_reducible exact Below.refl _ _) | (with_reducible assumption) | (with_reducible refine Below.alloc ?_ (by first | omega | (simp; omega) | simp) _) | (with_reducible refine Below.setCell ?_ (by first | omega | (simp; omega) | simp) _) | (with_reducible refine Below.drew ?_) | (with_reducible refine below_drewN ?_ _))) hbw6 (by first | omega | (simp only [World.size_alloc, World.size_setCell, World.size_drew] at *; omega) | (simp; omega) | simp)
      have sw6 := hpw6.size
      have hBw6 : Below w.heap.size w w6 := Below.trans hBw5 (Below.mono hpw6 hBw5.size)
      have q_c0 := oldc hpw6 l_c q_c0
      have q_c1 := oldc hpw6 l_c q_c1
      have q_t0 := oldc hpw6 l_t q_t0
      have q_t1 := oldc hpw6 l_t q_t1
      have l_c := Nat.lt_of_lt_of_le l_c sw6
      have l_t := Nat.lt_of_lt_of_le l_t sw6
      clear hbw6 hpw6
      obtain ⟨r1, r2, r3, rfl, -⟩ := ho.rd.shape
      have HO := Lib.hid (ho.mono (show w.heap.size ≤ _ from by omega) (Nat.le_refl _))
      clear ho
      go_wp2
      exact bodyPost_ret (v := .tuple #[.slice r1 r2 r3, .bool true]) (by simp [results, go_sem]) rfl ⟨_, rfl, by rw [HF.out]; exact HO.out, hBw6⟩
  · have nposI : ¬ (0 : Int) < (t.2.length : Int) := by omega
    have HVT := Lib.hid (show V = true by rw [hdd.out]; simp [hpos])
    clear hdd
    have HF := Lib.hid (show X = typePm c t by rw [HX.out, HVT.out]; rfl)
    obtain rfl : V = true := HVT.out
    clear HX HV HVT
    go_wp2_with fail
    refine (l6TypeS_any _ _ _ _ _ c t (h.below (by repeat' (first | (with_reducible exact Below.refl _ _) | (with_reducible assumption) | (with_reducible refine Below.alloc ?_ (by first | omega | (simp; omega) | simp) _) | (with_reducible refine Below.setCell ?_ (by first | omega | (simp; omega) | simp) _) | (with_reducible refine Below.drew ?_) | (with_reducible refine below_drewN ?_ _)))) (h'.below (by repeat' (first | (with_reducible exact Below.refl _ _) | (with_reducible assumption) | (with_reducible refine Below.alloc ?_ (by first | omega | (simp; omega) | simp) _) | (with_reducible refine Below.setCell ?_ (by first | omega | (simp; omega) | simp) _) | (with_reducible refine Below.drew ?_) | (with_reducible refine below_drewN ?_ _)))) hcls.out hkin.out).mono ?_
    rintro e7 w7 ⟨ur, rfl, ho, hbw7⟩
    have hpw7 : Below w4.heap.size w4 w7 := Below.after (by repeat' (first | (with_reducible exact Below.refl _ _) | (with_reducible assumption) | (with_reducible refine Below.alloc ?_ (by first | omega | (simp; omega) | simp) _) | (with_reducible refine Below.setCell ?_ (by first | omega | (simp; omega) | simp) _) | (with_reducible refine Below.drew ?_) | (with_reducible refine below_drewN ?_ _))) hbw7 (by first | omega | (simp only [World.size_alloc, World.size_setCell, World.size_drew] at *; omega) | (simp; omega) | simp)
    have sw7 := hpw7.size
    have hBw7 : Below w.heap.size w w7 := Below.trans hBw4 (Below.mono hpw7 hBw4.size)
    have q_c0 := oldc hpw7 l_c q_c0
    have q_c1 := oldc hpw7 l_c q_c1
    have q_t0 := oldc hpw7 l_t q_t0
    have q_t1 := oldc hpw7 l_t q_t1
    have l_c := Nat.lt_of_lt_of_le l_c sw7
    have l_t := Nat.lt_of_lt_of_le l_t sw7
    clear hbw7 hpw7
    obtain ⟨r1, r2, r3, rfl, -⟩ := ho.rd.shape
    have HO := Lib.hid (ho.mono (show w.heap.size ≤ _ from by omega) (Nat.le_refl _))
    clear ho
    go_wp2
    exact bodyPost_ret (v := .tuple #[.slice r1 r2 r3, .bool true]) (by simp [results, go_sem]) rfl ⟨_, rfl, by rw [HF.out]; exact HO.out, hBw7⟩
end Go.Proofs.Ytdjnogcljmaapaa
