/- The walk of the law FnConfluent. -/
import Derived.Test.YtoipdgoejichbaaNfuM
import Derived.Test.YtoipdgoejichbaaDrwR2
import Derived.Test.YtoipdgoejichbaaBytes
import Derived.Test.YtoipdgoejichbaaFmtS
namespace Go.Proofs.Ytoipdgoejichbaa
set_option linter.unusedVariables false
set_option linter.unusedSimpArgs false
open Go.RowKit

theorem pool_ter1 : (typesX 1 2).all (ter 3 poolL) = true := by decide +kernel
theorem pool_ter2 : (typesX 2 2).all (ter 3 poolL) = true := by decide +kernel
theorem types_ne1 : (typesX 1 2).isEmpty = false := by decide +kernel
theorem types_ne2 : (typesX 2 2).isEmpty = false := by decide +kernel
theorem good_pool {r : Rul} (h : goodB r = true) : r ∈ poolL := by
  simp only [goodB, Bool.and_eq_true, decide_eq_true_eq] at h
  exact h.2.2
theorem law_ter {rs : List Rul} (h : ∀ r ∈ rs, goodB r = true) {e : Int} (he : e = 1 ∨ e = 2) {t : Kin} (ht : t ∈ typesX e 2) : ter 3 rs t = true := by
  refine ter_sub (P := poolL) (fun r hr => good_pool (h r hr)) ?_
  rcases he with rfl | rfl
  · exact List.all_eq_true.1 pool_ter1 t ht
  · exact List.all_eq_true.1 pool_ter2 t ht
theorem law_ne {e : Int} (he : e = 1 ∨ e = 2) : 0 < (typesX e 2).length := by
  rcases he with rfl | rfl
  · exact List.length_pos_iff.2 (fun h => by have := types_ne1; rw [h] at this; cases this)
  · exact List.length_pos_iff.2 (fun h => by have := types_ne2; rw [h] at this; cases this)
theorem law_conf {rs : List Rul} (h : confX rs 2 = true) {e : Int} (he : e = 1 ∨ e = 2) {t : Kin} (ht : t ∈ typesX e 2) : conf1 rs t = true := by
  unfold confX at h
  simp only [Bool.and_eq_true] at h
  rcases he with rfl | rfl
  · exact List.all_eq_true.1 h.2.2.1 t ht
  · exact List.all_eq_true.1 h.2.2.2 t ht
theorem twoc0 {w : World} {b : Nat} {c u u2 : Value} (h : w.cell? ⟨b, 0, none⟩ = some c) : ((w.setCell ⟨b, 0, none⟩ u).setCell ⟨b, 1, none⟩ u2).cell? ⟨b, 0, none⟩ = some u := by
  have h1 := cell_setCell w b 0 0 u c h
  have h2 := cell_setCell (w.setCell ⟨b, 0, none⟩ u) b 1 0 u2 _ h1
  simpa using h2
theorem twoc1 {w : World} {b : Nat} {c u u2 : Value} (h : w.cell? ⟨b, 1, none⟩ = some c) : ((w.setCell ⟨b, 0, none⟩ u).setCell ⟨b, 1, none⟩ u2).cell? ⟨b, 1, none⟩ = some u2 := by
  have h1 := cell_setCell w b 0 1 u c h
  have h2 := cell_setCell (w.setCell ⟨b, 0, none⟩ u) b 1 1 u2 _ h1
  simpa using h2
set_option maxRecDepth 20000 in
set_option maxHeartbeats 40000000 in
theorem walk_FnConfluent (w : World) (c0a : Value) (code : List UInt8) (h0 : Rd false 0 w.heap.size w [c0a] code) :
    Calls Try.prog 4 #[c0a] w (PostB w true) := by
  obtain ⟨ao0, len0, cap0, hcs0, hln0, hcn0, hcm0, -⟩ := h0.shape
  subst hcs0
  subst hln0
  unfold maxLen at hcm0
  have hle0 : code.length ≤ 9223372036854775807 := by omega
  clear hcm0 hcn0
  by_cases hg0 : 1048576 < code.length
  · go_enter Try.func4, Try.ntmps4
    go_wp2
    go_ret
    exact ⟨rfl, bwT⟩
  have hq1 : code.length ≤ 1048576 := by omega
  have HC0 := Lib.hid h0
  clear h0 hg0
  go_enter Try.func4, Try.ntmps4
  go_wp2_with fail
  refine (makeRules_any _ _ code HC0.out hq1).mono ?_
  rintro e1 w1 ⟨rv, rs, rfl, hor, hgd, hb1⟩
  obtain ⟨rao, rn, rcap, rfl, hrn, -⟩ := hor.rd.shape
  have HGD := Lib.hid hgd.out.1
  have HAR := Lib.hid hgd.out.2.2
  have HRF := Lib.hid (areRules_facts hgd.out.2.2)
  have HR1 := Lib.hid hor.rd
  have hB1 : Below w.heap.size w w1 := hb1
  have s1 := hB1.size
  obtain ⟨c, hc⟩ : ∃ c, c = confX rs 2 := ⟨_, rfl⟩
  have HC := Lib.hid hc
  have hcc : (c != c) = false := by simp
  clear hor hgd hb1 hc
  go_wp2_with fail
  refine (confI_b _ _ rs 2 HR1.out c HC.out).mono ?_
  rintro e2 w2 ⟨rfl, hb2⟩
  have hp2 : Below w1.heap.size w1 w2 := hb2
  have s2 := hp2.size
  clear hb2
  go_wp2_with fail
  refine (confS_b _ _ rs 2 (HR1.out.below hp2) c HC.out).mono ?_
  rintro e3 w3 ⟨rfl, hb3⟩
  have hp3 : Below w1.heap.size w1 w3 := hp2.trans (hb3.mono s2)
  have s3 := hp3.size
  clear hb3 hp2 s2
  go_wp2_with fail
  refine (at_any _ _ code (HC0.out.below (hB1.trans (hp3.mono s1))) hq1 1 (by omega) (by omega)).mono ?_
  rintro e4 w4 ⟨x, rfl, hx, hb4⟩
  have u4 : x.tmod 2 = x % 2 := Int.tmod_eq_emod_of_nonneg hx.1
  have hp4 : Below w1.heap.size w1 w4 := hp3.trans (hb4.mono s3)
  have s4 := hp4.size
  obtain ⟨E, hE⟩ : ∃ E : Int, E = 1 + x % 2 := ⟨_, rfl⟩
  have hE2 : E = 1 ∨ E = 2 := by omega
  have hEw : IntKind.i64.wrap (1 + x % 2) = E := by rw [hE]; exact IntWalk.i64_in _ (by omega)
  clear hb4 hp3 s3 hE
  go_wp2_with fail
  refine (typesFromI_any _ E 2).mono ?_
  obtain ⟨T, hT⟩ : ∃ T, T = typesX E 2 := ⟨_, rfl⟩
  rw [← hT]
  rintro e5 w5 ⟨u5, rfl, ho5, hb5⟩
  obtain ⟨a5, n5, cap5, rfl, hn5, -⟩ := ho5.rd.shape
  subst hn5
  have hTp : 0 < T.length := by rw [hT]; exact law_ne hE2
  have hTl : T.length ≤ 600 := by rw [hT]; exact typesX_len E 2
  have HT := Lib.hid hT
  have HO5 := Lib.hid ho5.rd
  have hp5 : Below w1.heap.size w1 w5 := hp4.trans (hb5.mono s4)
  have s5 := hp5.size
  have hTI : ¬ (T.length : Int) = 0 := by omega
  clear ho5 hb5 hp4 s4 hT hEw
  cases c
  · go_wp2
    go_ret
    exact ⟨rfl, hB1.trans (hp5.mono s1)⟩
  go_wp2_with fail
  refine (at_any _ _ code (HC0.out.below (hB1.trans (hp5.mono s1))) hq1 2 (by omega) (by omega)).mono ?_
  rintro e6 w6 ⟨x2, rfl, hx2, hb6⟩
  have hp56 : Below w5.heap.size w5 w6 := hb6
  have hp6 : Below w1.heap.size w1 w6 := hp5.trans (hb6.mono s5)
  have s6 := hp6.size
  have s56 := hp56.size
  obtain ⟨j, hj⟩ : ∃ j : Nat, x2 % (T.length : Int) = j := Int.eq_ofNat_of_zero_le (Int.emod_nonneg _ hTI)
  have hjl : j < T.length := by have := Int.emod_lt_of_pos x2 (show 0 < (T.length : Int) by omega); omega
  have u6 : x2.tmod (T.length : Int) = (j : Int) := by rw [Int.tmod_eq_emod_of_nonneg hx2.1]; exact hj
  have hjI : (j : Int) < (T.length : Int) := by omega
  clear hb6 hj
  obtain ⟨bt, offt, ⟨te, tl⟩, vt, rfl, hxt, k0, k1, -, hrv, hrt, -, -, hbt⟩ := HO5.out.kin_at hjl
  dsimp only at k0 hrv hrt
  obtain ⟨ta, tn, tcap, rfl, -⟩ := hrv.shape
  have k0 := oldc hp56 hbt k0
  have k1 := oldc hp56 hbt k1
  have HTM := Lib.hid (show (te, tl) ∈ typesX E 2 by rw [← HT.out]; exact List.mem_of_getElem? hxt.out)
  have HKT := Lib.hid (typesX_kin HTM.out).1
  have HRT := Lib.hid (hrt.below hp56)
  obtain ⟨B, hBd⟩ : ∃ B, B = w6.heap.size := ⟨_, rfl⟩
  obtain ⟨WA, hWA⟩ : ∃ W : World, W = w6.alloc (.cells #[.int .i64 te, .slice ta tn tcap] 36) := ⟨_, rfl⟩
  have hbA : Below w6.heap.size w6 WA := by rw [hWA]; exact (Below.refl _ _).alloc (Nat.le_refl _) _
  have x0 : WA.cell? ⟨B, 0, none⟩ = some (.int .i64 te) := by rw [hWA, hBd]; simp [go_sem]
  have x1 : WA.cell? ⟨B, 1, none⟩ = some (.slice ta tn tcap) := by rw [hWA, hBd]; simp [go_sem]
  have fx : ∀ o, WA.frozen? ⟨B, o, none⟩ = false := fun o => by rw [hWA, hBd]; simp [go_sem]
  have lA : B < WA.heap.size := by rw [hWA, hBd]; simp
  have h1B : w1.heap.size ≤ B := by rw [hBd]; exact s6
  have hpA : Below w1.heap.size w1 WA := hp6.trans (hbA.mono s6)
  have sA := hpA.size
  have HTA := Lib.hid ((HRT.out.rds (S := fun b => b ≠ B) (fun b _ h => by omega)).below hbA)
  clear hxt hrv hrt HRT
  go_upto_region 11 with fail
  rw [← hWA, ← hBd]
  clear hWA hBd k0 k1
  obtain ⟨X, hX⟩ : ∃ X, X = nf rs (te, tl) := ⟨_, rfl⟩
  have HX := Lib.hid hX
  clear hX
  go_wp2_with fail
  refine (normalFormI_k _ _ _ _ rs (te, tl) (HR1.out.below hpA) HTA.out.rd HAR.out HKT.out).mono ?_
  rw [← HX.out]
  rintro e7 w7 ⟨na, nb, rfl, ho7, hb7⟩
  obtain ⟨rfl, -, hnv⟩ := ho7.rd.kin
  obtain ⟨nao, nn, ncap, rfl, hnn, -⟩ := hnv.shape
  have hpA7 : Below WA.heap.size WA w7 := hb7
  have s7 := hpA7.size
  have HW7 := Lib.hid (ho7.rd.rds (S := fun b => b ≠ B) (fun b h _ => by omega))
  obtain ⟨C, hCd⟩ : ∃ C, C = w7.heap.size := ⟨_, rfl⟩
  obtain ⟨WB, hWB⟩ : ∃ W : World, W = w7.alloc (.cells #[.int .i64 X.1, .slice nao nn ncap] 36) := ⟨_, rfl⟩
  have hb7B : Below w7.heap.size w7 WB := by rw [hWB]; exact (Below.refl _ _).alloc (Nat.le_refl _) _
  have hpB : Below WA.heap.size WA WB := hpA7.trans (hb7B.mono s7)
  have y0 : WB.cell? ⟨C, 0, none⟩ = some (.int .i64 X.1) := by rw [hWB, hCd]; simp [go_sem]
  have y1 : WB.cell? ⟨C, 1, none⟩ = some (.slice nao nn ncap) := by rw [hWB, hCd]; simp [go_sem]
  have lC : C < WB.heap.size := by rw [hWB, hCd]; simp
  have hCB : B < C := by omega
  have x0 := oldc hpB lA x0
  have x1 := oldc hpB lA x1
  have fx : ∀ o, WB.frozen? ⟨B, o, none⟩ = false := fun o => (hpB.frozen (p := ⟨B, o, none⟩) lA).trans (fx o)
  have sB := hpB.size
  have HTB := Lib.hid (HTA.out.below hpB)
  have HWB := Lib.hid (HW7.out.below hb7B)
  have hp1B : Below w1.heap.size w1 WB := hpA.trans (hpB.mono sA)
  have lB : B < WB.heap.size := by omega
  clear hb7 ho7 hnv HTA HW7
  go_upto_region 12 with fail
  rw [← hWB, ← hCd]
  clear hWB hCd hb7B hpA7 hpB hbA
  go_wp2
  go_loopw [2, 8, 9] (fun _ s8 _ wi => ∃ (i k : Nat) (ue : Int) (ul : List Stp) (ua : Option Addr) (un ucap : Nat), i + k = 3 ∧ s8 = .int .i64 i ∧ Hid (Rch rs (te, tl) (ue, ul)) ∧ Hid (ter k rs (ue, ul) = true) ∧ Hid (RdS (fun b => b ≠ B) wi [.int .i64 ue, .slice ua un ucap] (ue, ul)) ∧ Hid (RdS (fun b => b ≠ B) wi [.int .i64 X.1, .slice nao nn ncap] X) ∧ Below w1.heap.size w1 wi ∧ C < wi.heap.size ∧ wi.cell? ⟨B, 0, none⟩ = some (.int .i64 ue) ∧ wi.cell? ⟨B, 1, none⟩ = some (.slice ua un ucap) ∧ (∀ o, wi.frozen? ⟨B, o, none⟩ = false) ∧ wi.cell? ⟨C, 0, none⟩ = some (.int .i64 X.1) ∧ wi.cell? ⟨C, 1, none⟩ = some (.slice nao nn ncap)) (fun _ s8 _ _ => 3 - (intOf s8).toNat)
  case atStart => exact ⟨0, 3, te, tl, ta, tn, tcap, rfl, rfl, Lib.hid (.refl _), Lib.hid (law_ter HGD.out hE2 HTM.out), HTB, HWB, hp1B, lC, x0, x1, fx, y0, y1⟩
  case round =>
    clear HTB HWB hp1B lC x0 x1 fx y0 y1
    obtain ⟨wi, hwi⟩ : ∃ x : World, x = wr := ⟨_, rfl⟩
    subst hwi
    obtain ⟨i, k, ue, ul, ua, un, ucap, hik, rfl, hR, hTr, hU, hW, hBi, lC, x0, x1, fx, y0, y1⟩ := hrel
    have si := hBi.size
    have hi20 : (i : Int) < 20 := by omega
    have HKU := Lib.hid (hR.out.kin HRF.out.2.1 HKT.out)
    go_wp2_with fail
    refine (reductsOfI_any _ _ _ _ rs (ue, ul) (HR1.out.below hBi) hU.out.rd).mono ?_
    obtain ⟨N, hN⟩ : ∃ N, N = redL rs (ue, ul) := ⟨_, rfl⟩
    rw [show redX rs (ue, ul) = N by rw [hN]; unfold redX redV; rw [HAR.out, HKU.out]; rfl]
    rintro e8 w8 ⟨u8, rfl, ho8, hb8⟩
    obtain ⟨a8, n8, cap8, rfl, hn8, -⟩ := ho8.rd.shape
    subst hn8
    have hNl : N.length ≤ 96 := by rw [hN]; exact redL_len HRF.out.1 HKU.out
    have HN := Lib.hid hN
    have hp8 : Below wi.heap.size wi w8 := hb8
    have s8 := hp8.size
    have HU8 := Lib.hid (hU.out.below hp8)
    have HW8 := Lib.hid (hW.out.below hp8)
    have HO8 := Lib.hid (ho8.rd.rds (S := fun b => b ≠ B) (fun b h _ => by omega))
    have x0 := oldc hp8 (by omega) x0
    have x1 := oldc hp8 (by omega) x1
    have y0 := oldc hp8 lC y0
    have y1 := oldc hp8 lC y1
    have fx : ∀ o, w8.frozen? ⟨B, o, none⟩ = false := fun o => (hp8.frozen (p := ⟨B, o, none⟩) (by show B < _; omega)).trans (fx o)
    have hB8 : Below w1.heap.size w1 w8 := hBi.trans (hp8.mono si)
    clear ho8 hb8 hU hW hN
    by_cases hN0 : N = []
    · have hn0 : (N.length : Int) = 0 := by rw [hN0]; rfl
      have HEQ := Lib.hid (show (ue, ul) = X by rw [HX.out]; exact conf_end HRF.out.2.1 HKT.out (law_conf HC.out.symm hE2 HTM.out) hR.out (by rw [← HN.out]; exact hN0))
      have heq := HEQ.out
      subst heq
      obtain ⟨-, hul⟩ := HU8.out.kin2
      obtain ⟨ua', un', ucap', e, hun, -⟩ := hul.rd.shape
      simp only [Value.slice.injEq] at e
      obtain ⟨rfl, rfl, rfl⟩ := e
      dsimp only at y0 y1 hnn hun
      subst hun
      subst hnn
      clear hul HEQ hN0 hTr hR HO8 fx HN HX
      go_upto_region 17 with fail
      refine wp_region_held_drew (S := (fun w' => w'.cell? ⟨B, 0, none⟩ = some (.int .i64 ue) ∧ w'.cell? ⟨B, 1, none⟩ = some (.slice ua ul.length ucap) ∧ w'.cell? ⟨C, 0, none⟩ = some (.int .i64 ue) ∧ w'.cell? ⟨C, 1, none⟩ = some (.slice nao ul.length ncap))) (by kernel_rfl) ?_ (fun hHeld => ?_)
      · first | exact trivial | ((try dsimp only); go_keep)
      refine tkR 0 (v := ?_) ?_ ?_
      rotate_left
      · intro w hSw; (try dsimp only at hSw); go_simp <;> with_reducible rfl
      try simp only [Act.put, List.setIfInBounds_toArray, List.set_cons_zero, List.set_cons_succ]
      refine tkR 3 (v := ?_) ?_ ?_
      rotate_left
      · intro w hSw; (try dsimp only at hSw); go_simp <;> with_reducible rfl
      try simp only [Act.put, List.setIfInBounds_toArray, List.set_cons_zero, List.set_cons_succ]
      refine tkR 1 (v := ?_) ?_ ?_
      rotate_left
      · intro w hSw; (try dsimp only at hSw); go_simp <;> with_reducible rfl
      try simp only [Act.put, List.setIfInBounds_toArray, List.set_cons_zero, List.set_cons_succ]
      refine tkR 4 (v := ?_) ?_ ?_
      rotate_left
      · intro w hSw; (try dsimp only at hSw); go_simp <;> with_reducible rfl
      try simp only [Act.put, List.setIfInBounds_toArray, List.set_cons_zero, List.set_cons_succ]
      refine tkR 2 (v := ?_) ?_ ?_
      rotate_left
      · intro w hSw; (try dsimp only at hSw); go_simp <;> with_reducible rfl
      try simp only [Act.put, List.setIfInBounds_toArray, List.set_cons_zero, List.set_cons_succ]
      refine tkR 5 (v := ?_) ?_ ?_
      rotate_left
      · intro w hSw; (try dsimp only at hSw); go_simp <;> with_reducible rfl
      try simp only [Act.put, List.setIfInBounds_toArray, List.set_cons_zero, List.set_cons_succ]
      refine tkR 6 (v := ?_) ?_ ?_
      rotate_left
      · intro w hSw; (try dsimp only at hSw); go_simp <;> with_reducible rfl
      try simp only [Act.put, List.setIfInBounds_toArray, List.set_cons_zero, List.set_cons_succ]
      refine tkR 7 (v := ?_) ?_ ?_
      rotate_left
      · intro w hSw; (try dsimp only at hSw); go_simp <;> with_reducible rfl
      try simp only [Act.put, List.setIfInBounds_toArray, List.set_cons_zero, List.set_cons_succ]
      refine tkR 8 (v := ?_) ?_ ?_
      rotate_left
      · intro w hSw; (try dsimp only at hSw); go_simp <;> with_reducible rfl
      try simp only [Act.put, List.setIfInBounds_toArray, List.set_cons_zero, List.set_cons_succ]
      refine tkR 10 (v := ?_) ?_ ?_
      rotate_left
      · intro w hSw; (try dsimp only at hSw); go_simp <;> with_reducible rfl
      try simp only [Act.put, List.setIfInBounds_toArray, List.set_cons_zero, List.set_cons_succ]
      refine wpAnyH_ready (rs := [9]) (by kernel_rfl) (by simp) ?_
      refine rdR (fun K hK => ?_) ?_
      · go_simp
        refine (formatS_any _ _ _ (ue, ul) (HU8.out.rd.below ?b0)).mono ?_
        case b0 => exact bwT
        rintro e w9 ⟨rfl, hb9⟩
        have hp9 : Below w8.heap.size w8 w9 := Below.trans (show Below w8.heap.size w8 _ from bwT) (hb9.mono szT)
        have hS9 := And.intro (oldc hp9 (by omega) x0) (And.intro (oldc hp9 (by omega) x1) (And.intro (oldc hp9 (by omega) y0) (oldc hp9 (by omega) y1)))
        clear hb9
        refine hK.out _ _ ?_ (fun hHeld => ?_)
        · exact kpT
        clear hK K
        try simp only [Act.put, List.setIfInBounds_toArray, List.set_cons_zero, List.set_cons_succ]
        refine wpAnyH_ready (rs := [11]) (by kernel_rfl) (by simp) ?_
        refine rdR (fun K hK => ?_) ?_
        · go_simp
          refine (formatS_any _ _ _ (ue, ul) (HW8.out.rd.below ?b0)).mono ?_
          case b0 => exact Below.trans hp9 bwT
          rintro e w11 ⟨rfl, hb11⟩
          have hp11 : Below w8.heap.size w8 w11 := Below.trans (hp9.trans (show Below w8.heap.size w9 _ from (show Below w9.heap.size w9 _ from bwT).mono hp9.size)) (hb11.mono (by have := hp9.size; first | omega | (simp; omega)))
          have hS11 := And.intro (oldc hp11 (by omega) x0) (And.intro (oldc hp11 (by omega) x1) (And.intro (oldc hp11 (by omega) y0) (oldc hp11 (by omega) y1)))
          clear hb11
          refine hK.out _ _ ?_ (fun hHeld => ?_)
          · exact kpT
          clear hK K
          try simp only [Act.put, List.setIfInBounds_toArray, List.set_cons_zero, List.set_cons_succ]
          refine tkR 12 (v := ?_) ?_ ?_
          rotate_left
          · intro w hSw; (try dsimp only at hSw); go_simp <;> with_reducible rfl
          try simp only [Act.put, List.setIfInBounds_toArray, List.set_cons_zero, List.set_cons_succ]
          refine tkR 13 (v := ?_) ?_ ?_
          rotate_left
          · intro w hSw; (try dsimp only at hSw); go_simp <;> with_reducible rfl
          try simp only [Act.put, List.setIfInBounds_toArray, List.set_cons_zero, List.set_cons_succ]
          refine tkR 14 (v := ?_) ?_ ?_
          rotate_left
          · intro w hSw; (try dsimp only at hSw); go_simp <;> with_reducible rfl
          try simp only [Act.put, List.setIfInBounds_toArray, List.set_cons_zero, List.set_cons_succ]
          refine wpAnyH_done (by kernel_rfl) ?_ _
          clear hHeld
          go_wp2
          go_ret
          exact ⟨rfl, hB1.trans ((hB8.trans (hp11.mono (by omega))).mono s1)⟩
        exact AllReadyH.nil
      exact AllReadyH.nil
    · have hn0 : ¬ (N.length : Int) = 0 := by
        intro h
        exact hN0 (List.length_eq_zero_iff.1 (by omega))
      have hNp : 0 < N.length := by omega
      have hi3 : IntKind.i64.wrap (3 + (i : Int)) = 3 + (i : Int) := IntWalk.i64_in _ (by omega)
      clear hN0
      go_wp2_with fail
      refine (at_any _ _ code (HC0.out.below (hB1.trans (hB8.mono s1))) hq1 (3 + (i : Int)) (by omega) (by omega)).mono ?_
      rintro e9 w9 ⟨x9, rfl, hx9, hb9⟩
      have hp9 : Below w8.heap.size w8 w9 := hb9
      have s9 := hp9.size
      obtain ⟨j9, hj9⟩ : ∃ j : Nat, x9 % (N.length : Int) = j := Int.eq_ofNat_of_zero_le (Int.emod_nonneg _ hn0)
      have hjl9 : j9 < N.length := by have := Int.emod_lt_of_pos x9 (show 0 < (N.length : Int) by omega); omega
      have u9 : x9.tmod (N.length : Int) = (j9 : Int) := by rw [Int.tmod_eq_emod_of_nonneg hx9.1]; exact hj9
      have hjI9 : (j9 : Int) < (N.length : Int) := by omega
      clear hb9 hj9 hi3
      obtain ⟨bn, offn, ⟨ve, vl⟩, vv, rfl, hv, m0, m1, hRv, hbn⟩ := (HO8.out.below hp9).kin_at hjl9
      obtain ⟨-, hRl⟩ := hRv.kin2
      dsimp only at m0 hRv hRl
      obtain ⟨va, vn, vcap, rfl, -⟩ := hRl.rd.shape
      have HVM := Lib.hid (show (ve, vl) ∈ redL rs (ue, ul) by rw [← HN.out]; exact List.mem_of_getElem? hv.out)
      have hR2 := Lib.hid (hR.out.snoc HVM.out)
      obtain ⟨k', hk', hT2⟩ := ter_next hTr.out HVM.out
      subst hk'
      have HT2 := Lib.hid hT2
      have HW9 := Lib.hid (HW8.out.below hp9)
      have HV9 := Lib.hid hRv
      have x0 := oldc hp9 (by omega) x0
      have x1 := oldc hp9 (by omega) x1
      have y0 := oldc hp9 (by omega) y0
      have y1 := oldc hp9 (by omega) y1
      have fx : ∀ o, w9.frozen? ⟨B, o, none⟩ = false := fun o => (hp9.frozen (p := ⟨B, o, none⟩) (by show B < _; omega)).trans (fx o)
      have hB9 : Below w1.heap.size w1 w9 := hB8.trans (hp9.mono (by omega))
      clear hv hRv hRl hT2 hTr hR HO8 HU8 HW8 hB8
      go_wp2
      have hk : ∀ q, q ≠ B → ((w9.setCell ⟨B, 0, none⟩ (.int .i64 ve)).setCell ⟨B, 1, none⟩ (.slice va vn vcap)).heap[q]? = w9.heap[q]? := fun q h => (Below.heap_setCell _ ⟨B, 1, none⟩ _ q (by first | exact h | exact Ne.symm h)).trans (Below.heap_setCell w9 ⟨B, 0, none⟩ _ q (by first | exact h | exact Ne.symm h))
      have c0 := twoc0 (u := .int .i64 ve) (u2 := .slice va vn vcap) x0
      have c1 := twoc1 (u := .int .i64 ve) (u2 := .slice va vn vcap) x1
      have fz := fun o => frozen_setCell _ B 1 o (.slice va vn vcap) (frozen_setCell w9 B 0 o (.int .i64 ve) (fx o))
      have z0 := (World.cell?_of_block (w := w9) (a := ⟨C, 0, none⟩) (hk C (by omega))).trans y0
      have z1 := (World.cell?_of_block (w := w9) (a := ⟨C, 1, none⟩) (hk C (by omega))).trans y1
      have HWZ := Lib.hid (HW9.out.keep (w' := (w9.setCell ⟨B, 0, none⟩ (.int .i64 ve)).setCell ⟨B, 1, none⟩ (.slice va vn vcap)) fun b _ h => hk b h)
      have HVZ := Lib.hid (HV9.out.keep (w' := (w9.setCell ⟨B, 0, none⟩ (.int .i64 ve)).setCell ⟨B, 1, none⟩ (.slice va vn vcap)) fun b _ h => hk b h)
      have hBZ := (hB9.setCell (p := ⟨B, 0, none⟩) (by show _ ≤ B; omega) (.int .i64 ve)).setCell (p := ⟨B, 1, none⟩) (by show _ ≤ B; omega) (.slice va vn vcap)
      go_roundw
      case rel => exact ⟨i + 1, k', ve, vl, va, vn, vcap, by omega, by go_num, hR2, HT2, HVZ, HWZ, hBZ, by simp; omega, c0, c1, fz, z0, z1⟩
      case measure => simp [intOf]; omega
end Go.Proofs.Ytoipdgoejichbaa
