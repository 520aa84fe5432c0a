/- Texts laid one behind the other (merge.py): IstI, IstS, TmI, TmS, TFor. -/
import Derived.Test.YtdpkldapobbnpaaGreatDoorTrmA
import Derived.Test.YtdpkldapobbnpaaGreatDoorDEntry
namespace Go.Proofs.YtdpkldapobbnpaaGreatDoor
set_option linter.unusedVariables false
set_option linter.unusedSimpArgs false
open Go.RowKit
theorem isTerm_bad {rs : List Rul} {es : List Ent} {i : Nat} {e : Ent} (h : es[i]? = some e) (hr : entOk rs e = false) : isTerm (rs, es) = false := by
 rw [Bool.eq_false_iff]
 intro q
 unfold isTerm at q
 simp only [Bool.and_eq_true, List.all_eq_true] at q
 have := q.2.2.1 e (List.mem_of_getElem? h)
 rw [hr] at this; cases this
theorem isTerm_dup {rs : List Rul} {es : List Ent} {i : Nat} {e : Ent} (h : es[i]? = some e) (hr : e.1 ∈ (es.take i).map (·.1)) : isTerm (rs, es) = false := by
 rw [Bool.eq_false_iff]
 intro q
 have hn := (isTerm_facts q).2.2.2
 dsimp only at hn
 rw [← List.take_append_drop i es, drop_cons h, List.map_append, List.map_cons, List.nodup_append] at hn
 exact hn.2.2 _ hr _ (by simp) rfl
theorem isTerm_end {rs : List Rul} {es : List Ent} {i : Nat} (hi : es.length ≤ i) (h0 : areRules rs = true) (hl : es.length ≤ 60) (h1 : (es.take i).all (entOk rs) = true) (h2 : ((es.take i).map (·.1)).Nodup) : isTerm (rs, es) = true := by
 rw [List.take_of_length_le hi] at h1 h2
 unfold isTerm
 dsimp only
 rw [h0, decide_eq_true hl, h1, decide_eq_true h2]; rfl
theorem take_nodupE {xs : List Ent} {i : Nat} {x : Ent} (h : xs[i]? = some x) (h1 : ((xs.take i).map (·.1)).Nodup) (h2 : ∀ y ∈ xs.take i, y.1 ≠ x.1) : ((xs.take (i + 1)).map (·.1)).Nodup := by
 rw [take_snoc h, List.map_append, List.nodup_append]
 refine ⟨h1, by simp, fun a ha b hb e => ?_⟩
 simp at hb; subst hb
 rw [List.mem_map] at ha
 obtain ⟨y, hy, rfl⟩ := ha
 exact h2 y hy e
set_option maxRecDepth 20000 in
set_option maxHeartbeats 16000000 in
theorem isTermI_b {z : Bool} {lo hi : Nat} (w : World) (y1 y2 : Value) (rs : List Rul) (es : List Ent) (h : Rd z lo hi w [y1, y2] ((rs, es) : Trm)) (R : Bool) (hR : R = isTerm (rs, es)) :
  Calls Tryz.prog 28 #[.agg #[y1, y2]] w (PostB w R) := by
 obtain ⟨hy1, hy2⟩ := h.two rfl
 dsimp only at hy1 hy2
 obtain ⟨ra, rn, rcap, rfl, -⟩ := hy1.shape
 obtain ⟨ea, en, ecap, rfl, hen, henc, hecm, -⟩ := hy2.shape
 subst hen
 unfold maxLen at hecm
 have HY1 := Lib.hid hy1
 have HY2 := Lib.hid hy2
 have HR := Lib.hid hR
 obtain ⟨r0, hlet_r0⟩ : ∃ r, r = areRules rs := ⟨_, rfl⟩
 have H0 := Lib.hid hlet_r0
 clear hlet_r0
 clear h hR hy1 hy2
 go_enter Tryz.func28, Tryz.ntmps28
 go_wp2_with fail
 refine (areRulesI_b _ _ rs (HY1.out.below bwT) r0 H0.out).mono ?_
 rintro e1 w1 ⟨rfl, hbw1⟩
 have hpw1 : Below w.heap.size w w1 := Below.after bwT hbw1 szT
 have sw1 := hpw1.size
 have hBw1 : Below w.heap.size w w1 := hpw1
 have l_y : w.heap.size < w1.heap.size := by have := hbw1.size; simp at this; omega
 have q_y0 : w1.cell? ⟨w.heap.size, 0, none⟩ = some (.slice ra rn rcap) := oldc hbw1 ltT (by simp [go_sem])
 have q_y1 : w1.cell? ⟨w.heap.size, 1, none⟩ = some (.slice ea es.length ecap) := oldc hbw1 ltT (by simp [go_sem])
 clear hbw1 hpw1
 cases r0
 ·have HF := Lib.hid (show R = false by rw [HR.out, isTerm, ← H0.out]; rfl)
  clear HR HY1 HY2 H0
  go_wp2
  go_ret
  exact ⟨ret_bool HF.out.symm, hBw1⟩
 by_cases hl : es.length ≤ 60
 rotate_left
 ·have HF := Lib.hid (show R = false by rw [HR.out, isTerm]; dsimp only; rw [decide_eq_false hl]; simp)
  have n1 : (60 : Int) < (es.length : Int) := by omega
  have n2 : 60 < es.length := by omega
  clear HR HY1 HY2 H0 hl
  go_wp2
  go_ret
  exact ⟨ret_bool HF.out.symm, hBw1⟩
 have n1 : ¬ (60 : Int) < (es.length : Int) := by omega
 have n2 : ¬ 60 < es.length := by omega
 have HRS := Lib.hid (areRules_facts H0.out.symm).2.1
 obtain ⟨Wq, hWq⟩ : ∃ W : World, W = w1 := ⟨_, rfl⟩
 subst hWq
 have hBq : Below w.heap.size w Wq := hBw1
 have qy0 := q_y0
 have qy1 := q_y1
 have lq : w.heap.size < Wq.heap.size := l_y
 clear q_y0 q_y1 l_y
 go_wp2
 go_loopw [3, 4, 6, 20] (fun _ _ _ s20 wr => ∃ i : Nat, i ≤ es.length ∧ s20 = .int .i64 i ∧ Hid ((es.take i).all (entOk rs) = true) ∧ Hid (((es.take i).map (·.1)).Nodup) ∧ Below Wq.heap.size Wq wr) (fun _ _ _ s20 _ => es.length - (intOf s20).toNat)
 case atStart => exact ⟨0, Nat.zero_le _, rfl, Lib.hid rfl, Lib.hid List.nodup_nil, Below.refl _ _⟩
 case round =>
  obtain ⟨wb, hwb⟩ : ∃ wm : World, wm = wr := ⟨_, rfl⟩
  subst hwb
  obtain ⟨i, hi1, rfl, hA, hN, hbb⟩ := hrel
  have sbb := hbb.size
  have hBb : Below w.heap.size w wb := hBq.trans (hbb.mono hBq.size)
  have yb0 := oldc hbb lq qy0
  have yb1 := oldc hbb lq qy1
  by_cases hli : i < es.length
  ·have hI : (i : Int) < (es.length : Int) := by omega
   obtain ⟨xb, xoff, tye, tyl, tm, vtyl, rfl, hx, c0, c1, c2, gI, gS, htl, hri, -, -, hbl⟩ := (HY2.out.below hBb).dEnt_at hli
   obtain ⟨xao, xn, xcap, rfl, -⟩ := htl.shape
   have HX := Lib.hid hx.out
   have HTL := Lib.hid htl
   have HTM := Lib.hid gS
   have HI64 := Lib.hid gI
   obtain ⟨ok, hlet_ok⟩ : ∃ r, r = entOk rs ((tye, tyl), tm) := ⟨_, rfl⟩
   have HF := Lib.hid hlet_ok
   clear hlet_ok
   clear hx gI gS htl hri
   obtain ⟨WE, hWE⟩ : ∃ W : World, W = wb.alloc (.cells #[.int .i64 tye, .slice xao xn xcap, .string tm] 43) := ⟨_, rfl⟩
   have hBE : Below wb.heap.size wb WE := by subst hWE; exact bwT
   have e0 : WE.cell? ⟨wb.heap.size, 0, none⟩ = some (.int .i64 tye) := by subst hWE; simp [go_sem]
   have e1 : WE.cell? ⟨wb.heap.size, 1, none⟩ = some (.slice xao xn xcap) := by subst hWE; simp [go_sem]
   have e2 : WE.cell? ⟨wb.heap.size, 2, none⟩ = some (.string tm) := by subst hWE; simp [go_sem]
   have le : wb.heap.size < WE.heap.size := by subst hWE; simp
   have hBwE : Below w.heap.size w WE := hBb.trans (hBE.mono hBb.size)
   have hqE : Below Wq.heap.size Wq WE := hbb.trans (hBE.mono sbb)
   have y0 := oldc hBE (by omega) yb0
   have y1 := oldc hBE (by omega) yb1
   have ly : w.heap.size < WE.heap.size := by omega
   have HTE := Lib.hid (HTL.out.below hBE)
   go_upto_region 6 with fail
   rw [← hWE]
   clear hWE c0 c1 c2 HTL yb0 yb1
   go_cut [45] (fun s45 wx => s45 = .bool (!ok) ∧ Below WE.heap.size WE wx)
   case first =>
    clear HR hA hN HX
    obtain ⟨b1, hlet_b1⟩ : ∃ r, r = nameOk tm := ⟨_, rfl⟩
    have HB1 := Lib.hid hlet_b1
    clear hlet_b1
    obtain ⟨b2, hlet_b2⟩ : ∃ r, r = isKin (tye, tyl) := ⟨_, rfl⟩
    have HB2 := Lib.hid hlet_b2
    clear hlet_b2
    obtain ⟨b3, hlet_b3⟩ : ∃ r, r = decide (((tye, tyl) : Kin) = nf rs (tye, tyl)) := ⟨_, rfl⟩
    have HB3 := Lib.hid hlet_b3
    clear hlet_b3
    have HE := Lib.hid (show ok = (b1 && (b2 && b3)) by rw [HF.out, entOk, HB1.out, HB2.out, HB3.out])
    clear HF
    cases b1
    ·have hr0 : ok = false := by rw [HE.out]; rfl
     clear HE
     refine wp_region_held_drew (S := (fun w' => w'.cell? ⟨wb.heap.size, 0, none⟩ = some (.int .i64 tye) ∧ w'.cell? ⟨wb.heap.size, 1, none⟩ = some (.slice xao xn xcap) ∧ w'.cell? ⟨wb.heap.size, 2, none⟩ = some (.string tm) ∧ w'.cell? ⟨w.heap.size, 0, none⟩ = some (.slice ra rn rcap))) (by kernel_rfl) ?_ (fun hHeld => ?_)
     ·first | exact trivial | ((try dsimp only); go_keep)
     refine tkA 0 ?_
     try simp only [Act.put, cA, cB, cC]
     refine tkA 1 ?_
     try simp only [Act.put, cA, cB, cC]
     refine wpAnyH_ready (rs := [2]) (by kernel_rfl) (by simp) ?_
     refine rdR (fun K hK => ?_) ?_
     ·go_simp
      refine (isNameI_b _ tm HTM.out false HB1.out).mono ?_
      rintro e2 w2 ⟨rfl, hb2⟩
      have hp2 : Below WE.heap.size WE w2 := Below.trans (show Below WE.heap.size WE _ from bwT) (hb2.mono szT)
      have hS2 := And.intro (oldc hp2 le e0) (And.intro (oldc hp2 le e1) (And.intro (oldc hp2 le e2) (oldc hp2 ly y0)))
      have sz2 := hp2.size
      have hBw2 : Below w.heap.size w w2 := hBwE.trans (hp2.mono hBwE.size)
      clear hb2
      refine hK.out _ _ ?_ (fun hHeld => ?_)
      ·exact kpT
      clear hK K
      try simp only [Act.put, cA, cB, cC]
      refine tkA 3 ?_
      try simp only [Act.put, cA, cB, cC]
      refine tkA 4 ?_
      try simp only [Act.put, cA, cB, cC]
      refine skR 5 ?_
      try simp only [Act.put, cA, cB, cC]
      refine skR 6 ?_
      try simp only [Act.put, cA, cB, cC]
      refine skR 7 ?_
      try simp only [Act.put, cA, cB, cC]
      refine skR 8 ?_
      try simp only [Act.put, cA, cB, cC]
      refine tkA 9 ?_
      try simp only [Act.put, cA, cB, cC]
      refine tkA 10 ?_
      try simp only [Act.put, cA, cB, cC]
      refine skR 11 ?_
      try simp only [Act.put, cA, cB, cC]
      refine skR 13 ?_
      try simp only [Act.put, cA, cB, cC]
      refine skR 15 ?_
      try simp only [Act.put, cA, cB, cC]
      refine skR 12 ?_
      try simp only [Act.put, cA, cB, cC]
      refine skR 14 ?_
      try simp only [Act.put, cA, cB, cC]
      refine skR 16 ?_
      try simp only [Act.put, cA, cB, cC]
      refine skR 17 ?_
      try simp only [Act.put, cA, cB, cC]
      refine skR 18 ?_
      try simp only [Act.put, cA, cB, cC]
      refine skR 19 ?_
      try simp only [Act.put, cA, cB, cC]
      refine tkA 20 ?_
      try simp only [Act.put, cA, cB, cC]
      refine wpAnyH_done (by kernel_rfl) ?_ _
      go_wp2_with fail
      go_meet
      exact ⟨by rw [hr0]; rfl, bwT⟩
     exact AllReadyH.nil
    cases b2
    ·have hr0 : ok = false := by rw [HE.out]; rfl
     clear HE
     refine wp_region_held_drew (S := (fun w' => w'.cell? ⟨wb.heap.size, 0, none⟩ = some (.int .i64 tye) ∧ w'.cell? ⟨wb.heap.size, 1, none⟩ = some (.slice xao xn xcap) ∧ w'.cell? ⟨wb.heap.size, 2, none⟩ = some (.string tm) ∧ w'.cell? ⟨w.heap.size, 0, none⟩ = some (.slice ra rn rcap))) (by kernel_rfl) ?_ (fun hHeld => ?_)
     ·first | exact trivial | ((try dsimp only); go_keep)
     refine tkA 0 ?_
     try simp only [Act.put, cA, cB, cC]
     refine tkA 1 ?_
     try simp only [Act.put, cA, cB, cC]
     refine wpAnyH_ready (rs := [2]) (by kernel_rfl) (by simp) ?_
     refine rdR (fun K hK => ?_) ?_
     ·go_simp
      refine (isNameI_b _ tm HTM.out true HB1.out).mono ?_
      rintro e2 w2 ⟨rfl, hb2⟩
      have hp2 : Below WE.heap.size WE w2 := Below.trans (show Below WE.heap.size WE _ from bwT) (hb2.mono szT)
      have hS2 := And.intro (oldc hp2 le e0) (And.intro (oldc hp2 le e1) (And.intro (oldc hp2 le e2) (oldc hp2 ly y0)))
      have sz2 := hp2.size
      have hBw2 : Below w.heap.size w w2 := hBwE.trans (hp2.mono hBwE.size)
      clear hb2
      refine hK.out _ _ ?_ (fun hHeld => ?_)
      ·exact kpT
      clear hK K
      try simp only [Act.put, cA, cB, cC]
      refine tkA 3 ?_
      try simp only [Act.put, cA, cB, cC]
      refine tkA 4 ?_
      try simp only [Act.put, cA, cB, cC]
      refine tkA 5 ?_
      try simp only [Act.put, cA, cB, cC]
      refine tkA 6 ?_
      try simp only [Act.put, cA, cB, cC]
      refine wpAnyH_ready (rs := [7]) (by kernel_rfl) (by simp) ?_
      refine rdR (fun K hK => ?_) ?_
      ·go_simp
       refine (isTypeI_b _ _ _ (tye, tyl) (Rd.kin_mk HI64.out (HTE.out.below ?b1)) false HB2.out).mono ?_
       case b1 => exact bwT
       rintro e7 w7 ⟨rfl, hb7⟩
       have hp7 : Below WE.heap.size WE w7 := Below.trans (show Below WE.heap.size WE _ from bwT) (hb7.mono szT)
       have hS7 := And.intro (oldc hp7 le e0) (And.intro (oldc hp7 le e1) (And.intro (oldc hp7 le e2) (oldc hp7 ly y0)))
       have sz7 := hp7.size
       have hBw7 : Below w.heap.size w w7 := hBwE.trans (hp7.mono hBwE.size)
       clear hb7
       refine hK.out _ _ ?_ (fun hHeld => ?_)
       ·exact kpT
       clear hK K
       try simp only [Act.put, cA, cB, cC]
       refine tkA 8 ?_
       try simp only [Act.put, cA, cB, cC]
       refine tkA 9 ?_
       try simp only [Act.put, cA, cB, cC]
       refine tkA 10 ?_
       try simp only [Act.put, cA, cB, cC]
       refine skR 11 ?_
       try simp only [Act.put, cA, cB, cC]
       refine skR 13 ?_
       try simp only [Act.put, cA, cB, cC]
       refine skR 15 ?_
       try simp only [Act.put, cA, cB, cC]
       refine skR 12 ?_
       try simp only [Act.put, cA, cB, cC]
       refine skR 14 ?_
       try simp only [Act.put, cA, cB, cC]
       refine skR 16 ?_
       try simp only [Act.put, cA, cB, cC]
       refine skR 17 ?_
       try simp only [Act.put, cA, cB, cC]
       refine skR 18 ?_
       try simp only [Act.put, cA, cB, cC]
       refine skR 19 ?_
       try simp only [Act.put, cA, cB, cC]
       refine tkA 20 ?_
       try simp only [Act.put, cA, cB, cC]
       refine wpAnyH_done (by kernel_rfl) ?_ _
       go_wp2_with fail
       go_meet
       exact ⟨by rw [hr0]; rfl, bwT⟩
      exact AllReadyH.nil
     exact AllReadyH.nil
    have hr0 : ok = b3 := by rw [HE.out]; rfl
    have HR0 := Lib.hid hr0
    clear HE hr0
    refine wp_region_held_drew (S := (fun w' => w'.cell? ⟨wb.heap.size, 0, none⟩ = some (.int .i64 tye) ∧ w'.cell? ⟨wb.heap.size, 1, none⟩ = some (.slice xao xn xcap) ∧ w'.cell? ⟨wb.heap.size, 2, none⟩ = some (.string tm) ∧ w'.cell? ⟨w.heap.size, 0, none⟩ = some (.slice ra rn rcap))) (by kernel_rfl) ?_ (fun hHeld => ?_)
    ·first | exact trivial | ((try dsimp only); go_keep)
    refine tkA 0 ?_
    try simp only [Act.put, cA, cB, cC]
    refine tkA 1 ?_
    try simp only [Act.put, cA, cB, cC]
    refine wpAnyH_ready (rs := [2]) (by kernel_rfl) (by simp) ?_
    refine rdR (fun K hK => ?_) ?_
    ·go_simp
     refine (isNameI_b _ tm HTM.out true HB1.out).mono ?_
     rintro e2 w2 ⟨rfl, hb2⟩
     have hp2 : Below WE.heap.size WE w2 := Below.trans (show Below WE.heap.size WE _ from bwT) (hb2.mono szT)
     have hS2 := And.intro (oldc hp2 le e0) (And.intro (oldc hp2 le e1) (And.intro (oldc hp2 le e2) (oldc hp2 ly y0)))
     have sz2 := hp2.size
     have hBw2 : Below w.heap.size w w2 := hBwE.trans (hp2.mono hBwE.size)
     clear hb2
     refine hK.out _ _ ?_ (fun hHeld => ?_)
     ·exact kpT
     clear hK K
     try simp only [Act.put, cA, cB, cC]
     refine tkA 3 ?_
     try simp only [Act.put, cA, cB, cC]
     refine tkA 4 ?_
     try simp only [Act.put, cA, cB, cC]
     refine tkA 5 ?_
     try simp only [Act.put, cA, cB, cC]
     refine tkA 6 ?_
     try simp only [Act.put, cA, cB, cC]
     refine wpAnyH_ready (rs := [7]) (by kernel_rfl) (by simp) ?_
     refine rdR (fun K hK => ?_) ?_
     ·go_simp
      refine (isTypeI_b _ _ _ (tye, tyl) (Rd.kin_mk HI64.out (HTE.out.below ?b1)) true HB2.out).mono ?_
      case b1 => exact bwT
      rintro e7 w7 ⟨rfl, hb7⟩
      have hp7 : Below WE.heap.size WE w7 := Below.trans (show Below WE.heap.size WE _ from bwT) (hb7.mono szT)
      have hS7 := And.intro (oldc hp7 le e0) (And.intro (oldc hp7 le e1) (And.intro (oldc hp7 le e2) (oldc hp7 ly y0)))
      have sz7 := hp7.size
      have hBw7 : Below w.heap.size w w7 := hBwE.trans (hp7.mono hBwE.size)
      clear hb7
      refine hK.out _ _ ?_ (fun hHeld => ?_)
      ·exact kpT
      clear hK K
      try simp only [Act.put, cA, cB, cC]
      refine tkA 8 ?_
      try simp only [Act.put, cA, cB, cC]
      refine tkA 9 ?_
      try simp only [Act.put, cA, cB, cC]
      refine tkA 10 ?_
      try simp only [Act.put, cA, cB, cC]
      refine tkA 11 ?_
      try simp only [Act.put, cA, cB, cC]
      refine tkA 13 ?_
      try simp only [Act.put, cA, cB, cC]
      refine tkA 15 ?_
      try simp only [Act.put, cA, cB, cC]
      refine tkA 12 ?_
      try simp only [Act.put, cA, cB, cC]
      refine tkA 14 ?_
      try simp only [Act.put, cA, cB, cC]
      refine tkA 16 ?_
      try simp only [Act.put, cA, cB, cC]
      refine wpAnyH_ready (rs := [17]) (by kernel_rfl) (by simp) ?_
      refine rdR (fun K hK => ?_) ?_
      ·go_simp
       refine (nfI_any _ _ _ _ rs (tye, tyl) (HY1.out.below ?b1) (Rd.kin_mk HI64.out (HTE.out.below ?b2)) HRS.out HB2.out.symm).mono ?_
       case b1 => exact bwT
       case b2 => exact bwT
       rintro e17 w17 ⟨na, nb, rfl, hon, hb17⟩
       have hp17 : Below WE.heap.size WE w17 := Below.trans (show Below WE.heap.size WE _ from bwT) (hb17.mono szT)
       have hS17 := And.intro (oldc hp17 le e0) (And.intro (oldc hp17 le e1) (And.intro (oldc hp17 le e2) (oldc hp17 ly y0)))
       have sz17 := hp17.size
       have hBw17 : Below w.heap.size w w17 := hBwE.trans (hp17.mono hBwE.size)
       obtain ⟨rfl, -, hon2⟩ := hon.rd.kin
       obtain ⟨nao, nn, ncap, rfl, -⟩ := hon2.shape
       have HON := Lib.hid hon
       clear hon hon2
       clear hb17
       refine hK.out _ _ ?_ (fun hHeld => ?_)
       ·exact kpT
       clear hK K
       try simp only [Act.put, cA, cB, cC]
       refine wpAnyH_ready (rs := [18]) (by kernel_rfl) (by simp) ?_
       refine rdR (fun K hK => ?_) ?_
       ·go_simp
        refine (eqTypesI_b _ _ _ _ _ (tye, tyl) (nf rs (tye, tyl)) (Rd.kin_mk HI64.out (HTE.out.below ?b1)) (HON.out.rd.below ?b2) b3 HB3.out).mono ?_
        case b1 => exact bwT
        case b2 => exact bwT
        rintro e18 w18 ⟨rfl, hb18⟩
        have hp18 : Below WE.heap.size WE w18 := Below.trans (show Below WE.heap.size WE _ from bwT) (hb18.mono szT)
        have hS18 := And.intro (oldc hp18 le e0) (And.intro (oldc hp18 le e1) (And.intro (oldc hp18 le e2) (oldc hp18 ly y0)))
        have sz18 := hp18.size
        have hBw18 : Below w.heap.size w w18 := hBwE.trans (hp18.mono hBwE.size)
        clear hb18
        refine hK.out _ _ ?_ (fun hHeld => ?_)
        ·exact kpT
        clear hK K
        try simp only [Act.put, cA, cB, cC]
        refine tkA 19 ?_
        try simp only [Act.put, cA, cB, cC]
        refine tkA 20 ?_
        try simp only [Act.put, cA, cB, cC]
        refine wpAnyH_done (by kernel_rfl) ?_ _
        go_wp2_with fail
        go_meet
        exact ⟨by rw [HR0.out], bwT⟩
       exact AllReadyH.nil
      exact AllReadyH.nil
     exact AllReadyH.nil
    exact AllReadyH.nil
   case rest =>
    obtain ⟨rfl, hbX⟩ := hcut
    obtain ⟨WX, hWX⟩ : ∃ W : World, W = wc := ⟨_, rfl⟩
    subst hWX
    have sX := hbX.size
    have hBX : Below w.heap.size w WX := hBwE.trans (hbX.mono hBwE.size)
    have hqX : Below Wq.heap.size Wq WX := hqE.trans (hbX.mono hqE.size)
    have f0 := oldc hbX le e0
    have f1 := oldc hbX le e1
    have f2 := oldc hbX le e2
    have y0 := oldc hbX ly y0
    have y1 := oldc hbX ly y1
    have lyX := Nat.lt_of_lt_of_le ly sX
    have leX := Nat.lt_of_lt_of_le le sX
    clear e0 e1 e2
    cases ok
    ·have HFF := Lib.hid (show R = false by rw [HR.out]; exact isTerm_bad HX.out HF.out.symm)
     clear HR hA hN HX HF HTE
     go_wp2
     go_ret
     exact ⟨ret_bool HFF.out.symm, hBX⟩
    ·have HA := Lib.hid (take_all HX.out hA.out HF.out.symm)
     clear hA HF
     have hslc : (i : Int) ≤ (ecap : Int) := by omega
     have hslc2 : i ≤ ecap := by omega
     go_wp2
     go_loopw [6, 51] (fun _ s51 wr => ∃ k : Nat, k ≤ i ∧ s51 = .int .i64 k ∧ Hid (∀ x ∈ es.take k, x.1 ≠ (tye, tyl)) ∧ Below WX.heap.size WX wr) (fun _ s51 _ => i - (intOf s51).toNat)
     case atStart => exact ⟨0, Nat.zero_le _, rfl, Lib.hid (by simp), Below.refl _ _⟩
     case round =>
      obtain ⟨wd, hwd⟩ : ∃ wm : World, wm = wr := ⟨_, rfl⟩
      subst hwd
      obtain ⟨k, hk1, rfl, hD, hXd⟩ := hrel
      have sXd := hXd.size
      have hBd : Below w.heap.size w wd := hBX.trans (hXd.mono hBX.size)
      have hEd : Below WE.heap.size WE wd := hbX.trans (hXd.mono sX)
      have f0 := oldc hXd leX f0
      have f1 := oldc hXd leX f1
      have f2 := oldc hXd leX f2
      have y1 := oldc hXd lyX y1
      have lyd := Nat.lt_of_lt_of_le lyX sXd
      have led := Nat.lt_of_lt_of_le leX sXd
      by_cases hki : k < i
      ·have hK : (k : Int) < (i : Int) := by omega
       have hK2 : (k : Int) < (es.length : Int) := by omega
       obtain ⟨xb2, xoff2, oe, ol, om, vol, eb, hox, d0, d1, d2, goI, goS, hol, hori, -, -, xbl⟩ := (HY2.out.below hBd).dEnt_at (i := k) (show k < es.length by omega)
       simp only [Option.some.injEq, Addr.mk.injEq, and_true] at eb
       obtain ⟨rfl, rfl⟩ := eb
       obtain ⟨oao, on, ocap, rfl, -⟩ := hol.shape
       have HOX := Lib.hid hox.out
       have HOT := Lib.hid (Rd.kin_mk goI hol)
       obtain ⟨r1, hlet_r1⟩ : ∃ r, r = decide (((oe, ol) : Kin) = (tye, tyl)) := ⟨_, rfl⟩
       have H1 := Lib.hid hlet_r1
       clear hlet_r1
       clear hox goI goS hol hori
       go_wp2_with fail
       refine (eqTypesI_b _ _ _ _ _ (oe, ol) (tye, tyl) (HOT.out.below ?b1) (Rd.kin_mk HI64.out ((HTE.out.below hEd).below ?b2)) r1 H1.out).mono ?_
       case b1 => exact bwT
       case b2 => exact bwT
       rintro e w2 ⟨rfl, hb2⟩
       have hX2 : Below WX.heap.size WX w2 := Below.after (show Below WX.heap.size WX _ from bwT) hb2 (by simp; omega)
       have hB2 : Below w.heap.size w w2 := hBX.trans (hX2.mono hBX.size)
       clear hb2 d0 d1 d2
       cases r1
       ·have HD := Lib.hid (show ∀ x ∈ es.take (k + 1), x.1 ≠ (tye, tyl) by
         rw [take_snoc HOX.out]
         intro x hx
         rcases List.mem_append.1 hx with hx | hx
         ·exact hD.out x hx
         ·simp at hx; subst hx; exact of_decide_eq_false H1.out.symm)
        clear hD HOX HOT H1
        go_wp2
        go_roundw
        case rel => first | exact ⟨k + 1, by omega, by go_num, HD, hX2⟩ | exact ⟨_, _, _, _, _, _, _, _, _, _, _, _, ⟨k + 1, by omega, by go_num, HD, hX2⟩, rfl⟩
        case measure => simp [intOf]; omega
       ·have HFF := Lib.hid (show R = false by
         rw [HR.out]
         refine isTerm_dup HX.out ?_
         rw [List.mem_map]
         exact ⟨((oe, ol), om), List.mem_of_getElem? (i := k) (show (es.take i)[k]? = some ((oe, ol), om) by rw [List.getElem?_take, if_pos hki]; exact HOX.out), of_decide_eq_true H1.out.symm⟩)
        clear hD HOX HOT H1 HR HX HTE
        go_wp2
        go_ret
        exact ⟨ret_bool HFF.out.symm, hB2⟩
      ·obtain rfl : k = i := by omega
       have hK : ¬ (k : Int) < (k : Int) := by omega
       have HN := Lib.hid (take_nodupE HX.out hN.out hD.out)
       clear hD hN HX
       go_wp2
       go_roundw
       case rel => exact ⟨k + 1, by omega, by go_num, HA, HN, hqX.trans (hXd.mono hqX.size)⟩
       case measure => simp [intOf]; omega
  ·have hI : ¬ (i : Int) < (es.length : Int) := by omega
   have HFF := Lib.hid (show R = true by rw [HR.out]; exact isTerm_end (by omega) H0.out.symm hl hA.out hN.out)
   clear HR hA hN
   go_wp2
   go_ret
   exact ⟨ret_bool HFF.out.symm, hBb⟩
set_option maxRecDepth 20000 in
set_option maxHeartbeats 16000000 in
theorem isTermS_b {z : Bool} {lo hi : Nat} (w : World) (y1 y2 : Value) (rs : List Rul) (es : List Ent) (h : Rd z lo hi w [y1, y2] ((rs, es) : Trm)) (R : Bool) (hR : R = isTerm (rs, es)) :
  Calls Tryz.prog 22 #[.agg #[y1, y2]] w (PostB w R) := by
 obtain ⟨hy1, hy2⟩ := h.two rfl
 dsimp only at hy1 hy2
 obtain ⟨ra, rn, rcap, rfl, -⟩ := hy1.shape
 obtain ⟨ea, en, ecap, rfl, hen, henc, hecm, -⟩ := hy2.shape
 subst hen
 unfold maxLen at hecm
 have HY1 := Lib.hid hy1
 have HY2 := Lib.hid hy2
 have HR := Lib.hid hR
 obtain ⟨r0, hlet_r0⟩ : ∃ r, r = areRules rs := ⟨_, rfl⟩
 have H0 := Lib.hid hlet_r0
 clear hlet_r0
 clear h hR hy1 hy2
 go_enter Tryz.func22, Tryz.ntmps22
 go_wp2_with fail
 refine (areRulesS_b _ _ rs (HY1.out.below bwT) r0 H0.out).mono ?_
 rintro e2 w2 ⟨rfl, hbw2⟩
 have hpw2 : Below w.heap.size w w2 := Below.after bwT hbw2 szT
 have sw2 := hpw2.size
 have hBw2 : Below w.heap.size w w2 := hpw2
 have l_y : w.heap.size < w2.heap.size := by have := hbw2.size; simp at this; omega
 have q_y0 : w2.cell? ⟨w.heap.size, 0, none⟩ = some (.slice ra rn rcap) := oldc hbw2 ltT (by simp [go_sem])
 have q_y1 : w2.cell? ⟨w.heap.size, 1, none⟩ = some (.slice ea es.length ecap) := oldc hbw2 ltT (by simp [go_sem])
 clear hbw2 hpw2
 cases r0
 ·have HF := Lib.hid (show R = false by rw [HR.out, isTerm, ← H0.out]; rfl)
  clear HR HY1 HY2 H0
  go_wp2
  go_ret
  exact ⟨ret_bool HF.out.symm, hBw2⟩
 by_cases hl : es.length ≤ 60
 rotate_left
 ·have HF := Lib.hid (show R = false by rw [HR.out, isTerm]; dsimp only; rw [decide_eq_false hl]; simp)
  have n1 : (60 : Int) < (es.length : Int) := by omega
  have n2 : 60 < es.length := by omega
  clear HR HY1 HY2 H0 hl
  go_wp2
  go_ret
  exact ⟨ret_bool HF.out.symm, hBw2⟩
 have n1 : ¬ (60 : Int) < (es.length : Int) := by omega
 have n2 : ¬ 60 < es.length := by omega
 have HRS := Lib.hid (areRules_facts H0.out.symm).2.1
 obtain ⟨Wq, hWq⟩ : ∃ W : World, W = w2 := ⟨_, rfl⟩
 subst hWq
 have hBq : Below w.heap.size w Wq := hBw2
 have qy0 := q_y0
 have qy1 := q_y1
 have lq : w.heap.size < Wq.heap.size := l_y
 clear q_y0 q_y1 l_y
 go_wp2
 go_loopw [3, 4, 5, 19] (fun _ _ _ s19 wr => ∃ i : Nat, i ≤ es.length ∧ s19 = .int .i64 i ∧ Hid ((es.take i).all (entOk rs) = true) ∧ Hid (((es.take i).map (·.1)).Nodup) ∧ Below Wq.heap.size Wq wr) (fun _ _ _ s19 _ => es.length - (intOf s19).toNat)
 case atStart => exact ⟨0, Nat.zero_le _, rfl, Lib.hid rfl, Lib.hid List.nodup_nil, Below.refl _ _⟩
 case round =>
  obtain ⟨wb, hwb⟩ : ∃ wm : World, wm = wr := ⟨_, rfl⟩
  subst hwb
  obtain ⟨i, hi1, rfl, hA, hN, hbb⟩ := hrel
  have sbb := hbb.size
  have hBb : Below w.heap.size w wb := hBq.trans (hbb.mono hBq.size)
  have yb0 := oldc hbb lq qy0
  have yb1 := oldc hbb lq qy1
  by_cases hli : i < es.length
  ·have hI : (i : Int) < (es.length : Int) := by omega
   obtain ⟨xb, xoff, tye, tyl, tm, vtyl, rfl, hx, c0, c1, c2, gI, gS, htl, hri, -, -, hbl⟩ := (HY2.out.below hBb).dEnt_at hli
   obtain ⟨xao, xn, xcap, rfl, -⟩ := htl.shape
   have HX := Lib.hid hx.out
   have HTL := Lib.hid htl
   have HTM := Lib.hid gS
   have HI64 := Lib.hid gI
   obtain ⟨ok, hlet_ok⟩ : ∃ r, r = entOk rs ((tye, tyl), tm) := ⟨_, rfl⟩
   have HF := Lib.hid hlet_ok
   clear hlet_ok
   clear hx gI gS htl hri
   obtain ⟨WE, hWE⟩ : ∃ W : World, W = wb.alloc (.cells #[.int .i64 tye, .slice xao xn xcap, .string tm] 43) := ⟨_, rfl⟩
   have hBE : Below wb.heap.size wb WE := by subst hWE; exact bwT
   have e0 : WE.cell? ⟨wb.heap.size, 0, none⟩ = some (.int .i64 tye) := by subst hWE; simp [go_sem]
   have e1 : WE.cell? ⟨wb.heap.size, 1, none⟩ = some (.slice xao xn xcap) := by subst hWE; simp [go_sem]
   have e2 : WE.cell? ⟨wb.heap.size, 2, none⟩ = some (.string tm) := by subst hWE; simp [go_sem]
   have le : wb.heap.size < WE.heap.size := by subst hWE; simp
   have hBwE : Below w.heap.size w WE := hBb.trans (hBE.mono hBb.size)
   have hqE : Below Wq.heap.size Wq WE := hbb.trans (hBE.mono sbb)
   have y0 := oldc hBE (by omega) yb0
   have y1 := oldc hBE (by omega) yb1
   have ly : w.heap.size < WE.heap.size := by omega
   have HTE := Lib.hid (HTL.out.below hBE)
   go_upto_region 6 with fail
   rw [← hWE]
   clear hWE c0 c1 c2 HTL yb0 yb1
   go_cut [44] (fun s44 wx => s44 = .bool (!ok) ∧ Below WE.heap.size WE wx)
   case first =>
    clear HR hA hN HX
    obtain ⟨b1, hlet_b1⟩ : ∃ r, r = nameOk tm := ⟨_, rfl⟩
    have HB1 := Lib.hid hlet_b1
    clear hlet_b1
    obtain ⟨b2, hlet_b2⟩ : ∃ r, r = isKin (tye, tyl) := ⟨_, rfl⟩
    have HB2 := Lib.hid hlet_b2
    clear hlet_b2
    obtain ⟨b3, hlet_b3⟩ : ∃ r, r = decide (nf rs (tye, tyl) = ((tye, tyl) : Kin)) := ⟨_, rfl⟩
    have HB3 := Lib.hid hlet_b3
    clear hlet_b3
    have HE := Lib.hid (show ok = (b1 && (b2 && b3)) by rw [HF.out, entOk, HB1.out, HB2.out, HB3.out]; congr 2; exact decide_eq_decide.2 ⟨Eq.symm, Eq.symm⟩)
    clear HF
    cases b1
    ·have hr0 : ok = false := by rw [HE.out]; rfl
     clear HE
     refine wp_region_held_drew (S := (fun w' => w'.cell? ⟨wb.heap.size, 0, none⟩ = some (.int .i64 tye) ∧ w'.cell? ⟨wb.heap.size, 1, none⟩ = some (.slice xao xn xcap) ∧ w'.cell? ⟨wb.heap.size, 2, none⟩ = some (.string tm) ∧ w'.cell? ⟨w.heap.size, 0, none⟩ = some (.slice ra rn rcap))) (by kernel_rfl) ?_ (fun hHeld => ?_)
     ·first | exact trivial | ((try dsimp only); go_keep)
     refine tkA 0 ?_
     try simp only [Act.put, cA, cB, cC]
     refine tkA 1 ?_
     try simp only [Act.put, cA, cB, cC]
     refine wpAnyH_ready (rs := [2]) (by kernel_rfl) (by simp) ?_
     refine rdR (fun K hK => ?_) ?_
     ·go_simp
      refine (isNameS_b _ tm HTM.out false HB1.out).mono ?_
      rintro e2 w2 ⟨rfl, hb2⟩
      have hp2 : Below WE.heap.size WE w2 := Below.trans (show Below WE.heap.size WE _ from bwT) (hb2.mono szT)
      have hS2 := And.intro (oldc hp2 le e0) (And.intro (oldc hp2 le e1) (And.intro (oldc hp2 le e2) (oldc hp2 ly y0)))
      have sz2 := hp2.size
      have hBw2 : Below w.heap.size w w2 := hBwE.trans (hp2.mono hBwE.size)
      clear hb2
      refine hK.out _ _ ?_ (fun hHeld => ?_)
      ·exact kpT
      clear hK K
      try simp only [Act.put, cA, cB, cC]
      refine tkA 3 ?_
      try simp only [Act.put, cA, cB, cC]
      refine tkA 4 ?_
      try simp only [Act.put, cA, cB, cC]
      refine skR 5 ?_
      try simp only [Act.put, cA, cB, cC]
      refine skR 6 ?_
      try simp only [Act.put, cA, cB, cC]
      refine skR 7 ?_
      try simp only [Act.put, cA, cB, cC]
      refine skR 8 ?_
      try simp only [Act.put, cA, cB, cC]
      refine tkA 9 ?_
      try simp only [Act.put, cA, cB, cC]
      refine tkA 10 ?_
      try simp only [Act.put, cA, cB, cC]
      refine skR 11 ?_
      try simp only [Act.put, cA, cB, cC]
      refine skR 13 ?_
      try simp only [Act.put, cA, cB, cC]
      refine skR 16 ?_
      try simp only [Act.put, cA, cB, cC]
      refine skR 12 ?_
      try simp only [Act.put, cA, cB, cC]
      refine skR 14 ?_
      try simp only [Act.put, cA, cB, cC]
      refine skR 17 ?_
      try simp only [Act.put, cA, cB, cC]
      refine skR 15 ?_
      try simp only [Act.put, cA, cB, cC]
      refine skR 18 ?_
      try simp only [Act.put, cA, cB, cC]
      refine skR 19 ?_
      try simp only [Act.put, cA, cB, cC]
      refine tkA 20 ?_
      try simp only [Act.put, cA, cB, cC]
      refine wpAnyH_done (by kernel_rfl) ?_ _
      go_wp2_with fail
      go_meet
      exact ⟨by rw [hr0]; rfl, bwT⟩
     exact AllReadyH.nil
    cases b2
    ·have hr0 : ok = false := by rw [HE.out]; rfl
     clear HE
     refine wp_region_held_drew (S := (fun w' => w'.cell? ⟨wb.heap.size, 0, none⟩ = some (.int .i64 tye) ∧ w'.cell? ⟨wb.heap.size, 1, none⟩ = some (.slice xao xn xcap) ∧ w'.cell? ⟨wb.heap.size, 2, none⟩ = some (.string tm) ∧ w'.cell? ⟨w.heap.size, 0, none⟩ = some (.slice ra rn rcap))) (by kernel_rfl) ?_ (fun hHeld => ?_)
     ·first | exact trivial | ((try dsimp only); go_keep)
     refine tkA 0 ?_
     try simp only [Act.put, cA, cB, cC]
     refine tkA 1 ?_
     try simp only [Act.put, cA, cB, cC]
     refine wpAnyH_ready (rs := [2]) (by kernel_rfl) (by simp) ?_
     refine rdR (fun K hK => ?_) ?_
     ·go_simp
      refine (isNameS_b _ tm HTM.out true HB1.out).mono ?_
      rintro e2 w2 ⟨rfl, hb2⟩
      have hp2 : Below WE.heap.size WE w2 := Below.trans (show Below WE.heap.size WE _ from bwT) (hb2.mono szT)
      have hS2 := And.intro (oldc hp2 le e0) (And.intro (oldc hp2 le e1) (And.intro (oldc hp2 le e2) (oldc hp2 ly y0)))
      have sz2 := hp2.size
      have hBw2 : Below w.heap.size w w2 := hBwE.trans (hp2.mono hBwE.size)
      clear hb2
      refine hK.out _ _ ?_ (fun hHeld => ?_)
      ·exact kpT
      clear hK K
      try simp only [Act.put, cA, cB, cC]
      refine tkA 3 ?_
      try simp only [Act.put, cA, cB, cC]
      refine tkA 4 ?_
      try simp only [Act.put, cA, cB, cC]
      refine tkA 5 ?_
      try simp only [Act.put, cA, cB, cC]
      refine tkA 6 ?_
      try simp only [Act.put, cA, cB, cC]
      refine wpAnyH_ready (rs := [7]) (by kernel_rfl) (by simp) ?_
      refine rdR (fun K hK => ?_) ?_
      ·go_simp
       refine (isTypeS_b _ _ _ (tye, tyl) (Rd.kin_mk HI64.out (HTE.out.below ?b1)) false HB2.out).mono ?_
       case b1 => exact bwT
       rintro e7 w7 ⟨rfl, hb7⟩
       have hp7 : Below WE.heap.size WE w7 := Below.trans (show Below WE.heap.size WE _ from bwT) (hb7.mono szT)
       have hS7 := And.intro (oldc hp7 le e0) (And.intro (oldc hp7 le e1) (And.intro (oldc hp7 le e2) (oldc hp7 ly y0)))
       have sz7 := hp7.size
       have hBw7 : Below w.heap.size w w7 := hBwE.trans (hp7.mono hBwE.size)
       clear hb7
       refine hK.out _ _ ?_ (fun hHeld => ?_)
       ·exact kpT
       clear hK K
       try simp only [Act.put, cA, cB, cC]
       refine tkA 8 ?_
       try simp only [Act.put, cA, cB, cC]
       refine tkA 9 ?_
       try simp only [Act.put, cA, cB, cC]
       refine tkA 10 ?_
       try simp only [Act.put, cA, cB, cC]
       refine skR 11 ?_
       try simp only [Act.put, cA, cB, cC]
       refine skR 13 ?_
       try simp only [Act.put, cA, cB, cC]
       refine skR 16 ?_
       try simp only [Act.put, cA, cB, cC]
       refine skR 12 ?_
       try simp only [Act.put, cA, cB, cC]
       refine skR 14 ?_
       try simp only [Act.put, cA, cB, cC]
       refine skR 17 ?_
       try simp only [Act.put, cA, cB, cC]
       refine skR 15 ?_
       try simp only [Act.put, cA, cB, cC]
       refine skR 18 ?_
       try simp only [Act.put, cA, cB, cC]
       refine skR 19 ?_
       try simp only [Act.put, cA, cB, cC]
       refine tkA 20 ?_
       try simp only [Act.put, cA, cB, cC]
       refine wpAnyH_done (by kernel_rfl) ?_ _
       go_wp2_with fail
       go_meet
       exact ⟨by rw [hr0]; rfl, bwT⟩
      exact AllReadyH.nil
     exact AllReadyH.nil
    have hr0 : ok = b3 := by rw [HE.out]; rfl
    have HR0 := Lib.hid hr0
    clear HE hr0
    refine wp_region_held_drew (S := (fun w' => w'.cell? ⟨wb.heap.size, 0, none⟩ = some (.int .i64 tye) ∧ w'.cell? ⟨wb.heap.size, 1, none⟩ = some (.slice xao xn xcap) ∧ w'.cell? ⟨wb.heap.size, 2, none⟩ = some (.string tm) ∧ w'.cell? ⟨w.heap.size, 0, none⟩ = some (.slice ra rn rcap))) (by kernel_rfl) ?_ (fun hHeld => ?_)
    ·first | exact trivial | ((try dsimp only); go_keep)
    refine tkA 0 ?_
    try simp only [Act.put, cA, cB, cC]
    refine tkA 1 ?_
    try simp only [Act.put, cA, cB, cC]
    refine wpAnyH_ready (rs := [2]) (by kernel_rfl) (by simp) ?_
    refine rdR (fun K hK => ?_) ?_
    ·go_simp
     refine (isNameS_b _ tm HTM.out true HB1.out).mono ?_
     rintro e2 w2 ⟨rfl, hb2⟩
     have hp2 : Below WE.heap.size WE w2 := Below.trans (show Below WE.heap.size WE _ from bwT) (hb2.mono szT)
     have hS2 := And.intro (oldc hp2 le e0) (And.intro (oldc hp2 le e1) (And.intro (oldc hp2 le e2) (oldc hp2 ly y0)))
     have sz2 := hp2.size
     have hBw2 : Below w.heap.size w w2 := hBwE.trans (hp2.mono hBwE.size)
     clear hb2
     refine hK.out _ _ ?_ (fun hHeld => ?_)
     ·exact kpT
     clear hK K
     try simp only [Act.put, cA, cB, cC]
     refine tkA 3 ?_
     try simp only [Act.put, cA, cB, cC]
     refine tkA 4 ?_
     try simp only [Act.put, cA, cB, cC]
     refine tkA 5 ?_
     try simp only [Act.put, cA, cB, cC]
     refine tkA 6 ?_
     try simp only [Act.put, cA, cB, cC]
     refine wpAnyH_ready (rs := [7]) (by kernel_rfl) (by simp) ?_
     refine rdR (fun K hK => ?_) ?_
     ·go_simp
      refine (isTypeS_b _ _ _ (tye, tyl) (Rd.kin_mk HI64.out (HTE.out.below ?b1)) true HB2.out).mono ?_
      case b1 => exact bwT
      rintro e7 w7 ⟨rfl, hb7⟩
      have hp7 : Below WE.heap.size WE w7 := Below.trans (show Below WE.heap.size WE _ from bwT) (hb7.mono szT)
      have hS7 := And.intro (oldc hp7 le e0) (And.intro (oldc hp7 le e1) (And.intro (oldc hp7 le e2) (oldc hp7 ly y0)))
      have sz7 := hp7.size
      have hBw7 : Below w.heap.size w w7 := hBwE.trans (hp7.mono hBwE.size)
      clear hb7
      refine hK.out _ _ ?_ (fun hHeld => ?_)
      ·exact kpT
      clear hK K
      try simp only [Act.put, cA, cB, cC]
      refine tkA 8 ?_
      try simp only [Act.put, cA, cB, cC]
      refine tkA 9 ?_
      try simp only [Act.put, cA, cB, cC]
      refine tkA 10 ?_
      try simp only [Act.put, cA, cB, cC]
      refine tkA 11 ?_
      try simp only [Act.put, cA, cB, cC]
      refine tkA 13 ?_
      try simp only [Act.put, cA, cB, cC]
      refine tkA 16 ?_
      try simp only [Act.put, cA, cB, cC]
      refine tkA 12 ?_
      try simp only [Act.put, cA, cB, cC]
      refine tkA 14 ?_
      try simp only [Act.put, cA, cB, cC]
      refine tkA 17 ?_
      try simp only [Act.put, cA, cB, cC]
      refine wpAnyH_ready (rs := [15]) (by kernel_rfl) (by simp) ?_
      refine rdR (fun K hK => ?_) ?_
      ·go_simp
       refine (nfS_any _ _ _ _ rs (tye, tyl) (HY1.out.below ?b1) (Rd.kin_mk HI64.out (HTE.out.below ?b2)) HRS.out HB2.out.symm).mono ?_
       case b1 => exact bwT
       case b2 => exact bwT
       rintro e15 w15 ⟨na, nb, rfl, hon, hb15⟩
       have hp15 : Below WE.heap.size WE w15 := Below.trans (show Below WE.heap.size WE _ from bwT) (hb15.mono szT)
       have hS15 := And.intro (oldc hp15 le e0) (And.intro (oldc hp15 le e1) (And.intro (oldc hp15 le e2) (oldc hp15 ly y0)))
       have sz15 := hp15.size
       have hBw15 : Below w.heap.size w w15 := hBwE.trans (hp15.mono hBwE.size)
       obtain ⟨rfl, -, hon2⟩ := hon.rd.kin
       obtain ⟨nao, nn, ncap, rfl, -⟩ := hon2.shape
       have HON := Lib.hid hon
       clear hon hon2
       clear hb15
       refine hK.out _ _ ?_ (fun hHeld => ?_)
       ·exact kpT
       clear hK K
       try simp only [Act.put, cA, cB, cC]
       refine wpAnyH_ready (rs := [18]) (by kernel_rfl) (by simp) ?_
       refine rdR (fun K hK => ?_) ?_
       ·go_simp
        refine (eqTypesS_b _ _ _ _ _ (nf rs (tye, tyl)) (tye, tyl) (HON.out.rd.below ?b1) (Rd.kin_mk HI64.out (HTE.out.below ?b2)) b3 HB3.out).mono ?_
        case b1 => exact bwT
        case b2 => exact bwT
        rintro e18 w18 ⟨rfl, hb18⟩
        have hp18 : Below WE.heap.size WE w18 := Below.trans (show Below WE.heap.size WE _ from bwT) (hb18.mono szT)
        have hS18 := And.intro (oldc hp18 le e0) (And.intro (oldc hp18 le e1) (And.intro (oldc hp18 le e2) (oldc hp18 ly y0)))
        have sz18 := hp18.size
        have hBw18 : Below w.heap.size w w18 := hBwE.trans (hp18.mono hBwE.size)
        clear hb18
        refine hK.out _ _ ?_ (fun hHeld => ?_)
        ·exact kpT
        clear hK K
        try simp only [Act.put, cA, cB, cC]
        refine tkA 19 ?_
        try simp only [Act.put, cA, cB, cC]
        refine tkA 20 ?_
        try simp only [Act.put, cA, cB, cC]
        refine wpAnyH_done (by kernel_rfl) ?_ _
        go_wp2_with fail
        go_meet
        exact ⟨by rw [HR0.out], bwT⟩
       exact AllReadyH.nil
      exact AllReadyH.nil
     exact AllReadyH.nil
    exact AllReadyH.nil
   case rest =>
    obtain ⟨rfl, hbX⟩ := hcut
    obtain ⟨WX, hWX⟩ : ∃ W : World, W = wc := ⟨_, rfl⟩
    subst hWX
    have sX := hbX.size
    have hBX : Below w.heap.size w WX := hBwE.trans (hbX.mono hBwE.size)
    have hqX : Below Wq.heap.size Wq WX := hqE.trans (hbX.mono hqE.size)
    have f0 := oldc hbX le e0
    have f1 := oldc hbX le e1
    have f2 := oldc hbX le e2
    have y0 := oldc hbX ly y0
    have y1 := oldc hbX ly y1
    have lyX := Nat.lt_of_lt_of_le ly sX
    have leX := Nat.lt_of_lt_of_le le sX
    clear e0 e1 e2
    cases ok
    ·have HFF := Lib.hid (show R = false by rw [HR.out]; exact isTerm_bad HX.out HF.out.symm)
     clear HR hA hN HX HF HTE
     go_wp2
     go_ret
     exact ⟨ret_bool HFF.out.symm, hBX⟩
    ·have HA := Lib.hid (take_all HX.out hA.out HF.out.symm)
     clear hA HF
     go_wp2
     go_loopw [5] (fun s51 wr => ∃ k : Nat, k ≤ i ∧ s51 = .int .i64 k ∧ Hid (∀ x ∈ es.take k, x.1 ≠ (tye, tyl)) ∧ Below WX.heap.size WX wr) (fun s51 _ => i - (intOf s51).toNat)
     case atStart => exact ⟨0, Nat.zero_le _, rfl, Lib.hid (by simp), Below.refl _ _⟩
     case round =>
      obtain ⟨wd, hwd⟩ : ∃ wm : World, wm = wr := ⟨_, rfl⟩
      subst hwd
      obtain ⟨k, hk1, rfl, hD, hXd⟩ := hrel
      have sXd := hXd.size
      have hBd : Below w.heap.size w wd := hBX.trans (hXd.mono hBX.size)
      have hEd : Below WE.heap.size WE wd := hbX.trans (hXd.mono sX)
      have f0 := oldc hXd leX f0
      have f1 := oldc hXd leX f1
      have f2 := oldc hXd leX f2
      have y1 := oldc hXd lyX y1
      have lyd := Nat.lt_of_lt_of_le lyX sXd
      have led := Nat.lt_of_lt_of_le leX sXd
      by_cases hki : k < i
      ·have hK : (k : Int) < (i : Int) := by omega
       have hK2 : (k : Int) < (es.length : Int) := by omega
       obtain ⟨xb2, xoff2, oe, ol, om, vol, eb, hox, d0, d1, d2, goI, goS, hol, hori, -, -, xbl⟩ := (HY2.out.below hBd).dEnt_at (i := k) (show k < es.length by omega)
       simp only [Option.some.injEq, Addr.mk.injEq, and_true] at eb
       obtain ⟨rfl, rfl⟩ := eb
       obtain ⟨oao, on, ocap, rfl, -⟩ := hol.shape
       have HOX := Lib.hid hox.out
       have HOT := Lib.hid (Rd.kin_mk goI hol)
       obtain ⟨r1, hlet_r1⟩ : ∃ r, r = decide (((oe, ol) : Kin) = (tye, tyl)) := ⟨_, rfl⟩
       have H1 := Lib.hid hlet_r1
       clear hlet_r1
       clear hox goI goS hol hori
       go_upto_region 11 with fail
       go_region_held3 (fun w' => w'.cell? ⟨w.heap.size, 1, none⟩ = some (.slice (some ⟨xb, xoff, none⟩) es.length ecap) ∧ w'.cell? ⟨xb, xoff + k * 3, none⟩ = some (.int .i64 oe) ∧ w'.cell? ⟨xb, xoff + k * 3 + 1, none⟩ = some (.slice oao on ocap) ∧ w'.cell? ⟨wb.heap.size, 0, none⟩ = some (.int .i64 tye) ∧ w'.cell? ⟨wb.heap.size, 1, none⟩ = some (.slice xao xn xcap)) (go_keep) (first | (go_at_call 57; refine (eqTypesS_b _ _ _ _ _ (oe, ol) (tye, tyl) (HOT.out.below bwT) (Rd.kin_mk HI64.out ((HTE.out.below hEd).below bwT)) r1 H1.out).mono ?_; rintro e w2 ⟨rfl, hb2⟩; have hd2 : Below wd.heap.size wd w2 := Below.trans (show Below wd.heap.size wd _ from bwT) (hb2.mono (by simp)); have hX2 : Below WX.heap.size WX w2 := Below.after hXd hd2 sXd; have hB2 : Below w.heap.size w w2 := hBX.trans (hX2.mono hBX.size); have y1 := oldc hd2 lyd y1; have d0 := oldc hd2 xbl d0; have d1 := oldc hd2 xbl d1; have f0 := oldc hd2 led f0; have f1 := oldc hd2 led f1; clear hb2 hd2))
       cases r1
       ·have HD := Lib.hid (show ∀ x ∈ es.take (k + 1), x.1 ≠ (tye, tyl) by
         rw [take_snoc HOX.out]
         intro x hx
         rcases List.mem_append.1 hx with hx | hx
         ·exact hD.out x hx
         ·simp at hx; subst hx; exact of_decide_eq_false H1.out.symm)
        clear hD HOX HOT H1
        go_wp2
        go_roundw
        case rel => first | exact ⟨k + 1, by omega, by go_num, HD, hX2⟩ | exact ⟨_, _, _, _, _, _, _, _, _, _, _, _, ⟨k + 1, by omega, by go_num, HD, hX2⟩, rfl⟩ | exact ⟨_, _, _, _, _, _, _, _, _, _, _, _, _, _, _, _, ⟨k + 1, by omega, by go_num, HD, hX2⟩, rfl⟩
        case measure => simp [intOf]; omega
       ·have HFF := Lib.hid (show R = false by
         rw [HR.out]
         refine isTerm_dup HX.out ?_
         rw [List.mem_map]
         exact ⟨((oe, ol), om), List.mem_of_getElem? (i := k) (show (es.take i)[k]? = some ((oe, ol), om) by rw [List.getElem?_take, if_pos hki]; exact HOX.out), of_decide_eq_true H1.out.symm⟩)
        clear hD HOX HOT H1 HR HX HTE
        go_wp2
        go_ret
        exact ⟨ret_bool HFF.out.symm, hB2⟩
      ·obtain rfl : k = i := by omega
       have hK : ¬ (k : Int) < (k : Int) := by omega
       have HN := Lib.hid (take_nodupE HX.out hN.out hD.out)
       clear hD hN HX
       go_wp2
       go_roundw
       case rel => exact ⟨k + 1, by omega, by go_num, HA, HN, hqX.trans (hXd.mono hqX.size)⟩
       case measure => simp [intOf]; omega
  ·have hI : ¬ (i : Int) < (es.length : Int) := by omega
   have HFF := Lib.hid (show R = true by rw [HR.out]; exact isTerm_end (by omega) H0.out.symm hl hA.out hN.out)
   clear HR hA hN
   go_wp2
   go_ret
   exact ⟨ret_bool HFF.out.symm, hBb⟩
theorem find_at {α : Type} {p : α → Bool} {xs : List α} {i : Nat} {x : α} (h : xs[i]? = some x) (hp : p x = true) (hn : ∀ y ∈ xs.take i, p y = false) : xs.find? p = some x := by
 rw [← List.take_append_drop i xs, drop_cons h, List.find?_append, List.find?_eq_none.2 (fun y hy => by rw [hn y hy]; decide), List.find?_cons_of_pos hp]; rfl
theorem find_none {α : Type} {p : α → Bool} {xs : List α} {i : Nat} (hi : xs.length ≤ i) (hn : ∀ y ∈ xs.take i, p y = false) : xs.find? p = none := by
 rw [List.take_of_length_le hi] at hn
 exact List.find?_eq_none.2 (fun y hy => by rw [hn y hy]; decide)
def tmText (o : Option ByteArray) : ByteArray := match o with | some s => s | none => ByteArray.empty
set_option maxRecDepth 20000 in
set_option maxHeartbeats 16000000 in
theorem termI_any {z z1 : Bool} {lo hi lo1 hi1 : Nat} (w : World) (y1 y2 a b : Value) (rs : List Rul) (es : List Ent) (t : Kin) (h : Rd z lo hi w [y1, y2] ((rs, es) : Trm)) (h' : Rd z1 lo1 hi1 w [a, b] t) (hr : allRules rs) (ht : isKin t = true) (o : Option ByteArray) (ho : o = termOf (rs, es) t) :
  Calls Tryz.prog 44 #[.agg #[y1, y2], .agg #[a, b]] w (PostV w (.tuple #[.string (tmText o), .bool o.isSome])) := by
 obtain ⟨hy1, hy2⟩ := h.two rfl
 dsimp only at hy1 hy2
 obtain ⟨ra, rn, rcap, rfl, -⟩ := hy1.shape
 obtain ⟨ea, en, ecap, rfl, hen, henc, hecm, -⟩ := hy2.shape
 subst hen
 unfold maxLen at hecm
 have HT := Lib.hid h'
 obtain ⟨rfl, -, hb⟩ := h'.kin
 obtain ⟨sao, sn, scap, rfl, -⟩ := hb.shape
 have HRS := Lib.hid hr
 have HK := Lib.hid ht
 obtain ⟨N, hN⟩ : ∃ N, N = nf rs t := ⟨_, rfl⟩
 have HNK := Lib.hid (show isKin N = true by rw [hN]; exact nf_kin hr ht)
 have HO := Lib.hid (show o = (es.find? (entFits N)).map (·.2) by rw [ho, termOf, hN])
 have HNN := Lib.hid hN.symm
 have HY1 := Lib.hid hy1
 have HY2 := Lib.hid hy2
 clear h h' hb hr ht hN ho hy1 hy2
 go_enter Tryz.func44, Tryz.ntmps44
 go_wp2_with fail
 refine (nfI_any _ _ _ _ rs t (HY1.out.below bwT) (HT.out.below bwT) HRS.out HK.out).mono ?_
 rintro e3 w3 ⟨na, nb, rfl, hn0, hbw3⟩
 have hpw3 : Below w.heap.size w w3 := Below.after bwT hbw3 szT
 have sw3 := hpw3.size
 have hBw3 : Below w.heap.size w w3 := hpw3
 have l_y : w.heap.size < w3.heap.size := by have := hbw3.size; simp at this; omega
 have q_y0 : w3.cell? ⟨w.heap.size, 0, none⟩ = some (.slice ra rn rcap) := oldc hbw3 ltT (by simp [go_sem])
 have q_y1 : w3.cell? ⟨w.heap.size, 1, none⟩ = some (.slice ea es.length ecap) := oldc hbw3 ltT (by simp [go_sem])
 have l_t : w.heap.size + 1 < w3.heap.size := by have := hbw3.size; simp at this; omega
 have q_t0 : w3.cell? ⟨w.heap.size + 1, 0, none⟩ = some (.int .i64 t.1) := oldc hbw3 ltT (by simp [go_sem])
 have q_t1 : w3.cell? ⟨w.heap.size + 1, 1, none⟩ = some (.slice sao sn scap) := oldc hbw3 ltT (by simp [go_sem])
 clear hbw3 hpw3
 rw [HNN.out] at hn0
 obtain ⟨rfl, -, hns⟩ := hn0.rd.kin
 obtain ⟨nao, nn, ncap, rfl, -⟩ := hns.shape
 obtain ⟨W1, hW1⟩ : ∃ W : World, W = w3 := ⟨_, rfl⟩
 subst hW1
 have hBW1 : Below w.heap.size w W1 := hBw3
 obtain ⟨W0, hW0⟩ : ∃ W : World, W = W1.alloc (.cells #[.int .i64 N.1, .slice nao nn ncap] 36) := ⟨_, rfl⟩
 have hB10 : Below W1.heap.size W1 W0 := by subst hW0; exact bwT
 have hB0 : Below w.heap.size w W0 := hBW1.trans (hB10.mono hBW1.size)
 have n0 : W0.cell? ⟨W1.heap.size, 0, none⟩ = some (.int .i64 N.1) := by subst hW0; simp [go_sem]
 have n1 : W0.cell? ⟨W1.heap.size, 1, none⟩ = some (.slice nao nn ncap) := by subst hW0; simp [go_sem]
 have ln : W1.heap.size < W0.heap.size := by subst hW0; simp
 have y0 := oldc hB10 l_y q_y0
 have y1 := oldc hB10 l_y q_y1
 have ly := Nat.lt_of_lt_of_le l_y hB10.size
 have HN0 := Lib.hid (hn0.below hB10)
 go_upto_region 2 with fail
 rw [← hW0]
 clear hW0 hB10 q_y0 q_y1 q_t0 q_t1 hns hn0
 go_wp2
 go_loopw [8, 16] (fun _ s16 wr => ∃ i : Nat, i ≤ es.length ∧ s16 = .int .i64 i ∧ Hid (∀ x ∈ es.take i, entFits N x = false) ∧ Below W0.heap.size W0 wr) (fun _ s16 _ => es.length - (intOf s16).toNat)
 case atStart => exact ⟨0, Nat.zero_le _, rfl, Lib.hid (by simp), Below.refl _ _⟩
 case round =>
  obtain ⟨wb, hwb⟩ : ∃ wm : World, wm = wr := ⟨_, rfl⟩
  subst hwb
  obtain ⟨i, hi1, rfl, hM, hbb⟩ := hrel
  have sbb := hbb.size
  have hBb : Below w.heap.size w wb := hB0.trans (hbb.mono hB0.size)
  by_cases hli : i < es.length
  ·have hI : (i : Int) < (es.length : Int) := by omega
   obtain ⟨b, off, tye, tyl, tm, vtyl, rfl, hx, c0, c1, c2, gI, gS, htl, hri, -, -, hbl⟩ := (HY2.out.below hBb).dEnt_at hli
   obtain ⟨xao, xn, xcap, rfl, -⟩ := htl.shape
   have HX := Lib.hid hx.out
   have HTL := Lib.hid htl
   obtain ⟨r, hlet_r⟩ : ∃ r, r = entFits N ((tye, tyl), tm) := ⟨_, rfl⟩
   have HF := Lib.hid hlet_r
   clear hlet_r
   clear hx gI gS htl hri
   obtain ⟨WE, hWE⟩ : ∃ W : World, W = wb.alloc (.cells #[.int .i64 tye, .slice xao xn xcap, .string tm] 43) := ⟨_, rfl⟩
   have hBE : Below wb.heap.size wb WE := by subst hWE; exact bwT
   have e0 : WE.cell? ⟨wb.heap.size, 0, none⟩ = some (.int .i64 tye) := by subst hWE; simp [go_sem]
   have e1 : WE.cell? ⟨wb.heap.size, 1, none⟩ = some (.slice xao xn xcap) := by subst hWE; simp [go_sem]
   have e2 : WE.cell? ⟨wb.heap.size, 2, none⟩ = some (.string tm) := by subst hWE; simp [go_sem]
   have le : wb.heap.size < WE.heap.size := by subst hWE; simp
   have hBwE : Below w.heap.size w WE := hBb.trans (hBE.mono hBb.size)
   have h0E : Below W0.heap.size W0 WE := hbb.trans (hBE.mono sbb)
   have m0 := oldc h0E ln n0
   have m1 := oldc h0E ln n1
   have lnE := Nat.lt_of_lt_of_le ln h0E.size
   have HNE := Lib.hid (HN0.out.below h0E)
   have HTE := Lib.hid (HTL.out.below hBE)
   go_upto_region 5 with fail
   rw [← hWE]
   clear hWE c0 c1 c2 HTL
   go_cut [39] (fun s39 wx => s39 = .bool r ∧ Below WE.heap.size WE wx)
   case first =>
    clear HO hM HX
    obtain ⟨b1, hlet_b1⟩ : ∃ r, r = decide (tyl = N.2) := ⟨_, rfl⟩
    have HB1 := Lib.hid hlet_b1
    clear hlet_b1
    have HE := Lib.hid (show r = (b1 && decide (tye = 0 ∨ tye = egoOf N)) by rw [HF.out, entFits, HB1.out])
    cases b1
    ·have hr0 : r = false := by rw [HE.out]; rfl
     clear HE HF
     refine wp_region_held_drew (S := (fun w' => w'.cell? ⟨wb.heap.size, 1, none⟩ = some (.slice xao xn xcap) ∧ w'.cell? ⟨W1.heap.size, 1, none⟩ = some (.slice nao nn ncap))) (by kernel_rfl) ?_ (fun hHeld => ?_)
     ·first | exact trivial | ((try dsimp only); go_keep)
     refine tkA 0 ?_
     try simp only [Act.put, cA, cB, cC]
     refine tkA 3 ?_
     try simp only [Act.put, cA, cB, cC]
     refine tkA 1 ?_
     try simp only [Act.put, cA, cB, cC]
     refine tkA 4 ?_
     try simp only [Act.put, cA, cB, cC]
     refine tkA 2 ?_
     try simp only [Act.put, cA, cB, cC]
     refine wpAnyH_ready (rs := [5]) (by kernel_rfl) (by simp) ?_
     refine rdR (fun K hK => ?_) ?_
     ·go_simp
      refine (sameStepsI_b _ _ _ tyl N.2 (HTE.out.below ?b1) (HNE.out.rd.kin.2.2.below ?b2) false HB1.out).mono ?_
      case b1 => exact bwT
      case b2 => exact bwT
      rintro e5 w5 ⟨rfl, hb5⟩
      have hp5 : Below WE.heap.size WE w5 := Below.trans (show Below WE.heap.size WE _ from bwT) (hb5.mono szT)
      have sz5 := hp5.size
      have hS5 := And.intro (oldc hp5 le e1) (oldc hp5 lnE m1)
      clear hb5
      refine hK.out _ _ ?_ (fun hHeld => ?_)
      ·exact kpT
      clear hK K
      try simp only [Act.put, cA, cB, cC]
      refine tkA 6 ?_
      try simp only [Act.put, cA, cB, cC]
      refine skR 7 ?_
      try simp only [Act.put, cA, cB, cC]
      refine skR 8 ?_
      try simp only [Act.put, cA, cB, cC]
      refine skR 9 ?_
      try simp only [Act.put, cA, cB, cC]
      refine skR 10 ?_
      try simp only [Act.put, cA, cB, cC]
      refine skR 11 ?_
      try simp only [Act.put, cA, cB, cC]
      refine skR 12 ?_
      try simp only [Act.put, cA, cB, cC]
      refine skR 15 ?_
      try simp only [Act.put, cA, cB, cC]
      refine skR 13 ?_
      try simp only [Act.put, cA, cB, cC]
      refine skR 16 ?_
      try simp only [Act.put, cA, cB, cC]
      refine skR 14 ?_
      try simp only [Act.put, cA, cB, cC]
      refine skR 17 ?_
      try simp only [Act.put, cA, cB, cC]
      refine skR 18 ?_
      try simp only [Act.put, cA, cB, cC]
      refine tkA 19 ?_
      try simp only [Act.put, cA, cB, cC]
      refine wpAnyH_done (by kernel_rfl) ?_ _
      go_wp2_with fail
      go_meet
      exact ⟨by rw [hr0], bwT⟩
     exact AllReadyH.nil
    by_cases hz : tye = 0
    ·have f1 : (tye == 0) = true := by simpa using hz
     have hr0 : r = true := by rw [HE.out, decide_eq_true (.inl hz)]; rfl
     clear HE HF hz
     refine wp_region_held_drew (S := (fun w' => w'.cell? ⟨wb.heap.size, 0, none⟩ = some (.int .i64 tye) ∧ w'.cell? ⟨wb.heap.size, 1, none⟩ = some (.slice xao xn xcap) ∧ w'.cell? ⟨W1.heap.size, 1, none⟩ = some (.slice nao nn ncap))) (by kernel_rfl) ?_ (fun hHeld => ?_)
     ·first | exact trivial | ((try dsimp only); go_keep)
     refine tkA 0 ?_
     try simp only [Act.put, cA, cB, cC]
     refine tkA 3 ?_
     try simp only [Act.put, cA, cB, cC]
     refine tkA 1 ?_
     try simp only [Act.put, cA, cB, cC]
     refine tkA 4 ?_
     try simp only [Act.put, cA, cB, cC]
     refine tkA 2 ?_
     try simp only [Act.put, cA, cB, cC]
     refine wpAnyH_ready (rs := [5]) (by kernel_rfl) (by simp) ?_
     refine rdR (fun K hK => ?_) ?_
     ·go_simp
      refine (sameStepsI_b _ _ _ tyl N.2 (HTE.out.below ?b1) (HNE.out.rd.kin.2.2.below ?b2) true HB1.out).mono ?_
      case b1 => exact bwT
      case b2 => exact bwT
      rintro e5 w5 ⟨rfl, hb5⟩
      have hp5 : Below WE.heap.size WE w5 := Below.trans (show Below WE.heap.size WE _ from bwT) (hb5.mono szT)
      have sz5 := hp5.size
      have hS5 := And.intro (oldc hp5 le e0) (And.intro (oldc hp5 le e1) (oldc hp5 lnE m1))
      clear hb5
      refine hK.out _ _ ?_ (fun hHeld => ?_)
      ·exact kpT
      clear hK K
      try simp only [Act.put, cA, cB, cC]
      refine tkA 6 ?_
      try simp only [Act.put, cA, cB, cC]
      refine tkA 7 ?_
      try simp only [Act.put, cA, cB, cC]
      refine tkA 8 ?_
      try simp only [Act.put, cA, cB, cC]
      refine tkA 9 ?_
      try simp only [Act.put, cA, cB, cC]
      refine tkA 10 ?_
      try simp only [Act.put, cA, cB, cC]
      refine tkA 11 ?_
      try simp only [Act.put, cA, cB, cC]
      refine skR 12 ?_
      try simp only [Act.put, cA, cB, cC]
      refine skR 15 ?_
      try simp only [Act.put, cA, cB, cC]
      refine skR 13 ?_
      try simp only [Act.put, cA, cB, cC]
      refine skR 16 ?_
      try simp only [Act.put, cA, cB, cC]
      refine skR 14 ?_
      try simp only [Act.put, cA, cB, cC]
      refine skR 17 ?_
      try simp only [Act.put, cA, cB, cC]
      refine tkA 18 ?_
      try simp only [Act.put, cA, cB, cC]
      refine tkA 19 ?_
      try simp only [Act.put, cA, cB, cC]
      refine wpAnyH_done (by kernel_rfl) ?_ _
      go_wp2_with fail
      go_meet
      exact ⟨by rw [hr0], bwT⟩
     exact AllReadyH.nil
    ·have f1 : (tye == 0) = false := by simpa using hz
     obtain ⟨eg, hlet_eg⟩ : ∃ r, r = egoOf N := ⟨_, rfl⟩
     have HEG := Lib.hid hlet_eg
     clear hlet_eg
     have f2 : (tye == eg) = r := by rw [HE.out, HEG.out, Bool.true_and, Bool.eq_iff_iff]; simp [hz]
     have HF2 := Lib.hid f2
     clear HE HF hz f2
     refine wp_region_held_drew (S := (fun w' => w'.cell? ⟨wb.heap.size, 0, none⟩ = some (.int .i64 tye) ∧ w'.cell? ⟨wb.heap.size, 1, none⟩ = some (.slice xao xn xcap) ∧ w'.cell? ⟨W1.heap.size, 0, none⟩ = some (.int .i64 N.1) ∧ w'.cell? ⟨W1.heap.size, 1, none⟩ = some (.slice nao nn ncap))) (by kernel_rfl) ?_ (fun hHeld => ?_)
     ·first | exact trivial | ((try dsimp only); go_keep)
     refine tkA 0 ?_
     try simp only [Act.put, cA, cB, cC]
     refine tkA 3 ?_
     try simp only [Act.put, cA, cB, cC]
     refine tkA 1 ?_
     try simp only [Act.put, cA, cB, cC]
     refine tkA 4 ?_
     try simp only [Act.put, cA, cB, cC]
     refine tkA 2 ?_
     try simp only [Act.put, cA, cB, cC]
     refine wpAnyH_ready (rs := [5]) (by kernel_rfl) (by simp) ?_
     refine rdR (fun K hK => ?_) ?_
     ·go_simp
      refine (sameStepsI_b _ _ _ tyl N.2 (HTE.out.below ?b1) (HNE.out.rd.kin.2.2.below ?b2) true HB1.out).mono ?_
      case b1 => exact bwT
      case b2 => exact bwT
      rintro e5 w5 ⟨rfl, hb5⟩
      have hp5 : Below WE.heap.size WE w5 := Below.trans (show Below WE.heap.size WE _ from bwT) (hb5.mono szT)
      have sz5 := hp5.size
      have hS5 := And.intro (oldc hp5 le e0) (And.intro (oldc hp5 le e1) (And.intro (oldc hp5 lnE m0) (oldc hp5 lnE m1)))
      clear hb5
      refine hK.out _ _ ?_ (fun hHeld => ?_)
      ·exact kpT
      clear hK K
      try simp only [Act.put, cA, cB, cC]
      refine tkA 6 ?_
      try simp only [Act.put, cA, cB, cC]
      refine tkA 7 ?_
      try simp only [Act.put, cA, cB, cC]
      refine tkA 8 ?_
      try simp only [Act.put, cA, cB, cC]
      refine tkA 9 ?_
      try simp only [Act.put, cA, cB, cC]
      refine tkA 10 ?_
      try simp only [Act.put, cA, cB, cC]
      refine tkA 11 ?_
      try simp only [Act.put, cA, cB, cC]
      refine tkA 12 ?_
      try simp only [Act.put, cA, cB, cC]
      refine tkA 15 ?_
      try simp only [Act.put, cA, cB, cC]
      refine tkA 13 ?_
      try simp only [Act.put, cA, cB, cC]
      refine tkA 14 ?_
      try simp only [Act.put, cA, cB, cC]
      refine wpAnyH_ready (rs := [16]) (by kernel_rfl) (by simp) ?_
      refine rdR (fun K hK => ?_) ?_
      ·go_simp
       refine (egoI_any _ _ _ N (HNE.out.rd.below ?b1) eg HEG.out).mono ?_
       case b1 => exact bwT
       rintro e6 w6 ⟨rfl, hb6⟩
       have hp6 : Below WE.heap.size WE w6 := Below.trans (show Below WE.heap.size WE _ from bwT) (hb6.mono szT)
       have sz6 := hp6.size
       have hS6 := And.intro (oldc hp6 le e0) (And.intro (oldc hp6 le e1) (And.intro (oldc hp6 lnE m0) (oldc hp6 lnE m1)))
       clear hb6
       refine hK.out _ _ ?_ (fun hHeld => ?_)
       ·exact kpT
       clear hK K
       try simp only [Act.put, cA, cB, cC]
       refine tkA 17 ?_
       try simp only [Act.put, cA, cB, cC]
       refine tkA 18 ?_
       try simp only [Act.put, cA, cB, cC]
       refine tkA 19 ?_
       try simp only [Act.put, cA, cB, cC]
       refine wpAnyH_done (by kernel_rfl) ?_ _
       go_wp2_with fail
       go_meet
       exact ⟨by rw [HF2.out], bwT⟩
      exact AllReadyH.nil
     exact AllReadyH.nil
   case rest =>
    obtain ⟨rfl, hbX⟩ := hcut
    obtain ⟨WX, hWX⟩ : ∃ W : World, W = wc := ⟨_, rfl⟩
    subst hWX
    have e2 := oldc hbX le e2
    have hBX : Below w.heap.size w WX := hBwE.trans (hbX.mono hBwE.size)
    have h0X : Below W0.heap.size W0 WX := h0E.trans (hbX.mono h0E.size)
    clear hbX e0 e1 m0 m1 HNE HTE
    cases r
    ·have HM := Lib.hid (show ∀ x ∈ es.take (i + 1), entFits N x = false by
      rw [take_snoc HX.out]
      intro x hx
      rcases List.mem_append.1 hx with hx | hx
      ·exact hM.out x hx
      ·simp at hx; subst hx; exact HF.out.symm)
     clear hM HX HF
     go_wp2
     go_roundw
     case rel => exact ⟨i + 1, by omega, by go_num, HM, h0X⟩
     case measure => simp [intOf]; omega
    ·have HR := Lib.hid (show o = some tm by rw [HO.out, find_at HX.out HF.out.symm hM.out]; rfl)
     clear hM HX HF HO
     go_wp2
     go_ret2
     exact ⟨by rw [HR.out]; rfl, hBX⟩
  ·have hI : ¬ (i : Int) < (es.length : Int) := by omega
   have HR := Lib.hid (show o = none by rw [HO.out, find_none (by omega) hM.out]; rfl)
   clear hM HO
   go_wp2
   go_ret2
   exact ⟨by rw [HR.out]; rfl, hBb⟩
def tmO (y : Trm) (t : Kin) : Option ByteArray := if (isTerm y && isKin t) = true then termOf y t else none
theorem tmO_none1 {y : Trm} {t : Kin} (h : false = isTerm y) : tmO y t = none := by unfold tmO; rw [← h]; rfl
theorem tmO_none2 {y : Trm} {t : Kin} (h : false = isKin t) : tmO y t = none := by unfold tmO; rw [← h, Bool.and_false]; rfl
theorem tmO_some {y : Trm} {t : Kin} (h : true = isTerm y) (h' : true = isKin t) : tmO y t = termOf y t := by unfold tmO; rw [← h, ← h']; rfl
set_option maxHeartbeats 4000000 in
theorem termForI_any {z z1 : Bool} {lo hi lo1 hi1 : Nat} (w : World) (y1 y2 a b : Value) (y : Trm) (t : Kin) (h : Rd z lo hi w [y1, y2] y) (h' : Rd z1 lo1 hi1 w [a, b] t) (o : Option ByteArray) (ho : o = tmO y t) :
  Calls Tryz.prog 15 #[.agg #[y1, y2], .agg #[a, b]] w (PostV w (.tuple #[.string (tmText o), .bool o.isSome])) := by
 obtain ⟨rs, es⟩ := y
 have HY := Lib.hid h
 obtain ⟨hy1, hy2⟩ := h.two rfl
 dsimp only at hy1 hy2
 obtain ⟨ra, rn, rcap, rfl, -⟩ := hy1.shape
 obtain ⟨ea, en, ecap, rfl, -⟩ := hy2.shape
 have HT := Lib.hid h'
 obtain ⟨rfl, -, hb⟩ := h'.kin
 obtain ⟨sao, sn, scap, rfl, -⟩ := hb.shape
 obtain ⟨r1, hlet_r1⟩ : ∃ r, r = isTerm (rs, es) := ⟨_, rfl⟩
 have H1 := Lib.hid hlet_r1
 clear hlet_r1
 obtain ⟨r2, hlet_r2⟩ : ∃ r, r = isKin t := ⟨_, rfl⟩
 have H2 := Lib.hid hlet_r2
 clear hlet_r2
 have HO := Lib.hid ho
 clear h h' hy1 hy2 hb ho
 go_enter Tryz.func15, Tryz.ntmps15
 go_wp2_with fail
 refine (isTermI_b _ _ _ rs es (HY.out.below bwT) r1 H1.out).mono ?_
 rintro e5 w5 ⟨rfl, hbw5⟩
 have hpw5 : Below w.heap.size w w5 := Below.after bwT hbw5 szT
 have sw5 := hpw5.size
 have hBw5 : Below w.heap.size w w5 := hpw5
 have l_y : w.heap.size < w5.heap.size := by have := hbw5.size; simp at this; omega
 have q_y0 : w5.cell? ⟨w.heap.size, 0, none⟩ = some (.slice ra rn rcap) := oldc hbw5 ltT (by simp [go_sem])
 have q_y1 : w5.cell? ⟨w.heap.size, 1, none⟩ = some (.slice ea en ecap) := oldc hbw5 ltT (by simp [go_sem])
 have l_t : w.heap.size + 1 < w5.heap.size := by have := hbw5.size; simp at this; omega
 have q_t0 : w5.cell? ⟨w.heap.size + 1, 0, none⟩ = some (.int .i64 t.1) := oldc hbw5 ltT (by simp [go_sem])
 have q_t1 : w5.cell? ⟨w.heap.size + 1, 1, none⟩ = some (.slice sao sn scap) := oldc hbw5 ltT (by simp [go_sem])
 clear hbw5 hpw5
 cases r1
 ·obtain rfl : o = none := by rw [HO.out]; exact tmO_none1 H1.out
  clear HO H1 H2 HY HT
  go_wp2
  go_ret2
  exact ⟨rfl, hBw5⟩
 go_wp2_with fail
 refine (isTypeI_b _ _ _ t (HT.out.below bwT) r2 H2.out).mono ?_
 rintro e6 w6 ⟨rfl, hbw6⟩
 have hpw6 : Below w5.heap.size w5 w6 := Below.after bwT hbw6 szT
 have sw6 := hpw6.size
 have hBw6 : Below w.heap.size w w6 := Below.trans hBw5 (Below.mono hpw6 hBw5.size)
 have q_y0 := oldc hpw6 l_y q_y0
 have q_y1 := oldc hpw6 l_y q_y1
 have q_t0 := oldc hpw6 l_t q_t0
 have q_t1 := oldc hpw6 l_t q_t1
 have l_t := Nat.lt_of_lt_of_le l_t sw6
 have l_y := Nat.lt_of_lt_of_le l_y sw6
 clear hbw6 hpw6
 cases r2
 ·obtain rfl : o = none := by rw [HO.out]; exact tmO_none2 H2.out
  clear HO H1 H2 HY HT
  go_wp2
  go_ret2
  exact ⟨rfl, hBw6⟩
 have HRS := Lib.hid (show allRules rs from (areRules_facts (isTerm_facts H1.out.symm).1).2.1)
 go_wp2_with fail
 refine (termI_any _ _ _ _ _ rs es t (HY.out.below bwT) (HT.out.below bwT) HRS.out H2.out.symm o (HO.out.trans (tmO_some H1.out H2.out))).mono ?_
 rintro e7 w7 ⟨rfl, hbw7⟩
 have hpw7 : Below w6.heap.size w6 w7 := Below.after bwT hbw7 szT
 have sw7 := hpw7.size
 have hBw7 : Below w.heap.size w w7 := Below.trans hBw6 (Below.mono hpw7 hBw6.size)
 have q_y0 := oldc hpw7 l_y q_y0
 have q_y1 := oldc hpw7 l_y q_y1
 have q_t0 := oldc hpw7 l_t q_t0
 have q_t1 := oldc hpw7 l_t q_t1
 have l_t := Nat.lt_of_lt_of_le l_t sw7
 have l_y := Nat.lt_of_lt_of_le l_y sw7
 clear hbw7 hpw7
 clear HO H1 H2 HY HT HRS
 go_wp2
 go_ret2
 exact ⟨rfl, hBw7⟩
theorem termForI_x {z z1 : Bool} {lo hi lo1 hi1 : Nat} (w : World) (y1 y2 a b : Value) (y : Trm) (t : Kin) (h : Rd z lo hi w [y1, y2] y) (h' : Rd z1 lo1 hi1 w [a, b] t) (X : ByteArray) (hX : X = tmText (tmO y t)) (r : Bool) (hr : r = (tmO y t).isSome) :
  Calls Tryz.prog 15 #[.agg #[y1, y2], .agg #[a, b]] w (PostV w (.tuple #[.string X, .bool r])) := by
 subst hX hr
 exact termForI_any w y1 y2 a b y t h h' _ rfl
end Go.Proofs.YtdpkldapobbnpaaGreatDoor
