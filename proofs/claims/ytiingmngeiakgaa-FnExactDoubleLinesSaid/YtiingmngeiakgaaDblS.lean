/- Contract of DoubleLines (spec). -/
import Derived.Test.YtiingmngeiakgaaDbl
namespace Go.Proofs.Ytiingmngeiakgaa
set_option linter.unusedVariables false
set_option linter.unusedSimpArgs false
open Go.RowKit

theorem key_no1 {ps : List Per} {m k : Nat} (h : ¬ fo ps 1 m = fo ps 1 k) : ¬ dkey ps k = dkey ps m := fun e => h (by
  unfold dkey at e
  simp only [Prod.mk.injEq] at e
  exact e.1.symm)
theorem key_no2 {ps : List Per} {m k : Nat} (h : ¬ fo ps 2 m = fo ps 2 k) : ¬ dkey ps k = dkey ps m := fun e => h (by
  unfold dkey at e
  simp only [Prod.mk.injEq] at e
  exact e.2.symm)
theorem key_yes {ps : List Per} {m k : Nat} (h : fo ps 1 m = fo ps 1 k) (h2 : fo ps 2 m = fo ps 2 k) : dkey ps k = dkey ps m := by
  unfold dkey; rw [h, h2]
theorem dgrp_in {ps : List Per} {key : Nat × Nat} {k : Nat} (h : dkey ps k = key) : dgrp ps key (k + 1) = dgrp ps key k ++ [(k : Int)] := by rw [dgrp_succ, if_pos h]
theorem dgrp_out {ps : List Per} {key : Nat × Nat} {k : Nat} (h : ¬ dkey ps k = key) : dgrp ps key (k + 1) = dgrp ps key k := by rw [dgrp_succ, if_neg h, List.append_nil]
set_option maxRecDepth 20000 in
set_option maxHeartbeats 4000000 in
theorem dblS_any {z : Bool} {lo hi : Nat} (w : World) (v v2 : Value) (f : Fam) (h : Rd z lo hi w [v, v2] f) (V : List (List Int)) (hV : V = dblV f) :
    Calls Try.prog 7 #[.agg #[v, v2]] w (PostOw w V) := by
  obtain ⟨ha, -⟩ := h.fam
  obtain ⟨ao, n, cap, rfl, hn, hnc, hcm, hnone⟩ := ha.shape
  subst hn
  unfold maxLen at *
  obtain ⟨r1, hlet_r1⟩ : ∃ r, r = famB f := ⟨_, rfl⟩
  have H1 := Lib.hid hlet_r1
  clear hlet_r1
  have HV := Lib.hid (show V = if r1 = true then sls f.1 f.1.length else [] by rw [hV, dblV, H1.out, sls_eq])
  clear hV
  go_enter Try.func7, Try.ntmps7
  go_wp2_with fail
  refine (isFamS_b _ _ _ f (h.below bwT) r1 H1.out).mono ?_
  rintro e1 w1 ⟨rfl, hbw1⟩
  have hpw1 : Below w.heap.size w w1 := Below.after bwT hbw1 szT
  have sw1 := hpw1.size
  have hBw1 : Below w.heap.size w w1 := hpw1
  have l_f : w.heap.size < w1.heap.size := by have := hbw1.size; simp at this; omega
  have q_f0 : w1.cell? ⟨w.heap.size, 0, none⟩ = some (.slice ao f.1.length cap) := oldc hbw1 ltT (by simp [go_sem])
  have q_f1 : w1.cell? ⟨w.heap.size, 1, none⟩ = some (v2) := oldc hbw1 ltT (by simp [go_sem])
  clear hbw1 hpw1
  cases r1
  · have HF := Lib.hid (show V = [] by rw [HV.out]; rfl)
    clear HV h ha H1
    go_wp2
    go_ret
    exact ⟨_, rfl, by rw [HF.out]; exact Ow.nil _ _ _, bwT⟩
  have HF := Lib.hid (show V = sls f.1 f.1.length by rw [HV.out]; rfl)
  obtain ⟨h40, -, hP, -⟩ := famB_facts H1.out.symm
  have HP := Lib.hid hP
  clear hP HV h
  obtain ⟨W0, hW0⟩ : ∃ W : World, W = w1 := ⟨_, rfl⟩
  subst hW0
  have hB0 : Below w.heap.size w W0 := hBw1
  have s0 := hB0.size
  go_wp2
  go_loopw [3, 14] (fun s5 s20 wr => ∃ m : Nat, m ≤ f.1.length ∧ s20 = .int .i64 m ∧ Hid (GL true W0.heap.size W0.heap.size wr.heap.size wr 43 s5 (sls f.1 m)) ∧ Below W0.heap.size W0 wr) (fun _ s20 _ => f.1.length - (intOf s20).toNat)
  case atStart => exact ⟨0, Nat.zero_le _, rfl, Lib.hid ((GL.lit0 _ _ _ _ _ (Nat.le_refl _)).top), bwT⟩
  case round =>
    obtain ⟨wo, hwo⟩ : ∃ wm : World, wm = wr := ⟨_, rfl⟩
    subst hwo
    obtain ⟨m, hm, rfl, hG, hb⟩ := hrel
    have sO := hb.size
    have q_f0 := oldc hb l_f q_f0
    have q_f1 := oldc hb l_f q_f1
    have l_f := Nat.lt_of_lt_of_le l_f sO
    by_cases hlt : m < f.1.length
    · have hI : (m : Int) < (f.1.length : Int) := by omega
      have hbw : Below w.heap.size w wo := hB0.trans (hb.mono s0)
      obtain ⟨a1, hlet_a1⟩ : ∃ r, r = fo f.1 1 m := ⟨_, rfl⟩
      have HM1 := Lib.hid hlet_a1
      clear hlet_a1
      obtain ⟨a2, hlet_a2⟩ : ∃ r, r = fo f.1 2 m := ⟨_, rfl⟩
      have HM2 := Lib.hid hlet_a2
      clear hlet_a2
      go_wp2
      go_loopw [5, 21] (fun s7 s26 wi => ∃ k : Nat, k ≤ f.1.length ∧ s26 = .int .i64 k ∧ Hid (GL true wo.heap.size wo.heap.size wi.heap.size wi 3 s7 (dgrp f.1 (dkey f.1 m) k)) ∧ Below wo.heap.size wo wi) (fun _ s26 _ => f.1.length - (intOf s26).toNat)
      case atStart => exact ⟨0, Nat.zero_le _, rfl, Lib.hid ((GL.lit0 _ _ _ _ _ (Nat.le_refl _)).top), bwT⟩
      case round =>
        obtain ⟨wi, hwi⟩ : ∃ wm : World, wm = wr := ⟨_, rfl⟩
        subst hwi
        obtain ⟨k, hk, rfl, hL, hbi⟩ := hrel
        have sI := hbi.size
        have q_f0 := oldc hbi l_f q_f0
        have q_f1 := oldc hbi l_f q_f1
        have l_f := Nat.lt_of_lt_of_le l_f sI
        have hbwi : Below w.heap.size w wi := hbw.trans (hbi.mono (by omega))
        by_cases hlk : k < f.1.length
        · have hIk : (k : Int) < (f.1.length : Int) := by omega
          obtain ⟨b1, hlet_b1⟩ : ∃ r, r = fo f.1 1 k := ⟨_, rfl⟩
          have HK1 := Lib.hid hlet_b1
          clear hlet_b1
          obtain ⟨b2, hlet_b2⟩ : ∃ r, r = fo f.1 2 k := ⟨_, rfl⟩
          have HK2 := Lib.hid hlet_b2
          clear hlet_b2
          have HA := Lib.hid (ha.below hbwi)
          obtain ⟨e, he⟩ : ∃ e, e = decide (dkey f.1 k = dkey f.1 m) := ⟨_, rfl⟩
          have HE := Lib.hid he
          clear he
          go_upto_region 11 with fail
          go_cut [39] (fun s39 wx => s39 = .bool e ∧ Below wi.heap.size wi wx)
          case first =>
            clear hG hL
            by_cases e1 : a1 = b1
            · have HE1 := Lib.hid (show fo f.1 1 m = fo f.1 1 k by rw [← HM1.out, ← HK1.out, e1])
              subst e1
              obtain ⟨e2, he2⟩ : ∃ e2, e2 = ((a2 : Int) == (b2 : Int)) := ⟨_, rfl⟩
              have he2' := he2.symm
              have HE2 := Lib.hid (show e = e2 by
                rw [HE.out, he2, Bool.eq_iff_iff, decide_eq_true_eq]
                simp only [beq_iff_eq]
                constructor
                · intro h
                  have h2 := congrArg Prod.snd h
                  simp only [dkey] at h2
                  rw [HM2.out, HK2.out, h2]
                · intro h
                  exact key_yes HE1.out (by rw [← HM2.out, ← HK2.out]; omega))
              clear he2
              refine wp_region_held_drew (S := (fun w' => w'.cell? ⟨w.heap.size, 0, none⟩ = some (.slice ao f.1.length cap) ∧ w'.cell? ⟨w.heap.size, 1, none⟩ = some v2)) (by kernel_rfl) ?_ (fun hHeld => ?_)
              · first | exact trivial | ((try dsimp only); go_keep)
              refine tkR 0 (v := ?_) ?_ ?_
              rotate_left
              · intro w hSw; (try dsimp only at hSw); go_simp <;> with_reducible rfl
              try simp only [Act.put, List.setIfInBounds_toArray, List.set_cons_zero, List.set_cons_succ]
              refine tkR 1 (v := ?_) ?_ ?_
              rotate_left
              · intro w hSw; (try dsimp only at hSw); go_simp <;> with_reducible rfl
              try simp only [Act.put, List.setIfInBounds_toArray, List.set_cons_zero, List.set_cons_succ]
              refine tkR 3 (v := ?_) ?_ ?_
              rotate_left
              · intro w hSw; (try dsimp only at hSw); go_simp <;> with_reducible rfl
              try simp only [Act.put, List.setIfInBounds_toArray, List.set_cons_zero, List.set_cons_succ]
              refine tkR 4 (v := ?_) ?_ ?_
              rotate_left
              · intro w hSw; (try dsimp only at hSw); go_simp <;> with_reducible rfl
              try simp only [Act.put, List.setIfInBounds_toArray, List.set_cons_zero, List.set_cons_succ]
              refine wpAnyH_ready (rs := [2]) (by kernel_rfl) (by simp) ?_
              refine rdR (fun K hK => ?_) ?_
              · go_simp
                refine (l7Founder_any _ _ _ 1 f.1 (HA.out.below ?b0) HP.out m hlt rfl).mono ?_
                case b0 => exact bwT
                rw [← HM1.out]
                rintro e5 w5 ⟨rfl, hb5⟩
                have hp5 : Below wi.heap.size wi w5 := Below.trans (show Below wi.heap.size wi _ from bwT) (hb5.mono szT)
                have s5 := hp5.size
                have hS5 := And.intro (oldc hp5 l_f q_f0) (oldc hp5 l_f q_f1)
                clear hb5
                refine hK.out _ _ ?_ (fun hHeld => ?_)
                · exact kpT
                clear hK K
                try simp only [Act.put, List.setIfInBounds_toArray, List.set_cons_zero, List.set_cons_succ]
                refine wpAnyH_ready (rs := [5]) (by kernel_rfl) (by simp) ?_
                refine rdR (fun K hK => ?_) ?_
                · go_simp
                  refine (l7Founder_any _ _ _ 1 f.1 (HA.out.below ?b0) HP.out k hlk rfl).mono ?_
                  case b0 => exact bwT
                  rw [← HK1.out]
                  rintro e6 w6 ⟨rfl, hb6⟩
                  have hp6 : Below wi.heap.size wi w6 := Below.trans (show Below wi.heap.size wi _ from bwT) (hb6.mono szT)
                  have s6 := hp6.size
                  have hS6 := And.intro (oldc hp6 l_f q_f0) (oldc hp6 l_f q_f1)
                  clear hb6
                  refine hK.out _ _ ?_ (fun hHeld => ?_)
                  · exact kpT
                  clear hK K
                  try simp only [Act.put, List.setIfInBounds_toArray, List.set_cons_zero, List.set_cons_succ]
                  refine tkR 6 (v := ?_) ?_ ?_
                  rotate_left
                  · intro w hSw; (try dsimp only at hSw); go_simp <;> with_reducible rfl
                  try simp only [Act.put, List.setIfInBounds_toArray, List.set_cons_zero, List.set_cons_succ]
                  refine tkR 7 (v := ?_) ?_ ?_
                  rotate_left
                  · intro w hSw; (try dsimp only at hSw); go_simp <;> with_reducible rfl
                  try simp only [Act.put, List.setIfInBounds_toArray, List.set_cons_zero, List.set_cons_succ]
                  refine tkR 8 (v := ?_) ?_ ?_
                  rotate_left
                  · intro w hSw; (try dsimp only at hSw); go_simp <;> with_reducible rfl
                  try simp only [Act.put, List.setIfInBounds_toArray, List.set_cons_zero, List.set_cons_succ]
                  refine tkR 9 (v := ?_) ?_ ?_
                  rotate_left
                  · intro w hSw; (try dsimp only at hSw); go_simp <;> with_reducible rfl
                  try simp only [Act.put, List.setIfInBounds_toArray, List.set_cons_zero, List.set_cons_succ]
                  refine tkR 11 (v := ?_) ?_ ?_
                  rotate_left
                  · intro w hSw; (try dsimp only at hSw); go_simp <;> with_reducible rfl
                  try simp only [Act.put, List.setIfInBounds_toArray, List.set_cons_zero, List.set_cons_succ]
                  refine tkR 12 (v := ?_) ?_ ?_
                  rotate_left
                  · intro w hSw; (try dsimp only at hSw); go_simp <;> with_reducible rfl
                  try simp only [Act.put, List.setIfInBounds_toArray, List.set_cons_zero, List.set_cons_succ]
                  refine wpAnyH_ready (rs := [10]) (by kernel_rfl) (by simp) ?_
                  refine rdR (fun K hK => ?_) ?_
                  · go_simp
                    refine (l7Founder_any _ _ _ 2 f.1 (HA.out.below ?b0) HP.out m hlt rfl).mono ?_
                    case b0 => exact bwT
                    rw [← HM2.out]
                    rintro e7 w7 ⟨rfl, hb7⟩
                    have hp7 : Below wi.heap.size wi w7 := Below.trans (show Below wi.heap.size wi _ from bwT) (hb7.mono szT)
                    have s7 := hp7.size
                    have hS7 := And.intro (oldc hp7 l_f q_f0) (oldc hp7 l_f q_f1)
                    clear hb7
                    refine hK.out _ _ ?_ (fun hHeld => ?_)
                    · exact kpT
                    clear hK K
                    try simp only [Act.put, List.setIfInBounds_toArray, List.set_cons_zero, List.set_cons_succ]
                    refine wpAnyH_ready (rs := [13]) (by kernel_rfl) (by simp) ?_
                    refine rdR (fun K hK => ?_) ?_
                    · go_simp
                      refine (l7Founder_any _ _ _ 2 f.1 (HA.out.below ?b0) HP.out k hlk rfl).mono ?_
                      case b0 => exact bwT
                      rw [← HK2.out]
                      rintro e8 w8 ⟨rfl, hb8⟩
                      have hp8 : Below wi.heap.size wi w8 := Below.trans (show Below wi.heap.size wi _ from bwT) (hb8.mono szT)
                      have s8 := hp8.size
                      have hS8 := And.intro (oldc hp8 l_f q_f0) (oldc hp8 l_f q_f1)
                      clear hb8
                      refine hK.out _ _ ?_ (fun hHeld => ?_)
                      · exact kpT
                      clear hK K
                      try simp only [Act.put, List.setIfInBounds_toArray, List.set_cons_zero, List.set_cons_succ]
                      refine tkR 14 (v := ?_) ?_ ?_
                      rotate_left
                      · intro w hSw; (try dsimp only at hSw); go_simp <;> with_reducible rfl
                      try simp only [Act.put, List.setIfInBounds_toArray, List.set_cons_zero, List.set_cons_succ]
                      refine tkR 15 (v := ?_) ?_ ?_
                      rotate_left
                      · intro w hSw; (try dsimp only at hSw); go_simp <;> with_reducible rfl
                      try simp only [Act.put, List.setIfInBounds_toArray, List.set_cons_zero, List.set_cons_succ]
                      refine wpAnyH_done (by kernel_rfl) ?_ _
                      clear hHeld
                      go_wp2_with fail
                      go_meet
                      exact ⟨by rw [HE2.out], hp8⟩
                    exact AllReadyH.nil
                  exact AllReadyH.nil
                exact AllReadyH.nil
              exact AllReadyH.nil
            · have e1' : ((a1 : Int) == (b1 : Int)) = false := by simp; omega
              have HE2 := Lib.hid (show e = false by rw [HE.out]; exact decide_eq_false (key_no1 (by rw [← HM1.out, ← HK1.out]; exact e1)))
              refine wp_region_held_drew (S := (fun w' => w'.cell? ⟨w.heap.size, 0, none⟩ = some (.slice ao f.1.length cap) ∧ w'.cell? ⟨w.heap.size, 1, none⟩ = some v2)) (by kernel_rfl) ?_ (fun hHeld => ?_)
              · first | exact trivial | ((try dsimp only); go_keep)
              refine tkR 0 (v := ?_) ?_ ?_
              rotate_left
              · intro w hSw; (try dsimp only at hSw); go_simp <;> with_reducible rfl
              try simp only [Act.put, List.setIfInBounds_toArray, List.set_cons_zero, List.set_cons_succ]
              refine tkR 1 (v := ?_) ?_ ?_
              rotate_left
              · intro w hSw; (try dsimp only at hSw); go_simp <;> with_reducible rfl
              try simp only [Act.put, List.setIfInBounds_toArray, List.set_cons_zero, List.set_cons_succ]
              refine tkR 3 (v := ?_) ?_ ?_
              rotate_left
              · intro w hSw; (try dsimp only at hSw); go_simp <;> with_reducible rfl
              try simp only [Act.put, List.setIfInBounds_toArray, List.set_cons_zero, List.set_cons_succ]
              refine tkR 4 (v := ?_) ?_ ?_
              rotate_left
              · intro w hSw; (try dsimp only at hSw); go_simp <;> with_reducible rfl
              try simp only [Act.put, List.setIfInBounds_toArray, List.set_cons_zero, List.set_cons_succ]
              refine wpAnyH_ready (rs := [2]) (by kernel_rfl) (by simp) ?_
              refine rdR (fun K hK => ?_) ?_
              · go_simp
                refine (l7Founder_any _ _ _ 1 f.1 (HA.out.below ?b0) HP.out m hlt rfl).mono ?_
                case b0 => exact bwT
                rw [← HM1.out]
                rintro e5 w5 ⟨rfl, hb5⟩
                have hp5 : Below wi.heap.size wi w5 := Below.trans (show Below wi.heap.size wi _ from bwT) (hb5.mono szT)
                have s5 := hp5.size
                have hS5 := And.intro (oldc hp5 l_f q_f0) (oldc hp5 l_f q_f1)
                clear hb5
                refine hK.out _ _ ?_ (fun hHeld => ?_)
                · exact kpT
                clear hK K
                try simp only [Act.put, List.setIfInBounds_toArray, List.set_cons_zero, List.set_cons_succ]
                refine wpAnyH_ready (rs := [5]) (by kernel_rfl) (by simp) ?_
                refine rdR (fun K hK => ?_) ?_
                · go_simp
                  refine (l7Founder_any _ _ _ 1 f.1 (HA.out.below ?b0) HP.out k hlk rfl).mono ?_
                  case b0 => exact bwT
                  rw [← HK1.out]
                  rintro e6 w6 ⟨rfl, hb6⟩
                  have hp6 : Below wi.heap.size wi w6 := Below.trans (show Below wi.heap.size wi _ from bwT) (hb6.mono szT)
                  have s6 := hp6.size
                  have hS6 := And.intro (oldc hp6 l_f q_f0) (oldc hp6 l_f q_f1)
                  clear hb6
                  refine hK.out _ _ ?_ (fun hHeld => ?_)
                  · exact kpT
                  clear hK K
                  try simp only [Act.put, List.setIfInBounds_toArray, List.set_cons_zero, List.set_cons_succ]
                  refine tkR 6 (v := ?_) ?_ ?_
                  rotate_left
                  · intro w hSw; (try dsimp only at hSw); go_simp <;> with_reducible rfl
                  try simp only [Act.put, List.setIfInBounds_toArray, List.set_cons_zero, List.set_cons_succ]
                  refine tkR 7 (v := ?_) ?_ ?_
                  rotate_left
                  · intro w hSw; (try dsimp only at hSw); go_simp <;> with_reducible rfl
                  try simp only [Act.put, List.setIfInBounds_toArray, List.set_cons_zero, List.set_cons_succ]
                  refine skR 8 ?_
                  try simp only [Act.put, List.setIfInBounds_toArray, List.set_cons_zero, List.set_cons_succ]
                  refine skR 9 ?_
                  try simp only [Act.put, List.setIfInBounds_toArray, List.set_cons_zero, List.set_cons_succ]
                  refine skR 11 ?_
                  try simp only [Act.put, List.setIfInBounds_toArray, List.set_cons_zero, List.set_cons_succ]
                  refine skR 12 ?_
                  try simp only [Act.put, List.setIfInBounds_toArray, List.set_cons_zero, List.set_cons_succ]
                  refine skR 10 ?_
                  try simp only [Act.put, List.setIfInBounds_toArray, List.set_cons_zero, List.set_cons_succ]
                  refine skR 13 ?_
                  try simp only [Act.put, List.setIfInBounds_toArray, List.set_cons_zero, List.set_cons_succ]
                  refine skR 14 ?_
                  try simp only [Act.put, List.setIfInBounds_toArray, List.set_cons_zero, List.set_cons_succ]
                  refine tkR 15 (v := ?_) ?_ ?_
                  rotate_left
                  · intro w hSw; (try dsimp only at hSw); go_simp <;> with_reducible rfl
                  try simp only [Act.put, List.setIfInBounds_toArray, List.set_cons_zero, List.set_cons_succ]
                  refine wpAnyH_done (by kernel_rfl) ?_ _
                  clear hHeld
                  go_wp2_with fail
                  go_meet
                  exact ⟨by rw [HE2.out], hp6⟩
                exact AllReadyH.nil
              exact AllReadyH.nil
          case rest =>
            obtain ⟨rfl, hbX⟩ := hcut
            obtain ⟨w1, hw1⟩ : ∃ W : World, W = wc := ⟨_, rfl⟩
            subst hw1
            have s1 := hbX.size
            have hL := hL.out.below hbX
            have hbi1 : Below wo.heap.size wo w1 := hbi.trans (hbX.mono sI)
            have hlen := dgrp_len f.1 (dkey f.1 m) k
            cases e
            · have HX := Lib.hid (show GL true wo.heap.size wo.heap.size w1.heap.size w1 3 _ (dgrp f.1 (dkey f.1 m) (k + 1)) by rw [dgrp_out (of_decide_eq_false HE.out.symm)]; exact hL.top)
              clear hL HE HA hbX
              go_wp2
              go_roundw
              case rel => exact ⟨k + 1, by omega, by go_num, HX, hbi1⟩
              case measure => simp [intOf]; omega
            · have HX := Lib.hid (show dgrp f.1 (dkey f.1 m) (k + 1) = dgrp f.1 (dkey f.1 m) k ++ [(k : Int)] from dgrp_in (of_decide_eq_true HE.out.symm))
              clear HE HA hbX
              go_wp2_with (at_builtin; refine wpList_push rfl rfl slInt (by show (0 : Nat) < 1; omega) (hL.alloc _) rfl (ad := ⟨w1.heap.size, 0, none⟩) rfl (cs := [.int .i64 k]) (y := (k : Int)) (lx := w1.heap.size) (hx' := w1.heap.size) ?c1 (It.flat (z := true) (w0 := w1) (fp := []) ⟨rfl, ⟨by omega, by omega⟩, rfl⟩) (by omega) (.inl szT) (by unfold maxLen; omega) (by omega) ?c2 ?_)
              case c1 =>
                intro j c hj
                match j, hj with
                | 0, hj => simp at hj; subst hj; simp [Addr.add]
              case c2 => simp; omega
              intro v1 w3 hL3 _ hb3
              have HL3 := Lib.hid (show GL true wo.heap.size wo.heap.size w3.heap.size w3 3 v1 (dgrp f.1 (dkey f.1 m) (k + 1)) by rw [HX.out]; exact hL3)
              have hbi3 : Below wo.heap.size wo w3 := Below.trans bwT hb3
              clear hL hL3 hb3
              go_wp2
              go_roundw
              case rel => exact ⟨k + 1, by omega, by go_num, HL3, hbi3⟩
              case measure => simp [intOf]; omega
        · have hnk : ¬ (k : Int) < (f.1.length : Int) := by omega
          obtain rfl : k = f.1.length := by omega
          have hL := hL.out
          have hlen := dgrp_len f.1 (dkey f.1 m) f.1.length
          obtain ⟨hh, tt, hLh, hhl, hiff⟩ := dgrp_first (ps := f.1) (p := m) (n := f.1.length) hlt
          have HSU := Lib.hid (sls_succ f.1 m)
          obtain ⟨L, hLe⟩ : ∃ L, L = dgrp f.1 (dkey f.1 m) f.1.length := ⟨_, rfl⟩
          rw [← hLe] at hL hlen hLh HSU
          have hG := hG.out.below hbi
          have h0 : 0 < L.length := by rw [hLh]; simp
          have h0I : (0 : Int) < (L.length : Int) := by omega
          obtain ⟨g, cp, rfl, hg1, hg2⟩ := hL.form h0
          obtain ⟨bb, ofs, x0, e5, hx0, hc0, -⟩ := (hL.rd (l0 := 0) (Nat.zero_le _) (Nat.zero_le _)).int_at (i := 0) h0
          simp only [Option.some.injEq, Addr.mk.injEq, and_true] at e5
          obtain ⟨rfl, rfl⟩ := e5
          have hx0e : x0 = (hh : Int) := by have := hx0.out; rw [hLh] at this; simpa using this.symm
          subst hx0e
          rw [Nat.add_zero] at hc0
          have hll := sls_len f.1 m
          have HLH := Lib.hid hLh
          clear hx0 hLe hLh
          by_cases hf : hh = m
          · have HX := Lib.hid (show sls f.1 (m + 1) = sls f.1 m ++ [L] by rw [HSU.out, if_pos (hiff.1 hf)])
            have hI4 := GL.it (l0 := wo.heap.size) hL (Nat.le_refl _) (Nat.le_refl _)
            subst hf
            clear hL HSU hiff HLH
            go_wp2_with (at_builtin; refine wpList_push rfl rfl slInts (by show (0 : Nat) < 1; omega) (hG.alloc _) rfl (ad := ⟨wi.heap.size, 0, none⟩) rfl (cs := [_]) (y := L) (lx := wo.heap.size) (hx' := wi.heap.size) ?d1 (hI4.keep znT) (by omega) (.inl (Nat.le_refl _)) (by unfold maxLen; omega) (by omega) ?d2 ?_)
            case d2 => first | omega | (simp; omega)
            intro v3 w5 hG5 _ hb5
            have HG5 := Lib.hid (show GL true W0.heap.size W0.heap.size w5.heap.size w5 43 v3 (sls f.1 (hh + 1)) by rw [HX.out]; exact hG5)
            have hbo5 : Below W0.heap.size W0 w5 := Below.trans (Below.alloc (hb.trans (hbi.mono sO)) (by omega) _) hb5
            clear hG hG5 hb5 hI4
            go_wp2
            go_roundw
            case rel => exact ⟨hh + 1, by omega, by go_num, HG5, hbo5⟩
            case measure => simp [intOf]; omega
          · have hfI : ((hh : Int) == (m : Int)) = false := by simp; omega
            have HX := Lib.hid (show GL true W0.heap.size W0.heap.size wi.heap.size wi 43 _ (sls f.1 (m + 1)) by
              rw [HSU.out, if_neg (fun h => hf (hiff.2 h)), List.append_nil]; exact hG.top)
            have hbo5 : Below W0.heap.size W0 wi := hb.trans (hbi.mono sO)
            clear hG hL HSU hiff HLH
            go_wp2
            go_roundw
            case rel => exact ⟨m + 1, by omega, by go_num, HX, hbo5⟩
            case measure => simp [intOf]; omega
    · have hnI : ¬ (m : Int) < (f.1.length : Int) := by omega
      obtain rfl : m = f.1.length := by omega
      have HO := Lib.hid (show Ow w.heap.size wo.heap.size wo [_] V by rw [HF.out]; exact GL.ow (l0 := w.heap.size) hG.out s0 s0)
      have hbw : Below w.heap.size w wo := hB0.trans (hb.mono s0)
      clear hG
      go_wp2
      go_ret
      exact ⟨_, rfl, HO.out, hbw⟩
end Go.Proofs.Ytiingmngeiakgaa
