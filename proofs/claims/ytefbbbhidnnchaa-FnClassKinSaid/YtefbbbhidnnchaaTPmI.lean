/- Contracts of TypePermutation (impl) and what it calls. -/
import Derived.Test.YtefbbbhidnnchaaZ14W
namespace Go.Proofs.Ytefbbbhidnnchaa
set_option linter.unusedVariables false
set_option linter.unusedSimpArgs false
open Go.RowKit

/-- One value that can be read comes back. -/
def PostRd {α : Type} [Rep α] (w : World) (x : α) (e : Ending) (w' : World) : Prop := ∃ u, e = .returned u ∧ Rd false 0 w'.heap.size w' [u] x ∧ Below w.heap.size w w'
set_option maxHeartbeats 1000000 in
theorem sexBeforeI_any {z : Bool} {lo hi : Nat} (w : World) (a b : Value) (t : Kin) (h : Rd z lo hi w [a, b] t) (ht : isKin t = true) (i : Nat) (hi' : i < t.2.length) (R : Int) (hR : R = sexAt t i) : Calls Try.prog 56 #[.agg #[a, b], .int .i64 i] w (PostI w R) := by
  obtain ⟨rfl, hI, hb⟩ := h.kin
  have HR := Lib.hid hR
  have HK := Lib.hid (isKin_facts ht)
  clear hR ht
  cases i with
  | zero =>
    have HE := Lib.hid (show R = egoOf t from HR.out)
    clear HR HK
    go_enter Try.func56, Try.ntmps56
    go_wp2_with fail
    refine (egoI_any _ _ _ t (h.below bwT) R HE.out).mono ?_
    rintro e1 w1 ⟨rfl, hbw1⟩
    have hpw1 : Below w.heap.size w w1 := Below.after bwT hbw1 szT
    have sw1 := hpw1.size
    have hBw1 : Below w.heap.size w w1 := hpw1
    have l_t : w.heap.size < w1.heap.size := by have := hbw1.size; simp at this; omega
    have q_t0 : w1.cell? ⟨w.heap.size, 0, none⟩ = some (.int .i64 t.1) := oldc hbw1 ltT (by simp [go_sem])
    have q_t1 : w1.cell? ⟨w.heap.size, 1, none⟩ = some (b) := oldc hbw1 ltT (by simp [go_sem])
    clear hbw1 hpw1
    clear h hb
    go_wp2
    go_ret
    exact ⟨rfl, hBw1⟩
  | succ i =>
    obtain ⟨ao, n, cap, rfl, hn, hnc, hcm, hnone⟩ := hb.shape
    subst hn
    obtain ⟨sb, soff, ki, ag, rfl, hx, c0, c1, -, -, -, -, sbl, -⟩ := hb.stp_at (i := i) (show i < t.2.length by omega)
    have hki := (HK.out.2.2.2 _ (List.mem_of_getElem? hx.out)).1
    have HX := Lib.hid (show R = stSex ki by rw [HR.out, sexAt_succ hx.out])
    obtain ⟨iv, hiv⟩ : ∃ iv : Int, iv = ((i + 1 : Nat) : Int) := ⟨_, rfl⟩
    rw [← hiv]
    have n0 : (iv == 0) = false := by simp; omega
    have q : wrap64 (i : Int) = (i : Int) := IntWalk.wrap64_in _ (by unfold maxLen at hcm; omega)
    have q2 : iv - 1 = (i : Int) := by omega
    have hil : (i : Int) < (t.2.length : Int) := by omega
    dsimp only at hki
    clear HR HK h hb hx hiv
    go_enter Try.func56, Try.ntmps56
    go_wp2_with fail
    refine (stepSexI_any _ ki hki).mono ?_
    rintro e2 w2 ⟨rfl, hbw2⟩
    have hpw2 : Below w.heap.size w w2 := Below.after bwT hbw2 szT
    have sw2 := hpw2.size
    have hBw2 : Below w.heap.size w w2 := hpw2
    have l_t : w.heap.size < w2.heap.size := by have := hbw2.size; simp at this; omega
    have q_t0 : w2.cell? ⟨w.heap.size, 0, none⟩ = some (.int .i64 t.1) := oldc hbw2 ltT (by simp [go_sem])
    have q_t1 : w2.cell? ⟨w.heap.size, 1, none⟩ = some (.slice (some ⟨sb, soff, none⟩) t.2.length cap) := oldc hbw2 ltT (by simp [go_sem])
    clear hbw2 hpw2
    rw [← HX.out]
    go_wp2
    go_ret
    exact ⟨rfl, hBw2⟩
set_option maxRecDepth 20000 in
set_option maxHeartbeats 4000000 in
theorem stepPmI_any {z : Bool} {lo hi : Nat} (w : World) (u v : Value) (c : Cls) (h : Rd z lo hi w [u, v] c) (hc : isCls c = true) (k sex : Int) (hk : 1 ≤ k ∧ k ≤ 8) : Calls Try.prog 55 #[.agg #[u, v], .int .i64 k, .int .i64 sex] w (PostRd w (stepPm c k sex)) := by
  obtain ⟨hw, hq⟩ := h.two rfl
  obtain ⟨bo, n3, dap, rfl, hn3, hnc3, hcm3, hnone3⟩ := hw.shape
  obtain ⟨bo2, n4, dap2, rfl, hn4, hnc4, hcm4, hnone4⟩ := hq.shape
  subst hn3 hn4
  unfold maxLen at *
  obtain ⟨hl0, hl, hp1, hp2, ok1, ok2⟩ := cls_ok hc
  have HL := Lib.hid hl
  have HR1 := Lib.hid (isPerm_range hp1)
  have HR2 := Lib.hid (isPerm_range hp2)
  have HI12 := Lib.hid (show InRange c.2.length (inv c.1) by rw [hl]; exact inv_range)
  have HI21 := Lib.hid (show InRange c.1.length (inv c.2) by rw [← hl]; exact inv_range)
  have hl2 : c.2.length ≤ 8 := by omega
  have hl1 : c.1.length ≤ 8 := hl0.2
  clear hl0 hl hp1 hp2 ok1 ok2 hc hnone3 hnone4 h
  obtain rfl | rfl | hk34 | hk56 | rfl | rfl : k = 1 ∨ k = 2 ∨ (k = 3 ∨ k = 4) ∨ (k = 5 ∨ k = 6) ∨ k = 7 ∨ k = 8 := by omega
  · clear hk
    rw [show stepPm c 1 sex = inv c.2 from rfl]
    go_enter Try.func55, Try.ntmps55
    go_wp2_with fail
    refine (invI_any _ _ _ (hq.below bwT) (by omega) HR2.out).mono ?_
    rintro e3 w3 ⟨ur, rfl, ho, hbw3⟩
    have hpw3 : Below w.heap.size w w3 := Below.after bwT hbw3 szT
    have sw3 := hpw3.size
    have hBw3 : Below w.heap.size w w3 := hpw3
    have l_c : w.heap.size < w3.heap.size := by have := hbw3.size; simp at this; omega
    have q_c0 : w3.cell? ⟨w.heap.size, 0, none⟩ = some (.slice bo c.1.length dap) := oldc hbw3 ltT (by simp [go_sem])
    have q_c1 : w3.cell? ⟨w.heap.size, 1, none⟩ = some (.slice bo2 c.2.length dap2) := oldc hbw3 ltT (by simp [go_sem])
    clear hbw3 hpw3
    go_wp2
    go_ret
    exact ⟨ur, rfl, ho.rd.weak.all, hBw3⟩
  · clear hk
    rw [show stepPm c 2 sex = comp (inv c.2) c.1 from rfl]
    go_enter Try.func55, Try.ntmps55
    go_upto_region 5 with fail
    refine wp_region_held_drew (S := (fun w' => w'.cell? ⟨w.heap.size, 0, none⟩ = some (.slice bo c.1.length dap) ∧ w'.cell? ⟨w.heap.size, 1, none⟩ = some (.slice bo2 c.2.length dap2))) (by kernel_rfl) ?_ (fun hHeld => ?_)
    · first | exact trivial | ((try dsimp only); go_keep)
    refine tkR 0 (v := ?_) ?_ ?_
    rotate_left
    · intro w hSw; (try dsimp only at hSw); go_simp <;> with_reducible rfl
    try simp only [Act.put, List.setIfInBounds_toArray, List.set_cons_zero, List.set_cons_succ]
    refine tkR 3 (v := ?_) ?_ ?_
    rotate_left
    · intro w hSw; (try dsimp only at hSw); go_simp <;> with_reducible rfl
    try simp only [Act.put, List.setIfInBounds_toArray, List.set_cons_zero, List.set_cons_succ]
    refine tkR 1 (v := ?_) ?_ ?_
    rotate_left
    · intro w hSw; (try dsimp only at hSw); go_simp <;> with_reducible rfl
    try simp only [Act.put, List.setIfInBounds_toArray, List.set_cons_zero, List.set_cons_succ]
    refine tkR 4 (v := ?_) ?_ ?_
    rotate_left
    · intro w hSw; (try dsimp only at hSw); go_simp <;> with_reducible rfl
    try simp only [Act.put, List.setIfInBounds_toArray, List.set_cons_zero, List.set_cons_succ]
    refine wpAnyH_ready (rs := [2]) (by kernel_rfl) (by simp) ?_
    refine rdR (fun K hK => ?_) ?_
    · go_simp
      refine (invI_any _ _ _ (hq.below ?b1) (by omega) HR2.out).mono ?_
      case b1 => exact bwT
      rintro e w1 ⟨ui, rfl, hoi, hb1⟩
      have s1 := hb1.size
      have hS1 := And.intro (oldc hb1 (by simp) hHeld.1) (oldc hb1 (by simp) hHeld.2)
      simp only [World.size_alloc, World.size_drew] at s1
      have hbw1 : Below w.heap.size w w1 := Below.trans (show Below w.heap.size w _ from bwT) (hb1.mono szT)
      refine hK.out _ _ ?_ (fun hHeld => ?_)
      · exact kpT
      clear hK K
      try simp only [Act.put, List.setIfInBounds_toArray, List.set_cons_zero, List.set_cons_succ]
      refine wpAnyH_ready (rs := [5]) (by kernel_rfl) (by simp) ?_
      refine rdR (fun K hK => ?_) ?_
      · go_simp
        refine (composedI_any _ _ _ _ _ hoi.rd (hw.below hbw1) (by rw [inv_len]; omega) HI21.out).mono ?_
        rintro e w2 ⟨ur, rfl, ho, hb2⟩
        have s2 := hb2.size
        have hS2 := And.intro (oldc hb2 (by omega) hHeld.1) (oldc hb2 (by omega) hHeld.2)
        have hbw2 : Below w.heap.size w w2 := Below.trans hbw1 (hb2.mono (by omega))
        refine hK.out _ _ ?_ (fun hHeld => ?_)
        · exact kpT
        clear hK K
        try simp only [Act.put, List.setIfInBounds_toArray, List.set_cons_zero, List.set_cons_succ]
        refine tkR 6 (v := ?_) ?_ ?_
        rotate_left
        · intro w hSw; (try dsimp only at hSw); go_simp <;> with_reducible rfl
        try simp only [Act.put, List.setIfInBounds_toArray, List.set_cons_zero, List.set_cons_succ]
        refine wpAnyH_done (by kernel_rfl) ?_ _
        have HO := Lib.hid ho.rd.weak.all
        clear hS1 hS2 ho hoi hb1 hb2 hHeld
        go_wp2
        go_ret
        exact ⟨ur, rfl, HO.out, hbw2⟩
      exact AllReadyH.nil
    exact AllReadyH.nil
  · have n1 : (k == 1) = false := by simp; omega
    have n2 : (k == 2) = false := by simp; omega
    have n5 : (k == 5) = false := by simp; omega
    have n6 : (k == 6) = false := by simp; omega
    have n7 : (k == 7) = false := by simp; omega
    have n8 : (k == 8) = false := by simp; omega
    rw [show stepPm c k sex = idL c.1.length by unfold stepPm; rw [if_neg (by omega), if_neg (by omega), if_neg (by omega), if_neg (by omega), if_neg (by omega)]]
    clear hk hk34
    go_enter Try.func55, Try.ntmps55
    go_wp2_with fail
    refine (identity_any _ c.1.length (by omega)).mono ?_
    rintro e4 w4 ⟨ur, rfl, ho, hbw4⟩
    have hpw4 : Below w.heap.size w w4 := Below.after bwT hbw4 szT
    have sw4 := hpw4.size
    have hBw4 : Below w.heap.size w w4 := hpw4
    have l_c : w.heap.size < w4.heap.size := by have := hbw4.size; simp at this; omega
    have q_c0 : w4.cell? ⟨w.heap.size, 0, none⟩ = some (.slice bo c.1.length dap) := oldc hbw4 ltT (by simp [go_sem])
    have q_c1 : w4.cell? ⟨w.heap.size, 1, none⟩ = some (.slice bo2 c.2.length dap2) := oldc hbw4 ltT (by simp [go_sem])
    clear hbw4 hpw4
    go_wp2
    go_ret
    exact ⟨ur, rfl, ho.rd.weak.all, hBw4⟩
  · have n1 : (k == 1) = false := by simp; omega
    have n2 : (k == 2) = false := by simp; omega
    by_cases hs : sex = 1
    · subst hs
      rw [show stepPm c k 1 = c.2 by unfold stepPm; rw [if_neg (by omega), if_neg (by omega), if_pos (by omega), if_pos rfl]]
      clear hk
      rcases hk56 with rfl | rfl
      all_goals
        go_enter Try.func55, Try.ntmps55
        go_wp2
        go_ret
        exact ⟨_, rfl, (hq.weak.below bwT).all, bwT⟩
    · have ns : (sex == 1) = false := by simpa using hs
      rw [show stepPm c k sex = comp (inv c.1) c.2 by unfold stepPm; rw [if_neg (by omega), if_neg (by omega), if_pos (by omega), if_neg hs]]
      clear hk
      rcases hk56 with rfl | rfl
      all_goals
        go_enter Try.func55, Try.ntmps55
        go_upto_region 10 with fail
        refine wp_region_held_drew (S := (fun w' => w'.cell? ⟨w.heap.size, 0, none⟩ = some (.slice bo c.1.length dap) ∧ w'.cell? ⟨w.heap.size, 1, none⟩ = some (.slice bo2 c.2.length dap2))) (by kernel_rfl) ?_ (fun hHeld => ?_)
        · first | exact trivial | ((try dsimp only); go_keep)
        refine tkR 0 (v := ?_) ?_ ?_
        rotate_left
        · intro w hSw; (try dsimp only at hSw); go_simp <;> with_reducible rfl
        try simp only [Act.put, List.setIfInBounds_toArray, List.set_cons_zero, List.set_cons_succ]
        refine tkR 3 (v := ?_) ?_ ?_
        rotate_left
        · intro w hSw; (try dsimp only at hSw); go_simp <;> with_reducible rfl
        try simp only [Act.put, List.setIfInBounds_toArray, List.set_cons_zero, List.set_cons_succ]
        refine tkR 1 (v := ?_) ?_ ?_
        rotate_left
        · intro w hSw; (try dsimp only at hSw); go_simp <;> with_reducible rfl
        try simp only [Act.put, List.setIfInBounds_toArray, List.set_cons_zero, List.set_cons_succ]
        refine tkR 4 (v := ?_) ?_ ?_
        rotate_left
        · intro w hSw; (try dsimp only at hSw); go_simp <;> with_reducible rfl
        try simp only [Act.put, List.setIfInBounds_toArray, List.set_cons_zero, List.set_cons_succ]
        refine wpAnyH_ready (rs := [2]) (by kernel_rfl) (by simp) ?_
        refine rdR (fun K hK => ?_) ?_
        · go_simp
          refine (invI_any _ _ _ (hw.below ?b1) (by omega) HR1.out).mono ?_
          case b1 => exact bwT
          rintro e w1 ⟨ui, rfl, hoi, hb1⟩
          have s1 := hb1.size
          have hS1 := And.intro (oldc hb1 (by simp) hHeld.1) (oldc hb1 (by simp) hHeld.2)
          simp only [World.size_alloc, World.size_drew] at s1
          have hbw1 : Below w.heap.size w w1 := Below.trans (show Below w.heap.size w _ from bwT) (hb1.mono szT)
          refine hK.out _ _ ?_ (fun hHeld => ?_)
          · exact kpT
          clear hK K
          try simp only [Act.put, List.setIfInBounds_toArray, List.set_cons_zero, List.set_cons_succ]
          refine wpAnyH_ready (rs := [5]) (by kernel_rfl) (by simp) ?_
          refine rdR (fun K hK => ?_) ?_
          · go_simp
            refine (composedI_any _ _ _ _ _ hoi.rd (hq.below hbw1) (by rw [inv_len]; omega) HI12.out).mono ?_
            rintro e w2 ⟨ur, rfl, ho, hb2⟩
            have s2 := hb2.size
            have hS2 := And.intro (oldc hb2 (by omega) hHeld.1) (oldc hb2 (by omega) hHeld.2)
            have hbw2 : Below w.heap.size w w2 := Below.trans hbw1 (hb2.mono (by omega))
            refine hK.out _ _ ?_ (fun hHeld => ?_)
            · exact kpT
            clear hK K
            try simp only [Act.put, List.setIfInBounds_toArray, List.set_cons_zero, List.set_cons_succ]
            refine tkR 6 (v := ?_) ?_ ?_
            rotate_left
            · intro w hSw; (try dsimp only at hSw); go_simp <;> with_reducible rfl
            try simp only [Act.put, List.setIfInBounds_toArray, List.set_cons_zero, List.set_cons_succ]
            refine wpAnyH_done (by kernel_rfl) ?_ _
            have HO := Lib.hid ho.rd.weak.all
            clear hS1 hS2 ho hoi hb1 hb2 hHeld
            go_wp2
            go_ret
            exact ⟨ur, rfl, HO.out, hbw2⟩
          exact AllReadyH.nil
        exact AllReadyH.nil
  · clear hk
    rw [show stepPm c 7 sex = inv c.1 from rfl]
    go_enter Try.func55, Try.ntmps55
    go_wp2_with fail
    refine (invI_any _ _ _ (hw.below bwT) (by omega) HR1.out).mono ?_
    rintro e5 w5 ⟨ur, rfl, ho, hbw5⟩
    have hpw5 : Below w.heap.size w w5 := Below.after bwT hbw5 szT
    have sw5 := hpw5.size
    have hBw5 : Below w.heap.size w w5 := hpw5
    have l_c : w.heap.size < w5.heap.size := by have := hbw5.size; simp at this; omega
    have q_c0 : w5.cell? ⟨w.heap.size, 0, none⟩ = some (.slice bo c.1.length dap) := oldc hbw5 ltT (by simp [go_sem])
    have q_c1 : w5.cell? ⟨w.heap.size, 1, none⟩ = some (.slice bo2 c.2.length dap2) := oldc hbw5 ltT (by simp [go_sem])
    clear hbw5 hpw5
    go_wp2
    go_ret
    exact ⟨ur, rfl, ho.rd.weak.all, hBw5⟩
  · clear hk
    rw [show stepPm c 8 sex = c.1 from rfl]
    go_enter Try.func55, Try.ntmps55
    go_wp2
    go_ret
    exact ⟨_, rfl, (hw.weak.below bwT).all, bwT⟩
set_option maxRecDepth 20000 in
set_option maxHeartbeats 8000000 in
theorem typePmI_any {z z1 : Bool} {lo hi lo1 hi1 : Nat} (w : World) (u v a b : Value) (c : Cls) (t : Kin) (h : Rd z lo hi w [u, v] c) (h' : Rd z1 lo1 hi1 w [a, b] t) (hl1 : c.1.length ≤ 1048576) (V : Bool) (hV : V = tpV c t) : Calls Try.prog 25 #[.agg #[u, v], .agg #[a, b]] w (PostOwB w (tpX c t) V) := by
  obtain ⟨X, hX⟩ : ∃ X, X = tpX c t := ⟨_, rfl⟩
  rw [← hX]
  obtain ⟨hw, hq⟩ := h.two rfl
  obtain ⟨bo, n3, dap, rfl, hn3, hnc3, hcm3, hnone3⟩ := hw.shape
  obtain ⟨bo2, n4, dap2, rfl, hn4, hnc4, hcm4, hnone4⟩ := hq.shape
  subst hn3 hn4
  obtain ⟨rfl, hI, hb⟩ := h'.kin
  obtain ⟨ao, n, cap, rfl, hn, hnc, hcm, hnone⟩ := hb.shape
  subst hn
  unfold maxLen at *
  obtain ⟨r1, hlet_r1⟩ : ∃ r, r = isCls c := ⟨_, rfl⟩
  have H1 := Lib.hid hlet_r1
  clear hlet_r1
  obtain ⟨r2, hlet_r2⟩ : ∃ r, r = isKin t := ⟨_, rfl⟩
  have H2 := Lib.hid hlet_r2
  clear hlet_r2
  have HV := Lib.hid (show V = (r1 && (r2 && !decide (0 < t.2.length ∧ egoOf t = 0))) by rw [hV, H1.out, H2.out]; rfl)
  have HX := Lib.hid (show X = if V = true then typePm c t else [] by rw [hX, hV]; rfl)
  clear hV hX hnone hnone3 hnone4 hw hq
  go_enter Try.func25, Try.ntmps25
  go_wp2_with fail
  refine (isClsI_b _ _ _ c (h.below bwT) r1 H1.out).mono ?_
  rintro e6 w6 ⟨rfl, hbw6⟩
  have hpw6 : Below w.heap.size w w6 := Below.after bwT hbw6 szT
  have sw6 := hpw6.size
  have hBw6 : Below w.heap.size w w6 := hpw6
  have l_c : w.heap.size < w6.heap.size := by have := hbw6.size; simp at this; omega
  have q_c0 : w6.cell? ⟨w.heap.size, 0, none⟩ = some (.slice bo c.1.length dap) := oldc hbw6 ltT (by simp [go_sem])
  have q_c1 : w6.cell? ⟨w.heap.size, 1, none⟩ = some (.slice bo2 c.2.length dap2) := oldc hbw6 ltT (by simp [go_sem])
  have l_t : w.heap.size + 1 < w6.heap.size := by have := hbw6.size; simp at this; omega
  have q_t0 : w6.cell? ⟨w.heap.size + 1, 0, none⟩ = some (.int .i64 t.1) := oldc hbw6 ltT (by simp [go_sem])
  have q_t1 : w6.cell? ⟨w.heap.size + 1, 1, none⟩ = some (.slice ao t.2.length cap) := oldc hbw6 ltT (by simp [go_sem])
  clear hbw6 hpw6
  cases r1
  · obtain rfl : V = false := by rw [HV.out]; rfl
    obtain rfl : X = [] := by rw [HX.out]; rfl
    clear h h' hb HV HX H1 H2
    go_wp2
    exact bodyPost_ret (v := .tuple #[.slice none 0 0, .bool false]) (by simp [results, go_sem]) rfl ⟨_, rfl, Ow.nil _ _ _, bwT⟩
  go_wp2_with fail
  refine (isTypeI_b _ _ _ t (h'.below bwT) r2 H2.out).mono ?_
  rintro e7 w7 ⟨rfl, hbw7⟩
  have hpw7 : Below w6.heap.size w6 w7 := Below.after bwT hbw7 szT
  have sw7 := hpw7.size
  have hBw7 : Below w.heap.size w w7 := Below.trans hBw6 (Below.mono hpw7 hBw6.size)
  have q_c0 := oldc hpw7 l_c q_c0
  have q_c1 := oldc hpw7 l_c q_c1
  have q_t0 := oldc hpw7 l_t q_t0
  have q_t1 := oldc hpw7 l_t q_t1
  have l_c := Nat.lt_of_lt_of_le l_c sw7
  have l_t := Nat.lt_of_lt_of_le l_t sw7
  clear hbw7 hpw7
  cases r2
  · obtain rfl : V = false := by rw [HV.out]; rfl
    obtain rfl : X = [] := by rw [HX.out]; rfl
    clear h h' hb HV HX H1 H2
    go_wp2
    exact bodyPost_ret (v := .tuple #[.slice none 0 0, .bool false]) (by simp [results, go_sem]) rfl ⟨_, rfl, Ow.nil _ _ _, bwT⟩
  have hcls := Lib.hid H1.out.symm
  have hkin := Lib.hid H2.out.symm
  have c8 : c.1.length ≤ 8 := (cls_ok hcls.out).1.2
  clear H1 H2
  have hdd := Lib.hid (show V = !decide (0 < t.2.length ∧ egoOf t = 0) by rw [HV.out]; rfl)
  by_cases hpos : 0 < t.2.length
  · have hposI : (0 : Int) < (t.2.length : Int) := by omega
    obtain ⟨eg, hlet_eg⟩ : ∃ r, r = egoOf t := ⟨_, rfl⟩
    have HG := Lib.hid hlet_eg
    clear hlet_eg
    go_wp2_with fail
    refine (egoI_any _ _ _ t (h'.below bwT) eg HG.out).mono ?_
    rintro e8 w8 ⟨rfl, hbw8⟩
    have hpw8 : Below w7.heap.size w7 w8 := Below.after bwT hbw8 szT
    have sw8 := hpw8.size
    have hBw8 : Below w.heap.size w w8 := Below.trans hBw7 (Below.mono hpw8 hBw7.size)
    have q_c0 := oldc hpw8 l_c q_c0
    have q_c1 := oldc hpw8 l_c q_c1
    have q_t0 := oldc hpw8 l_t q_t0
    have q_t1 := oldc hpw8 l_t q_t1
    have l_c := Nat.lt_of_lt_of_le l_c sw8
    have l_t := Nat.lt_of_lt_of_le l_t sw8
    clear hbw8 hpw8
    by_cases he : eg = 0
    · have HVF := Lib.hid (show V = false by rw [hdd.out, ← HG.out, he]; simp [hpos])
      obtain rfl : V = false := HVF.out
      obtain rfl : X = [] := by rw [HX.out]; rfl
      subst he
      clear h h' hb HV HX HG hdd
      go_wp2
      exact bodyPost_ret (v := .tuple #[.slice none 0 0, .bool false]) (by simp [results, go_sem]) rfl ⟨_, rfl, Ow.nil _ _ _, bwT⟩
    · have HVT := Lib.hid (show V = true by rw [hdd.out, ← HG.out]; simp [he])
      have neg : (eg == 0) = false := by simpa using he
      clear HG hdd
      have HF := Lib.hid (show X = typePm c t by rw [HX.out, HVT.out]; rfl)
      obtain rfl : V = true := HVT.out
      clear HX HV HVT
      go_wp2_with fail
      refine (identity_any _ c.1.length (by omega)).mono ?_
      rintro e9 w9 ⟨uo, rfl, hid0, hbw9⟩
      have hpw9 : Below w8.heap.size w8 w9 := Below.after bwT hbw9 szT
      have sw9 := hpw9.size
      have hBw9 : Below w.heap.size w w9 := Below.trans hBw8 (Below.mono hpw9 hBw8.size)
      have q_c0 := oldc hpw9 l_c q_c0
      have q_c1 := oldc hpw9 l_c q_c1
      have q_t0 := oldc hpw9 l_t q_t0
      have q_t1 := oldc hpw9 l_t q_t1
      have l_c := Nat.lt_of_lt_of_le l_c sw9
      have l_t := Nat.lt_of_lt_of_le l_t sw9
      clear hbw9 hpw9
      obtain ⟨W0, hW0⟩ : ∃ W0 : World, W0 = w9 := ⟨_, rfl⟩
      subst hW0
      have hB0 : Below w.heap.size w W0 := hBw9
      have s0 := hB0.size
      have qa_c0 := q_c0
      have qa_c1 := q_c1
      have qa_t0 := q_t0
      have qa_t1 := q_t1
      have la_c : w.heap.size < W0.heap.size := l_c
      have la_t : w.heap.size + 1 < W0.heap.size := l_t
      have hO0 := Lib.hid (hid0.mono (show w.heap.size ≤ _ from by omega) (Nat.le_refl _))
      have HT0 := Lib.hid (show typePm c t = tpGo c (sexAt t 0) (idL c.1.length) (t.2.drop 0) from rfl)
      have HK0 := Lib.hid (show POk c.1.length (idL c.1.length) from ⟨by simp [idL], idL_range _⟩)
      have HSt := Lib.hid (isKin_facts hkin.out).2.2.2
      have t8 : t.2.length ≤ 8 := (isKin_facts hkin.out).2.1
      have hcz := Lib.hid h
      have htz := Lib.hid h'
      have hbz := Lib.hid hb
      clear hid0 h h' hb q_c0 q_c1 q_t0 q_t1 l_c l_t
      go_wp2
      go_loopw [6, 7, 8, 35] (fun s6 _ _ s35 wr => ∃ (i : Nat) (o : List Int), i ≤ t.2.length ∧ s35 = .int .i64 i ∧ Hid (Ow w.heap.size wr.heap.size wr [s6] o) ∧ Hid (typePm c t = tpGo c (sexAt t i) o (t.2.drop i)) ∧ Hid (POk c.1.length o) ∧ Below W0.heap.size W0 wr) (fun _ _ _ s35 _ => t.2.length - (intOf s35).toNat)
      case atStart => exact ⟨0, _, Nat.zero_le _, rfl, hO0, HT0, HK0, Below.refl _ _⟩
      case round =>
        clear hO0 HT0 HK0
        obtain ⟨wb, hwb⟩ : ∃ wm : World, wm = wr := ⟨_, rfl⟩
        subst hwb
        obtain ⟨i, o, hi1, rfl, hM, HT, HK, hbb⟩ := hrel
        have sR := hbb.size
        have hBb : Below w.heap.size w wb := hB0.trans (hbb.mono s0)
        have q_c0 := oldc hbb la_c qa_c0
        have q_c1 := oldc hbb la_c qa_c1
        have q_t0 := oldc hbb la_t qa_t0
        have q_t1 := oldc hbb la_t qa_t1
        have l_c := Nat.lt_of_lt_of_le la_c sR
        have l_t := Nat.lt_of_lt_of_le la_t sR
        by_cases hlt : i < t.2.length
        · have hI : (i : Int) < (t.2.length : Int) := by omega
          obtain ⟨sb, soff, ki, ag, rfl, hx, c0, c1, -, -, -, -, sbl, -⟩ := (hbz.out.below hBb).stp_at hlt
          have hki := (HSt.out _ (List.mem_of_getElem? hx.out)).1
          dsimp only at hki
          obtain ⟨sx, hlet_sx⟩ : ∃ r, r = sexAt t i := ⟨_, rfl⟩
          have HSX := Lib.hid hlet_sx
          clear hlet_sx
          have HN := Lib.hid (show typePm c t = tpGo c (sexAt t (i + 1)) (comp o (stepPm c ki sx)) (t.2.drop (i + 1)) by rw [HT.out, drop_cons hx.out, tpGo, sexAt_succ hx.out, HSX.out])
          have HSP := Lib.hid (stepPm_ok hcls.out ki sx)
          clear HT hx
          go_upto_region 7 with fail
          refine wp_region_held_drew (S := (fun w' => w'.cell? ⟨w.heap.size, 0, none⟩ = some (.slice bo c.1.length dap) ∧ w'.cell? ⟨w.heap.size, 1, none⟩ = some (.slice bo2 c.2.length dap2) ∧ w'.cell? ⟨w.heap.size + 1, 0, none⟩ = some (.int .i64 t.1) ∧ w'.cell? ⟨w.heap.size + 1, 1, none⟩ = some (.slice (some ⟨sb, soff, none⟩) t.2.length cap) ∧ w'.cell? ⟨wb.heap.size, 0, none⟩ = some (.int .i64 ki))) (by kernel_rfl) ?_ (fun hHeld => ?_)
          · first | exact trivial | ((try dsimp only); go_keep)
          refine tkR 0 (v := ?_) ?_ ?_
          rotate_left
          · intro w hSw; (try dsimp only at hSw); go_simp <;> with_reducible rfl
          try simp only [Act.put, List.setIfInBounds_toArray, List.set_cons_zero, List.set_cons_succ]
          refine tkR 1 (v := ?_) ?_ ?_
          rotate_left
          · intro w hSw; (try dsimp only at hSw); go_simp <;> with_reducible rfl
          try simp only [Act.put, List.setIfInBounds_toArray, List.set_cons_zero, List.set_cons_succ]
          refine tkR 2 (v := ?_) ?_ ?_
          rotate_left
          · intro w hSw; (try dsimp only at hSw); go_simp <;> with_reducible rfl
          try simp only [Act.put, List.setIfInBounds_toArray, List.set_cons_zero, List.set_cons_succ]
          refine tkR 4 (v := ?_) ?_ ?_
          rotate_left
          · intro w hSw; (try dsimp only at hSw); go_simp <;> with_reducible rfl
          try simp only [Act.put, List.setIfInBounds_toArray, List.set_cons_zero, List.set_cons_succ]
          refine tkR 5 (v := ?_) ?_ ?_
          rotate_left
          · intro w hSw; (try dsimp only at hSw); go_simp <;> with_reducible rfl
          try simp only [Act.put, List.setIfInBounds_toArray, List.set_cons_zero, List.set_cons_succ]
          refine tkR 3 (v := ?_) ?_ ?_
          rotate_left
          · intro w hSw; (try dsimp only at hSw); go_simp <;> with_reducible rfl
          try simp only [Act.put, List.setIfInBounds_toArray, List.set_cons_zero, List.set_cons_succ]
          refine wpAnyH_ready (rs := [6]) (by kernel_rfl) (by simp) ?_
          refine rdR (fun K hK => ?_) ?_
          · go_simp
            refine (sexBeforeI_any _ _ _ t (htz.out.below ?b1) hkin.out i hlt sx HSX.out).mono ?_
            case b1 => exact bwT
            rintro e w1 ⟨rfl, hb1⟩
            have s1 := hb1.size
            have hS1 := And.intro (oldc hb1 ltT hHeld.1) (And.intro (oldc hb1 ltT hHeld.2.1) (And.intro (oldc hb1 ltT hHeld.2.2.1) (And.intro (oldc hb1 ltT hHeld.2.2.2.1) (oldc hb1 ltT hHeld.2.2.2.2))))
            simp only [World.size_alloc, World.size_drew] at s1
            have hbw1 : Below wb.heap.size wb w1 := Below.trans (show Below wb.heap.size wb _ from bwT) (hb1.mono szT)
            refine hK.out _ _ ?_ (fun hHeld => ?_)
            · exact kpT
            clear hK K
            try simp only [Act.put, List.setIfInBounds_toArray, List.set_cons_zero, List.set_cons_succ]
            refine wpAnyH_ready (rs := [7]) (by kernel_rfl) (by simp) ?_
            refine rdR (fun K hK => ?_) ?_
            · go_simp
              refine (stepPmI_any _ _ _ c (hcz.out.below (hBb.trans (hbw1.mono hBb.size))) hcls.out ki sx hki).mono ?_
              rintro e w2 ⟨up, rfl, hop, hb2⟩
              have s2 := hb2.size
              have hS2 := And.intro (oldc hb2 ltT hHeld.1) (And.intro (oldc hb2 ltT hHeld.2.1) (And.intro (oldc hb2 ltT hHeld.2.2.1) (And.intro (oldc hb2 ltT hHeld.2.2.2.1) (oldc hb2 ltT hHeld.2.2.2.2))))
              have hbw2 : Below wb.heap.size wb w2 := Below.trans hbw1 (hb2.mono (by omega))
              clear hS1
              refine hK.out _ _ ?_ (fun hHeld => ?_)
              · exact kpT
              clear hK K
              try simp only [Act.put, List.setIfInBounds_toArray, List.set_cons_zero, List.set_cons_succ]
              refine wpAnyH_ready (rs := [8]) (by kernel_rfl) (by simp) ?_
              refine rdR (fun K hK => ?_) ?_
              · go_simp
                refine (composedI_any _ _ _ _ _ (hM.out.rd.below hbw2) hop (by rw [HK.out.len]; omega) (by rw [HSP.out.len]; exact HK.out.rng)).mono ?_
                rintro e w3 ⟨uc, rfl, hoc, hb3⟩
                have s3 := hb3.size
                have hS3 := And.intro (oldc hb3 ltT hHeld.1) (And.intro (oldc hb3 ltT hHeld.2.1) (And.intro (oldc hb3 ltT hHeld.2.2.1) (And.intro (oldc hb3 ltT hHeld.2.2.2.1) (oldc hb3 ltT hHeld.2.2.2.2))))
                have hbw3 : Below wb.heap.size wb w3 := Below.trans hbw2 (hb3.mono (by omega))
                refine hK.out _ _ ?_ (fun hHeld => ?_)
                · exact kpT
                clear hK K
                try simp only [Act.put, List.setIfInBounds_toArray, List.set_cons_zero, List.set_cons_succ]
                refine tkR 9 (v := ?_) ?_ ?_
                rotate_left
                · intro w hSw; (try dsimp only at hSw); go_simp <;> with_reducible rfl
                try simp only [Act.put, List.setIfInBounds_toArray, List.set_cons_zero, List.set_cons_succ]
                refine wpAnyH_done (by kernel_rfl) ?_ _
                have HO := Lib.hid (hoc.mono (show w.heap.size ≤ w2.heap.size from by omega) (Nat.le_refl _))
                have HK2 := Lib.hid (HK.out.comp HSP.out)
                have hbb3 : Below W0.heap.size W0 w3 := hbb.trans (hbw3.mono sR)
                clear hS2 hS3 hHeld hoc hop hb1 hb2 hb3 hM HK
                go_wp2
                go_roundw
                case rel => exact ⟨i + 1, _, by omega, by go_num, HO, HN, HK2, hbb3⟩
                case measure => simp [intOf]; omega
              exact AllReadyH.nil
            exact AllReadyH.nil
          exact AllReadyH.nil
        · have nI : ¬ (i : Int) < (t.2.length : Int) := by omega
          have HE := Lib.hid (show X = o by rw [HF.out, HT.out, List.drop_eq_nil_of_le (by omega)]; rfl)
          obtain ⟨uo', n', cap', rfl, -⟩ := hM.out.rd.shape
          clear HT HF
          go_wp2
          exact bodyPost_ret (v := .tuple #[.slice uo' n' cap', .bool true]) (by simp [results, go_sem]) rfl ⟨_, rfl, by rw [HE.out]; exact hM.out, hBb⟩
  · have nposI : ¬ (0 : Int) < (t.2.length : Int) := by omega
    have HVT := Lib.hid (show V = true by rw [hdd.out]; simp [hpos])
    clear hdd
    have HF := Lib.hid (show X = typePm c t by rw [HX.out, HVT.out]; rfl)
    obtain rfl : V = true := HVT.out
    clear HX HV HVT
    go_wp2_with fail
    refine (identity_any _ c.1.length (by omega)).mono ?_
    rintro e10 w10 ⟨uo, rfl, hid0, hbw10⟩
    have hpw10 : Below w7.heap.size w7 w10 := Below.after bwT hbw10 szT
    have sw10 := hpw10.size
    have hBw10 : Below w.heap.size w w10 := Below.trans hBw7 (Below.mono hpw10 hBw7.size)
    have q_c0 := oldc hpw10 l_c q_c0
    have q_c1 := oldc hpw10 l_c q_c1
    have q_t0 := oldc hpw10 l_t q_t0
    have q_t1 := oldc hpw10 l_t q_t1
    have l_c := Nat.lt_of_lt_of_le l_c sw10
    have l_t := Nat.lt_of_lt_of_le l_t sw10
    clear hbw10 hpw10
    obtain ⟨W0, hW0⟩ : ∃ W0 : World, W0 = w10 := ⟨_, rfl⟩
    subst hW0
    have hB0 : Below w.heap.size w W0 := hBw10
    have s0 := hB0.size
    have qa_c0 := q_c0
    have qa_c1 := q_c1
    have qa_t0 := q_t0
    have qa_t1 := q_t1
    have la_c : w.heap.size < W0.heap.size := l_c
    have la_t : w.heap.size + 1 < W0.heap.size := l_t
    have hO0 := Lib.hid (hid0.mono (show w.heap.size ≤ _ from by omega) (Nat.le_refl _))
    have HT0 := Lib.hid (show typePm c t = tpGo c (sexAt t 0) (idL c.1.length) (t.2.drop 0) from rfl)
    have HK0 := Lib.hid (show POk c.1.length (idL c.1.length) from ⟨by simp [idL], idL_range _⟩)
    have HSt := Lib.hid (isKin_facts hkin.out).2.2.2
    have t8 : t.2.length ≤ 8 := (isKin_facts hkin.out).2.1
    have hcz := Lib.hid h
    have htz := Lib.hid h'
    have hbz := Lib.hid hb
    clear hid0 h h' hb q_c0 q_c1 q_t0 q_t1 l_c l_t
    go_wp2
    go_loopw [6, 7, 8, 35] (fun s6 _ _ s35 wr => ∃ (i : Nat) (o : List Int), i ≤ t.2.length ∧ s35 = .int .i64 i ∧ Hid (Ow w.heap.size wr.heap.size wr [s6] o) ∧ Hid (typePm c t = tpGo c (sexAt t i) o (t.2.drop i)) ∧ Hid (POk c.1.length o) ∧ Below W0.heap.size W0 wr) (fun _ _ _ s35 _ => t.2.length - (intOf s35).toNat)
    case atStart => exact ⟨0, _, Nat.zero_le _, rfl, hO0, HT0, HK0, Below.refl _ _⟩
    case round =>
      clear hO0 HT0 HK0
      obtain ⟨wb, hwb⟩ : ∃ wm : World, wm = wr := ⟨_, rfl⟩
      subst hwb
      obtain ⟨i, o, hi1, rfl, hM, HT, HK, hbb⟩ := hrel
      have sR := hbb.size
      have hBb : Below w.heap.size w wb := hB0.trans (hbb.mono s0)
      have q_c0 := oldc hbb la_c qa_c0
      have q_c1 := oldc hbb la_c qa_c1
      have q_t0 := oldc hbb la_t qa_t0
      have q_t1 := oldc hbb la_t qa_t1
      have l_c := Nat.lt_of_lt_of_le la_c sR
      have l_t := Nat.lt_of_lt_of_le la_t sR
      by_cases hlt : i < t.2.length
      · exact absurd hlt (by omega)
      · have nI : ¬ (i : Int) < (t.2.length : Int) := by omega
        have HE := Lib.hid (show X = o by rw [HF.out, HT.out, List.drop_eq_nil_of_le (by omega)]; rfl)
        obtain ⟨uo', n', cap', rfl, -⟩ := hM.out.rd.shape
        clear HT HF
        go_wp2
        exact bodyPost_ret (v := .tuple #[.slice uo' n' cap', .bool true]) (by simp [results, go_sem]) rfl ⟨_, rfl, by rw [HE.out]; exact hM.out, hBb⟩
end Go.Proofs.Ytefbbbhidnnchaa
