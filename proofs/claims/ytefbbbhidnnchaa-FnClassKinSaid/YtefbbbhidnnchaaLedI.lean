/- Contracts of hasInt, areFull, isElder, isParent, and of stepRelation with its function (impl). Written by led_gen.py. -/
import Derived.Test.YtefbbbhidnnchaaLed
import Derived.Test.YtefbbbhidnnchaaPSet
import Derived.Test.YtefbbbhidnnchaaZ14B
import Derived.Test.YtefbbbhidnnchaaZ14E
import Derived.Test.YtefbbbhidnnchaaZ14F
import Derived.Test.YtefbbbhidnnchaaZ14W
namespace Go.Proofs.Ytefbbbhidnnchaa
set_option linter.unusedVariables false
set_option linter.unusedSimpArgs false
open Go.RowKit

section
variable {z : Bool} {lo hi : Nat} (w : World) (v v2 : Value) (ps : List Per) (h : Rd z lo hi w [v] ps) (a b : Nat) {x y : Per} (hx : ps[a]? = some x) (hy : ps[b]? = some y) (r : Bool)
include h hx hy

set_option maxHeartbeats 4000000 in
theorem isElder_b (hr : r = eldB x y a b) : Calls Try.prog 108 #[.agg #[v, v2], .int .i64 a, .int .i64 b] w (PostB w r) := by
  obtain ⟨ao, n, cap, rfl, hn, -⟩ := h.shape
  subst hn
  have ha := (List.getElem?_eq_some_iff.1 hx).1
  have hb := (List.getElem?_eq_some_iff.1 hy).1
  obtain ⟨B, O, nm, sx, fa, mo, bo, di, rfl, hX, x0, x1, x2, x3, x4, x5, -, -, -, -, -, -, -, -, hbl, -⟩ := h.per_at ha
  obtain rfl := Option.some.inj (hX.out.symm.trans hx)
  obtain ⟨_, _, nm', sx', fa', mo', bo', di', e, hY, y0, y1, y2, y3, y4, y5, -⟩ := h.per_at hb
  simp only [Option.some.injEq, Addr.mk.injEq, and_true] at e
  obtain ⟨rfl, rfl⟩ := e
  obtain rfl := Option.some.inj (hY.out.symm.trans hy)
  have haI : (a : Int) < (ps.length : Int) := by omega
  have hbI : (b : Int) < (ps.length : Int) := by omega
  have HR := Lib.hid hr
  clear h hx hy hX hY x0 x1 x2 x3 x5 y0 y1 y2 y3 y5 hr
  go_enter Try.func108, Try.ntmps108
  go_upto_region 1 with fail
  go_region_held3 (fun w' => w'.cell? ⟨w.heap.size, 0, none⟩ = some (.slice (some ⟨B, O, none⟩) ps.length cap) ∧ w'.cell? ⟨B, O + a * 6 + 4, none⟩ = some (.int .i64 bo) ∧ w'.cell? ⟨B, O + b * 6 + 4, none⟩ = some (.int .i64 bo')) (go_keep) (fail)
  by_cases h1 : bo < bo'
  · have HT := Lib.hid (show r = true by rw [HR.out]; exact decide_eq_true (.inl h1))
    go_wp2
    go_ret
    exact ⟨ret_bool HT.out.symm, bwT⟩
  · by_cases h2 : bo = bo'
    · by_cases h3 : a < b
      · have HT := Lib.hid (show r = true by rw [HR.out]; exact decide_eq_true (.inr ⟨h2, by omega⟩))
        have h3I : (a : Int) < (b : Int) := by omega
        subst h2
        go_wp2
        go_ret
        exact ⟨ret_bool HT.out.symm, bwT⟩
      · have HT := Lib.hid (show r = false by rw [HR.out]; exact decide_eq_false (fun h => by rcases h with h | h <;> simp at h <;> omega))
        have h3I : ¬ (a : Int) < (b : Int) := by omega
        subst h2
        go_wp2
        go_ret
        exact ⟨ret_bool HT.out.symm, bwT⟩
    · have HT := Lib.hid (show r = false by rw [HR.out]; exact decide_eq_false (fun h => by rcases h with h | h <;> simp at h <;> omega))
      have h3 : (bo == bo') = false := by simpa using h2
      clear h2
      go_wp2
      go_ret
      exact ⟨ret_bool HT.out.symm, bwT⟩

set_option maxHeartbeats 8000000 in
theorem areFull_b (hr : r = fullB x y a b) : Calls Try.prog 107 #[.agg #[v, v2], .int .i64 a, .int .i64 b] w (PostB w r) := by
  obtain ⟨ao, n, cap, rfl, hn, -⟩ := h.shape
  subst hn
  have ha := (List.getElem?_eq_some_iff.1 hx).1
  have hb := (List.getElem?_eq_some_iff.1 hy).1
  obtain ⟨B, O, nm, sx, fa, mo, bo, di, rfl, hX, x0, x1, x2, x3, x4, x5, -, -, -, -, -, -, -, -, hbl, -⟩ := h.per_at ha
  obtain rfl := Option.some.inj (hX.out.symm.trans hx)
  obtain ⟨_, _, nm', sx', fa', mo', bo', di', e, hY, y0, y1, y2, y3, y4, y5, -⟩ := h.per_at hb
  simp only [Option.some.injEq, Addr.mk.injEq, and_true] at e
  obtain ⟨rfl, rfl⟩ := e
  obtain rfl := Option.some.inj (hY.out.symm.trans hy)
  have haI : (a : Int) < (ps.length : Int) := by omega
  have hbI : (b : Int) < (ps.length : Int) := by omega
  have HR := Lib.hid (show r = (decide ((a : Int) ≠ b) && (decide (0 ≤ fa) && (decide (0 ≤ mo) && (decide (fa = fa') && decide (mo = mo'))))) from hr)
  clear h hx hy hX hY hr
  go_enter Try.func107, Try.ntmps107
  go_upto_region 1 with fail
  go_cut [7, 8] (fun s7 s8 wx => ∃ b7 b8 : Nat, s7 = .pointer (some ⟨b7, 0, none⟩) ∧ s8 = .pointer (some ⟨b8, 0, none⟩) ∧ wx.cell? ⟨b7, 2, none⟩ = some (.int .i64 fa) ∧ wx.cell? ⟨b7, 3, none⟩ = some (.int .i64 mo) ∧ wx.cell? ⟨b8, 2, none⟩ = some (.int .i64 fa') ∧ wx.cell? ⟨b8, 3, none⟩ = some (.int .i64 mo') ∧ Below w.heap.size w wx)
  case first =>
    have k0 : ¬ B = w.heap.size := by omega
    have k1 : ¬ w.heap.size = B := by omega
    have k2 : ¬ B = w.heap.size + 1 := by omega
    have k3 : ¬ w.heap.size + 1 = B := by omega
    have k4 : ¬ B = w.heap.size + 1 + 1 := by omega
    have k5 : ¬ w.heap.size + 1 + 1 = B := by omega
    have k6 : B < w.heap.size + 1 := by omega
    have k7 : B < w.heap.size + 1 + 1 := by omega
    refine wp_region_held_drew (S := (fun w' => w'.cell? ⟨w.heap.size, 0, none⟩ = some (.slice (some ⟨B, O, none⟩) ps.length cap) ∧ w'.cell? ⟨B, O + a * 6, none⟩ = some (.string nm) ∧ w'.cell? ⟨B, O + a * 6 + 1, none⟩ = some (.int .i64 sx) ∧ w'.cell? ⟨B, O + a * 6 + 2, none⟩ = some (.int .i64 fa) ∧ w'.cell? ⟨B, O + a * 6 + 3, none⟩ = some (.int .i64 mo) ∧ w'.cell? ⟨B, O + a * 6 + 4, none⟩ = some (.int .i64 bo) ∧ w'.cell? ⟨B, O + a * 6 + 5, none⟩ = some (.int .i64 di) ∧ w'.cell? ⟨B, O + b * 6, none⟩ = some (.string nm') ∧ w'.cell? ⟨B, O + b * 6 + 1, none⟩ = some (.int .i64 sx') ∧ w'.cell? ⟨B, O + b * 6 + 2, none⟩ = some (.int .i64 fa') ∧ w'.cell? ⟨B, O + b * 6 + 3, none⟩ = some (.int .i64 mo') ∧ w'.cell? ⟨B, O + b * 6 + 4, none⟩ = some (.int .i64 bo') ∧ w'.cell? ⟨B, O + b * 6 + 5, none⟩ = some (.int .i64 di'))) (by kernel_rfl) ?_ (fun hHeld => ?_)
    · first | exact trivial | ((try dsimp only); go_keep)
    refine tkR 0 (v := ?_) ?_ ?_
    rotate_left
    · intro w hSw; (try dsimp only at hSw); go_simp <;> with_reducible rfl
    try simp only [Act.put, List.setIfInBounds_toArray, List.set_cons_zero, List.set_cons_succ]
    refine tkR 2 (v := ?_) ?_ ?_
    rotate_left
    · intro w hSw; (try dsimp only at hSw); go_simp <;> with_reducible rfl
    try simp only [Act.put, List.setIfInBounds_toArray, List.set_cons_zero, List.set_cons_succ]
    refine tkR 5 (v := ?_) ?_ ?_
    rotate_left
    · intro w hSw; (try dsimp only at hSw); go_simp <;> with_reducible rfl
    try simp only [Act.put, List.setIfInBounds_toArray, List.set_cons_zero, List.set_cons_succ]
    refine tkR 7 (v := ?_) ?_ ?_
    rotate_left
    · intro w hSw; (try dsimp only at hSw); go_simp <;> with_reducible rfl
    try simp only [Act.put, List.setIfInBounds_toArray, List.set_cons_zero, List.set_cons_succ]
    refine tkR 1 (v := ?_) ?_ ?_
    rotate_left
    · intro w hSw; (try dsimp only at hSw); go_simp <;> with_reducible rfl
    try simp only [Act.put, List.setIfInBounds_toArray, List.set_cons_zero, List.set_cons_succ]
    refine tkR 6 (v := ?_) ?_ ?_
    rotate_left
    · intro w hSw; (try dsimp only at hSw); go_simp <;> with_reducible rfl
    try simp only [Act.put, List.setIfInBounds_toArray, List.set_cons_zero, List.set_cons_succ]
    refine tkR 3 (v := ?_) ?_ ?_
    rotate_left
    · intro w hSw; (try dsimp only at hSw); go_simp <;> with_reducible rfl
    try simp only [Act.put, List.setIfInBounds_toArray, List.set_cons_zero, List.set_cons_succ]
    refine tkR 8 (v := ?_) ?_ ?_
    rotate_left
    · intro w hSw; (try dsimp only at hSw); go_simp <;> with_reducible rfl
    try simp only [Act.put, List.setIfInBounds_toArray, List.set_cons_zero, List.set_cons_succ]
    refine tkR 4 (v := ?_) ?_ ?_
    rotate_left
    · intro w hSw; (try dsimp only at hSw); go_simp <;> with_reducible rfl
    try simp only [Act.put, List.setIfInBounds_toArray, List.set_cons_zero, List.set_cons_succ]
    refine tkR 9 (v := ?_) ?_ ?_
    rotate_left
    · intro w hSw; (try dsimp only at hSw); go_simp <;> with_reducible rfl
    try simp only [Act.put, List.setIfInBounds_toArray, List.set_cons_zero, List.set_cons_succ]
    refine wpAnyH_ready (rs := [10, 11]) (by kernel_rfl) (by simp) ?_
    refine rdR (fun K hK => ?_) ?_
    · go_simp
      refine hK.out _ _ ?_ (fun hHeld => ?_)
      · exact kpT
      clear hK K
      try simp only [Act.put, List.setIfInBounds_toArray, List.set_cons_zero, List.set_cons_succ]
      refine wpAnyH_ready (rs := [11]) (by kernel_rfl) (by simp) ?_
      refine rdR (fun K hK => ?_) ?_
      · go_simp
        refine hK.out _ _ ?_ (fun hHeld => ?_)
        · exact kpT
        clear hK K
        try simp only [Act.put, List.setIfInBounds_toArray, List.set_cons_zero, List.set_cons_succ]
        refine wpAnyH_ready (rs := [12]) (by kernel_rfl) (by simp) ?_
        refine rdR (fun K hK => ?_) ?_
        · go_simp
          refine hK.out _ _ ?_ (fun hHeld => ?_)
          · exact kpT
          clear hK K
          try simp only [Act.put, List.setIfInBounds_toArray, List.set_cons_zero, List.set_cons_succ]
          refine wpAnyH_ready (rs := [13]) (by kernel_rfl) (by simp) ?_
          refine rdR (fun K hK => ?_) ?_
          · go_simp
            refine hK.out _ _ ?_ (fun hHeld => ?_)
            · exact kpT
            clear hK K
            try simp only [Act.put, List.setIfInBounds_toArray, List.set_cons_zero, List.set_cons_succ]
            refine wpAnyH_done (by kernel_rfl) ?_ _
            go_wp2_with fail
            go_meet
            exact ⟨_, _, rfl, rfl, by simp [go_sem], by simp [go_sem], by simp [go_sem], by simp [go_sem], bwT⟩
          exact AllReadyH.nil
        exact AllReadyH.nil
      exact AllReadyH.nil
    refine rdR (fun K hK => ?_) ?_
    · go_simp
      refine hK.out _ _ ?_ (fun hHeld => ?_)
      · exact kpT
      clear hK K
      try simp only [Act.put, List.setIfInBounds_toArray, List.set_cons_zero, List.set_cons_succ]
      refine wpAnyH_ready (rs := [10]) (by kernel_rfl) (by simp) ?_
      refine rdR (fun K hK => ?_) ?_
      · go_simp
        refine hK.out _ _ ?_ (fun hHeld => ?_)
        · exact kpT
        clear hK K
        try simp only [Act.put, List.setIfInBounds_toArray, List.set_cons_zero, List.set_cons_succ]
        refine wpAnyH_ready (rs := [12]) (by kernel_rfl) (by simp) ?_
        refine rdR (fun K hK => ?_) ?_
        · go_simp
          refine hK.out _ _ ?_ (fun hHeld => ?_)
          · exact kpT
          clear hK K
          try simp only [Act.put, List.setIfInBounds_toArray, List.set_cons_zero, List.set_cons_succ]
          refine wpAnyH_ready (rs := [13]) (by kernel_rfl) (by simp) ?_
          refine rdR (fun K hK => ?_) ?_
          · go_simp
            refine hK.out _ _ ?_ (fun hHeld => ?_)
            · exact kpT
            clear hK K
            try simp only [Act.put, List.setIfInBounds_toArray, List.set_cons_zero, List.set_cons_succ]
            refine wpAnyH_done (by kernel_rfl) ?_ _
            go_wp2_with fail
            go_meet
            exact ⟨_, _, rfl, rfl, by simp [go_sem], by simp [go_sem], by simp [go_sem], by simp [go_sem], bwT⟩
          exact AllReadyH.nil
        exact AllReadyH.nil
      exact AllReadyH.nil
    exact AllReadyH.nil
  case rest =>
    obtain ⟨b7, b8, rfl, rfl, c2, c3, d2, d3, hbw⟩ := hcut
    obtain ⟨w5, hw5⟩ : ∃ W : World, W = wc := ⟨_, rfl⟩
    subst hw5
    clear x0 x1 x2 x3 x4 x5 y0 y1 y2 y3 y4 y5

    by_cases h0 : (a : Int) = (b : Int)
    · have HT := Lib.hid (show r = false by rw [HR.out]; simp [h0])
      have e0 : ((a : Int) != (b : Int)) = false := by simpa using h0
      clear h0
      go_wp2
      go_ret
      exact ⟨ret_bool HT.out.symm, hbw⟩
    have e0 : ((a : Int) != (b : Int)) = true := by simpa using h0
    by_cases h1 : 0 ≤ fa
    rotate_left
    · have HT := Lib.hid (show r = false by rw [HR.out]; simp [h1])
      go_wp2
      go_ret
      exact ⟨ret_bool HT.out.symm, hbw⟩
    by_cases h2 : 0 ≤ mo
    rotate_left
    · have HT := Lib.hid (show r = false by rw [HR.out]; simp [h2])
      go_wp2
      go_ret
      exact ⟨ret_bool HT.out.symm, hbw⟩
    by_cases h3 : fa = fa'
    rotate_left
    · have HT := Lib.hid (show r = false by rw [HR.out]; simp [h3])
      have e3 : (fa == fa') = false := by simpa using h3
      clear h3
      go_wp2
      go_ret
      exact ⟨ret_bool HT.out.symm, hbw⟩
    by_cases h4 : mo = mo'
    rotate_left
    · have HT := Lib.hid (show r = false by rw [HR.out]; simp [h4])
      have e4 : (mo == mo') = false := by simpa using h4
      have e3 : (fa == fa') = true := by simpa using h3
      clear h4 h3
      go_wp2
      go_ret
      exact ⟨ret_bool HT.out.symm, hbw⟩
    have HT := Lib.hid (show r = true by rw [HR.out]; simp [h0, h1, h2, h3, h4]; omega)
    have e3 : (fa == fa') = true := by simpa using h3
    have e4 : (mo == mo') = true := by simpa using h4
    clear h3 h4 h0
    go_wp2
    go_ret
    exact ⟨ret_bool HT.out.symm, hbw⟩
end

set_option maxHeartbeats 4000000 in
theorem isParent_b {z : Bool} {lo hi : Nat} (w : World) (v v2 : Value) (ps : List Per) (h : Rd z lo hi w [v] ps) (a : Int) (b : Nat) {y : Per} (hy : ps[b]? = some y) (r : Bool) (hr : r = parB y a) : Calls Try.prog 109 #[.agg #[v, v2], .int .i64 a, .int .i64 b] w (PostB w r) := by
  obtain ⟨ao, n, cap, rfl, hn, -⟩ := h.shape
  subst hn
  have hb := (List.getElem?_eq_some_iff.1 hy).1
  obtain ⟨B, O, nm, sx, fa, mo, bo, di, rfl, hY, y0, y1, y2, y3, y4, y5, -, -, -, -, -, -, -, -, hbl, -⟩ := h.per_at hb
  obtain rfl := Option.some.inj (hY.out.symm.trans hy)
  have hbI : (b : Int) < (ps.length : Int) := by omega
  have HR := Lib.hid (show r = decide (fa = a ∨ mo = a) from hr)
  clear h hy hY hr y0 y1 y4 y5
  go_enter Try.func109, Try.ntmps109
  by_cases h1 : fa = a
  · have HT := Lib.hid (show r = true by rw [HR.out]; exact decide_eq_true (.inl h1))
    have e1 : (fa == a) = true := by simpa using h1
    clear h1
    go_wp2
    go_ret
    exact ⟨ret_bool HT.out.symm, bwT⟩
  · have e1 : (fa == a) = false := by simpa using h1
    by_cases h2 : mo = a
    · have HT := Lib.hid (show r = true by rw [HR.out]; exact decide_eq_true (.inr h2))
      have e2 : (mo == a) = true := by simpa using h2
      clear h1 h2
      go_wp2
      go_ret
      exact ⟨ret_bool HT.out.symm, bwT⟩
    · have HT := Lib.hid (show r = false by rw [HR.out]; exact decide_eq_false (by rintro (h | h) <;> contradiction))
      have e2 : (mo == a) = false := by simpa using h2
      clear h1 h2
      go_wp2
      go_ret
      exact ⟨ret_bool HT.out.symm, bwT⟩

section
variable {z : Bool} {lo hi : Nat} (W : World) (BF BS BM M n : Nat) (ao : Option Addr) (cap : Nat) (v2 : Value) (f : Fam) (h : Rd z lo hi W [.slice ao f.1.length cap, v2] f) (k g : Int) (a b : Nat) (ha : a < f.1.length) (hb : b < f.1.length) (h40 : f.1.length ≤ 40)
  (q0 : W.cell? ⟨BF, 0, none⟩ = some (.slice ao f.1.length cap)) (q1 : W.cell? ⟨BF, 1, none⟩ = some v2) (s0 : W.cell? ⟨BS, 0, none⟩ = some (.int .i64 k)) (s1 : W.cell? ⟨BS, 1, none⟩ = some (.int .i64 g)) (m0 : W.cell? ⟨BM, 0, none⟩ = some (.map (some M))) (hP : PSet W M n (wedS f.2 k)) (r : Bool)
include h ha hb h40 q0 q1 s0 s1 m0 hP

set_option maxHeartbeats 8000000 in
theorem stepCl1_b (hk : k = 1) (hg : g = 0 ∨ g = 1 ∨ g = 2) (hr : r = ledB f (k, g) a b) : Calls Try.prog 106 #[.int .i64 a, .int .i64 b, .pointer (some ⟨BF, 0, none⟩), .pointer (some ⟨BS, 0, none⟩), .pointer (some ⟨BM, 0, none⟩)] W (PostB W r) := by
  have h40c : f.1.length ≤ 40 := h40
  clear h40c
  subst hk
  have hF := h.fam.1
  obtain ⟨B, O, nm, sx, fa, mo, bo, di, e1, hX, x0, x1, x2, x3, x4, x5, -, -, -, -, -, -, -, -, hbl, -⟩ := hF.per_at ha
  subst e1
  obtain ⟨_, _, nm', sx', fa', mo', bo', di', e, hY, y0, y1, y2, y3, y4, y5, -⟩ := hF.per_at hb
  simp only [Option.some.injEq, Addr.mk.injEq, and_true] at e
  obtain ⟨rfl, rfl⟩ := e
  have haI : (a : Int) < (f.1.length : Int) := by omega
  have hbI : (b : Int) < (f.1.length : Int) := by omega
  have lF : BF < W.heap.size := World.block_lt_of_cell? W ⟨BF, 0, none⟩ q0
  have lS : BS < W.heap.size := World.block_lt_of_cell? W ⟨BS, 0, none⟩ s0
  have lM : BM < W.heap.size := World.block_lt_of_cell? W ⟨BM, 0, none⟩ m0
  have HX := Lib.hid hX.out
  have HY := Lib.hid hY.out
  have HF := Lib.hid hF
  have HP := Lib.hid hP
  rw [ledB_at hX.out hY.out] at hr
  obtain ⟨ss, hss⟩ : ∃ s, s = decide (sx' = stSex 1) := ⟨_, rfl⟩
  have HSS := Lib.hid hss
  have hse : (sx' == stSex 1) = ss := by rw [hss]; by_cases h : sx' = stSex 1 <;> simp [h]
  have HR := Lib.hid hr
  clear hr hX hY hF h hP hss x0 x1 x4 x5 y0 y4 y5
  go_enter Try.func106, Try.ntmps106
  go_upto_region 1 with fail
  refine wp_region_held_drew (S := (fun w' => w'.cell? ⟨BF, 0, none⟩ = some (.slice (some ⟨B, O, none⟩) f.1.length cap) ∧ w'.cell? ⟨BF, 1, none⟩ = some v2 ∧ w'.cell? ⟨BS, 0, none⟩ = some (.int .i64 1) ∧ w'.cell? ⟨BS, 1, none⟩ = some (.int .i64 g) ∧ w'.cell? ⟨BM, 0, none⟩ = some (.map (some M)) ∧ w'.cell? ⟨B, O + a * 6 + 2, none⟩ = some (.int .i64 fa) ∧ w'.cell? ⟨B, O + a * 6 + 3, none⟩ = some (.int .i64 mo) ∧ w'.cell? ⟨B, O + b * 6 + 1, none⟩ = some (.int .i64 sx'))) (by kernel_rfl) ?_ (fun hHeld => ?_)
  · first | exact trivial | ((try dsimp only); go_keep)
  refine tkR 0 (v := ?_) ?_ ?_
  rotate_left
  · intro w hSw; (try dsimp only at hSw); go_simp <;> with_reducible rfl
  try simp only [Act.put, List.setIfInBounds_toArray, List.set_cons_zero, List.set_cons_succ]
  refine tkR 2 (v := ?_) ?_ ?_
  rotate_left
  · intro w hSw; (try dsimp only at hSw); go_simp <;> with_reducible rfl
  try simp only [Act.put, List.setIfInBounds_toArray, List.set_cons_zero, List.set_cons_succ]
  refine tkR 6 (v := ?_) ?_ ?_
  rotate_left
  · intro w hSw; (try dsimp only at hSw); go_simp <;> with_reducible rfl
  try simp only [Act.put, List.setIfInBounds_toArray, List.set_cons_zero, List.set_cons_succ]
  refine tkR 1 (v := ?_) ?_ ?_
  rotate_left
  · intro w hSw; (try dsimp only at hSw); go_simp <;> with_reducible rfl
  try simp only [Act.put, List.setIfInBounds_toArray, List.set_cons_zero, List.set_cons_succ]
  refine tkR 7 (v := ?_) ?_ ?_
  rotate_left
  · intro w hSw; (try dsimp only at hSw); go_simp <;> with_reducible rfl
  try simp only [Act.put, List.setIfInBounds_toArray, List.set_cons_zero, List.set_cons_succ]
  refine tkR 3 (v := ?_) ?_ ?_
  rotate_left
  · intro w hSw; (try dsimp only at hSw); go_simp <;> with_reducible rfl
  try simp only [Act.put, List.setIfInBounds_toArray, List.set_cons_zero, List.set_cons_succ]
  refine tkR 4 (v := ?_) ?_ ?_
  rotate_left
  · intro w hSw; (try dsimp only at hSw); go_simp <;> with_reducible rfl
  try simp only [Act.put, List.setIfInBounds_toArray, List.set_cons_zero, List.set_cons_succ]
  refine tkR 5 (v := ?_) ?_ ?_
  rotate_left
  · intro w hSw; (try dsimp only at hSw); go_simp <;> with_reducible rfl
  try simp only [Act.put, List.setIfInBounds_toArray, List.set_cons_zero, List.set_cons_succ]
  refine wpAnyH_ready (rs := [8]) (by kernel_rfl) (by simp) ?_
  refine rdR (fun K hK => ?_) ?_
  · go_simp
    refine (stepSexI_any _ 1 (by omega)).mono ?_
    rintro e1 w1 ⟨rfl, hb1⟩
    have hp1 : Below W.heap.size W w1 := Below.trans (show Below W.heap.size W _ from bwT) (hb1.mono szT)
    have hS1 := And.intro (oldc hp1 lF q0) (And.intro (oldc hp1 lF q1) (And.intro (oldc hp1 lS s0) (And.intro (oldc hp1 lS s1) (And.intro (oldc hp1 lM m0) (And.intro (oldc hp1 hbl x2) (And.intro (oldc hp1 hbl x3) (oldc hp1 hbl y1)))))))
    clear hb1
    refine hK.out _ _ ?_ (fun hHeld => ?_)
    · exact kpT
    clear hK K
    try simp only [Act.put, List.setIfInBounds_toArray, List.set_cons_zero, List.set_cons_succ]
    refine tkR 9 (v := ?_) ?_ ?_
    rotate_left
    · intro w hSw; (try dsimp only at hSw); go_simp <;> with_reducible rfl
    try simp only [Act.put, List.setIfInBounds_toArray, List.set_cons_zero, List.set_cons_succ]
    refine tkR 10 (v := ?_) ?_ ?_
    rotate_left
    · intro w hSw; (try dsimp only at hSw); go_simp <;> with_reducible rfl
    try simp only [Act.put, List.setIfInBounds_toArray, List.set_cons_zero, List.set_cons_succ]
    refine wpAnyH_done (by kernel_rfl) ?_ _
    obtain ⟨t0, t1, u0, u1, n0, a2, a3, b1⟩ := hS1
    have HP1 := Lib.hid (HP.out.below hp1)
    have HF1 := Lib.hid (HF.out.below hp1)
    clear HP HF q0 q1 s0 s1 m0 x2 x3 y1
    have HT := Lib.hid (show r = decide (fa = (b : Int)) from HR.out)
    have ep : (fa == (b : Int)) = r := by rw [HT.out]; by_cases h : fa = (b : Int) <;> simp [h]
    clear HR
    go_wp2
    go_ret
    exact ⟨ret_bool rfl, hp1⟩
  exact AllReadyH.nil
set_option maxHeartbeats 8000000 in
theorem stepCl2_b (hk : k = 2) (hg : g = 0 ∨ g = 1 ∨ g = 2) (hr : r = ledB f (k, g) a b) : Calls Try.prog 106 #[.int .i64 a, .int .i64 b, .pointer (some ⟨BF, 0, none⟩), .pointer (some ⟨BS, 0, none⟩), .pointer (some ⟨BM, 0, none⟩)] W (PostB W r) := by
  have h40c : f.1.length ≤ 40 := h40
  clear h40c
  subst hk
  have hF := h.fam.1
  obtain ⟨B, O, nm, sx, fa, mo, bo, di, e1, hX, x0, x1, x2, x3, x4, x5, -, -, -, -, -, -, -, -, hbl, -⟩ := hF.per_at ha
  subst e1
  obtain ⟨_, _, nm', sx', fa', mo', bo', di', e, hY, y0, y1, y2, y3, y4, y5, -⟩ := hF.per_at hb
  simp only [Option.some.injEq, Addr.mk.injEq, and_true] at e
  obtain ⟨rfl, rfl⟩ := e
  have haI : (a : Int) < (f.1.length : Int) := by omega
  have hbI : (b : Int) < (f.1.length : Int) := by omega
  have lF : BF < W.heap.size := World.block_lt_of_cell? W ⟨BF, 0, none⟩ q0
  have lS : BS < W.heap.size := World.block_lt_of_cell? W ⟨BS, 0, none⟩ s0
  have lM : BM < W.heap.size := World.block_lt_of_cell? W ⟨BM, 0, none⟩ m0
  have HX := Lib.hid hX.out
  have HY := Lib.hid hY.out
  have HF := Lib.hid hF
  have HP := Lib.hid hP
  rw [ledB_at hX.out hY.out] at hr
  obtain ⟨ss, hss⟩ : ∃ s, s = decide (sx' = stSex 2) := ⟨_, rfl⟩
  have HSS := Lib.hid hss
  have hse : (sx' == stSex 2) = ss := by rw [hss]; by_cases h : sx' = stSex 2 <;> simp [h]
  have HR := Lib.hid hr
  clear hr hX hY hF h hP hss x0 x1 x4 x5 y0 y4 y5
  go_enter Try.func106, Try.ntmps106
  go_upto_region 1 with fail
  refine wp_region_held_drew (S := (fun w' => w'.cell? ⟨BF, 0, none⟩ = some (.slice (some ⟨B, O, none⟩) f.1.length cap) ∧ w'.cell? ⟨BF, 1, none⟩ = some v2 ∧ w'.cell? ⟨BS, 0, none⟩ = some (.int .i64 2) ∧ w'.cell? ⟨BS, 1, none⟩ = some (.int .i64 g) ∧ w'.cell? ⟨BM, 0, none⟩ = some (.map (some M)) ∧ w'.cell? ⟨B, O + a * 6 + 2, none⟩ = some (.int .i64 fa) ∧ w'.cell? ⟨B, O + a * 6 + 3, none⟩ = some (.int .i64 mo) ∧ w'.cell? ⟨B, O + b * 6 + 1, none⟩ = some (.int .i64 sx'))) (by kernel_rfl) ?_ (fun hHeld => ?_)
  · first | exact trivial | ((try dsimp only); go_keep)
  refine tkR 0 (v := ?_) ?_ ?_
  rotate_left
  · intro w hSw; (try dsimp only at hSw); go_simp <;> with_reducible rfl
  try simp only [Act.put, List.setIfInBounds_toArray, List.set_cons_zero, List.set_cons_succ]
  refine tkR 2 (v := ?_) ?_ ?_
  rotate_left
  · intro w hSw; (try dsimp only at hSw); go_simp <;> with_reducible rfl
  try simp only [Act.put, List.setIfInBounds_toArray, List.set_cons_zero, List.set_cons_succ]
  refine tkR 6 (v := ?_) ?_ ?_
  rotate_left
  · intro w hSw; (try dsimp only at hSw); go_simp <;> with_reducible rfl
  try simp only [Act.put, List.setIfInBounds_toArray, List.set_cons_zero, List.set_cons_succ]
  refine tkR 1 (v := ?_) ?_ ?_
  rotate_left
  · intro w hSw; (try dsimp only at hSw); go_simp <;> with_reducible rfl
  try simp only [Act.put, List.setIfInBounds_toArray, List.set_cons_zero, List.set_cons_succ]
  refine tkR 7 (v := ?_) ?_ ?_
  rotate_left
  · intro w hSw; (try dsimp only at hSw); go_simp <;> with_reducible rfl
  try simp only [Act.put, List.setIfInBounds_toArray, List.set_cons_zero, List.set_cons_succ]
  refine tkR 3 (v := ?_) ?_ ?_
  rotate_left
  · intro w hSw; (try dsimp only at hSw); go_simp <;> with_reducible rfl
  try simp only [Act.put, List.setIfInBounds_toArray, List.set_cons_zero, List.set_cons_succ]
  refine tkR 4 (v := ?_) ?_ ?_
  rotate_left
  · intro w hSw; (try dsimp only at hSw); go_simp <;> with_reducible rfl
  try simp only [Act.put, List.setIfInBounds_toArray, List.set_cons_zero, List.set_cons_succ]
  refine tkR 5 (v := ?_) ?_ ?_
  rotate_left
  · intro w hSw; (try dsimp only at hSw); go_simp <;> with_reducible rfl
  try simp only [Act.put, List.setIfInBounds_toArray, List.set_cons_zero, List.set_cons_succ]
  refine wpAnyH_ready (rs := [8]) (by kernel_rfl) (by simp) ?_
  refine rdR (fun K hK => ?_) ?_
  · go_simp
    refine (stepSexI_any _ 2 (by omega)).mono ?_
    rintro e1 w1 ⟨rfl, hb1⟩
    have hp1 : Below W.heap.size W w1 := Below.trans (show Below W.heap.size W _ from bwT) (hb1.mono szT)
    have hS1 := And.intro (oldc hp1 lF q0) (And.intro (oldc hp1 lF q1) (And.intro (oldc hp1 lS s0) (And.intro (oldc hp1 lS s1) (And.intro (oldc hp1 lM m0) (And.intro (oldc hp1 hbl x2) (And.intro (oldc hp1 hbl x3) (oldc hp1 hbl y1)))))))
    clear hb1
    refine hK.out _ _ ?_ (fun hHeld => ?_)
    · exact kpT
    clear hK K
    try simp only [Act.put, List.setIfInBounds_toArray, List.set_cons_zero, List.set_cons_succ]
    refine tkR 9 (v := ?_) ?_ ?_
    rotate_left
    · intro w hSw; (try dsimp only at hSw); go_simp <;> with_reducible rfl
    try simp only [Act.put, List.setIfInBounds_toArray, List.set_cons_zero, List.set_cons_succ]
    refine tkR 10 (v := ?_) ?_ ?_
    rotate_left
    · intro w hSw; (try dsimp only at hSw); go_simp <;> with_reducible rfl
    try simp only [Act.put, List.setIfInBounds_toArray, List.set_cons_zero, List.set_cons_succ]
    refine wpAnyH_done (by kernel_rfl) ?_ _
    obtain ⟨t0, t1, u0, u1, n0, a2, a3, b1⟩ := hS1
    have HP1 := Lib.hid (HP.out.below hp1)
    have HF1 := Lib.hid (HF.out.below hp1)
    clear HP HF q0 q1 s0 s1 m0 x2 x3 y1
    have HT := Lib.hid (show r = decide (mo = (b : Int)) from HR.out)
    have ep : (mo == (b : Int)) = r := by rw [HT.out]; by_cases h : mo = (b : Int) <;> simp [h]
    clear HR
    go_wp2
    go_ret
    exact ⟨ret_bool rfl, hp1⟩
  exact AllReadyH.nil
set_option maxHeartbeats 8000000 in
theorem stepCl3_b (hk : k = 3) (hg : g = 0 ∨ g = 1 ∨ g = 2) (hr : r = ledB f (k, g) a b) : Calls Try.prog 106 #[.int .i64 a, .int .i64 b, .pointer (some ⟨BF, 0, none⟩), .pointer (some ⟨BS, 0, none⟩), .pointer (some ⟨BM, 0, none⟩)] W (PostB W r) := by
  have h40c : f.1.length ≤ 40 := h40
  clear h40c
  subst hk
  have hF := h.fam.1
  obtain ⟨B, O, nm, sx, fa, mo, bo, di, e1, hX, x0, x1, x2, x3, x4, x5, -, -, -, -, -, -, -, -, hbl, -⟩ := hF.per_at ha
  subst e1
  obtain ⟨_, _, nm', sx', fa', mo', bo', di', e, hY, y0, y1, y2, y3, y4, y5, -⟩ := hF.per_at hb
  simp only [Option.some.injEq, Addr.mk.injEq, and_true] at e
  obtain ⟨rfl, rfl⟩ := e
  have haI : (a : Int) < (f.1.length : Int) := by omega
  have hbI : (b : Int) < (f.1.length : Int) := by omega
  have lF : BF < W.heap.size := World.block_lt_of_cell? W ⟨BF, 0, none⟩ q0
  have lS : BS < W.heap.size := World.block_lt_of_cell? W ⟨BS, 0, none⟩ s0
  have lM : BM < W.heap.size := World.block_lt_of_cell? W ⟨BM, 0, none⟩ m0
  have HX := Lib.hid hX.out
  have HY := Lib.hid hY.out
  have HF := Lib.hid hF
  have HP := Lib.hid hP
  rw [ledB_at hX.out hY.out] at hr
  obtain ⟨ss, hss⟩ : ∃ s, s = decide (sx' = stSex 3) := ⟨_, rfl⟩
  have HSS := Lib.hid hss
  have hse : (sx' == stSex 3) = ss := by rw [hss]; by_cases h : sx' = stSex 3 <;> simp [h]
  have HR := Lib.hid hr
  clear hr hX hY hF h hP hss x0 x1 x4 x5 y0 y4 y5
  go_enter Try.func106, Try.ntmps106
  go_upto_region 1 with fail
  refine wp_region_held_drew (S := (fun w' => w'.cell? ⟨BF, 0, none⟩ = some (.slice (some ⟨B, O, none⟩) f.1.length cap) ∧ w'.cell? ⟨BF, 1, none⟩ = some v2 ∧ w'.cell? ⟨BS, 0, none⟩ = some (.int .i64 3) ∧ w'.cell? ⟨BS, 1, none⟩ = some (.int .i64 g) ∧ w'.cell? ⟨BM, 0, none⟩ = some (.map (some M)) ∧ w'.cell? ⟨B, O + a * 6 + 2, none⟩ = some (.int .i64 fa) ∧ w'.cell? ⟨B, O + a * 6 + 3, none⟩ = some (.int .i64 mo) ∧ w'.cell? ⟨B, O + b * 6 + 1, none⟩ = some (.int .i64 sx'))) (by kernel_rfl) ?_ (fun hHeld => ?_)
  · first | exact trivial | ((try dsimp only); go_keep)
  refine tkR 0 (v := ?_) ?_ ?_
  rotate_left
  · intro w hSw; (try dsimp only at hSw); go_simp <;> with_reducible rfl
  try simp only [Act.put, List.setIfInBounds_toArray, List.set_cons_zero, List.set_cons_succ]
  refine tkR 2 (v := ?_) ?_ ?_
  rotate_left
  · intro w hSw; (try dsimp only at hSw); go_simp <;> with_reducible rfl
  try simp only [Act.put, List.setIfInBounds_toArray, List.set_cons_zero, List.set_cons_succ]
  refine tkR 6 (v := ?_) ?_ ?_
  rotate_left
  · intro w hSw; (try dsimp only at hSw); go_simp <;> with_reducible rfl
  try simp only [Act.put, List.setIfInBounds_toArray, List.set_cons_zero, List.set_cons_succ]
  refine tkR 1 (v := ?_) ?_ ?_
  rotate_left
  · intro w hSw; (try dsimp only at hSw); go_simp <;> with_reducible rfl
  try simp only [Act.put, List.setIfInBounds_toArray, List.set_cons_zero, List.set_cons_succ]
  refine tkR 7 (v := ?_) ?_ ?_
  rotate_left
  · intro w hSw; (try dsimp only at hSw); go_simp <;> with_reducible rfl
  try simp only [Act.put, List.setIfInBounds_toArray, List.set_cons_zero, List.set_cons_succ]
  refine tkR 3 (v := ?_) ?_ ?_
  rotate_left
  · intro w hSw; (try dsimp only at hSw); go_simp <;> with_reducible rfl
  try simp only [Act.put, List.setIfInBounds_toArray, List.set_cons_zero, List.set_cons_succ]
  refine tkR 4 (v := ?_) ?_ ?_
  rotate_left
  · intro w hSw; (try dsimp only at hSw); go_simp <;> with_reducible rfl
  try simp only [Act.put, List.setIfInBounds_toArray, List.set_cons_zero, List.set_cons_succ]
  refine tkR 5 (v := ?_) ?_ ?_
  rotate_left
  · intro w hSw; (try dsimp only at hSw); go_simp <;> with_reducible rfl
  try simp only [Act.put, List.setIfInBounds_toArray, List.set_cons_zero, List.set_cons_succ]
  refine wpAnyH_ready (rs := [8]) (by kernel_rfl) (by simp) ?_
  refine rdR (fun K hK => ?_) ?_
  · go_simp
    refine (stepSexI_any _ 3 (by omega)).mono ?_
    rintro e1 w1 ⟨rfl, hb1⟩
    have hp1 : Below W.heap.size W w1 := Below.trans (show Below W.heap.size W _ from bwT) (hb1.mono szT)
    have hS1 := And.intro (oldc hp1 lF q0) (And.intro (oldc hp1 lF q1) (And.intro (oldc hp1 lS s0) (And.intro (oldc hp1 lS s1) (And.intro (oldc hp1 lM m0) (And.intro (oldc hp1 hbl x2) (And.intro (oldc hp1 hbl x3) (oldc hp1 hbl y1)))))))
    clear hb1
    refine hK.out _ _ ?_ (fun hHeld => ?_)
    · exact kpT
    clear hK K
    try simp only [Act.put, List.setIfInBounds_toArray, List.set_cons_zero, List.set_cons_succ]
    refine tkR 9 (v := ?_) ?_ ?_
    rotate_left
    · intro w hSw; (try dsimp only at hSw); go_simp <;> with_reducible rfl
    try simp only [Act.put, List.setIfInBounds_toArray, List.set_cons_zero, List.set_cons_succ]
    refine tkR 10 (v := ?_) ?_ ?_
    rotate_left
    · intro w hSw; (try dsimp only at hSw); go_simp <;> with_reducible rfl
    try simp only [Act.put, List.setIfInBounds_toArray, List.set_cons_zero, List.set_cons_succ]
    refine wpAnyH_done (by kernel_rfl) ?_ _
    obtain ⟨t0, t1, u0, u1, n0, a2, a3, b1⟩ := hS1
    have HP1 := Lib.hid (HP.out.below hp1)
    have HF1 := Lib.hid (HF.out.below hp1)
    clear HP HF q0 q1 s0 s1 m0 x2 x3 y1
    have HT := Lib.hid (show r = (ss && (fullB (nm, sx, fa, mo, bo, di) (nm', sx', fa', mo', bo', di') a b && ((decide (g ≠ 1) || eldB (nm', sx', fa', mo', bo', di') (nm, sx, fa, mo, bo, di) b a) && (decide (g ≠ 2) || eldB (nm, sx, fa, mo, bo, di) (nm', sx', fa', mo', bo', di') a b)))) by rw [HR.out, HSS.out]; rfl)
    clear HR
    cases ss
    · have HZ := Lib.hid (show r = false by rw [HT.out]; rfl)
      clear HT
      go_wp2
      go_ret
      exact ⟨ret_bool HZ.out.symm, hp1⟩
    obtain ⟨fu, hfu⟩ : ∃ q, q = fullB (nm, sx, fa, mo, bo, di) (nm', sx', fa', mo', bo', di') a b := ⟨_, rfl⟩
    have HFU := Lib.hid hfu
    rw [← hfu] at HT
    clear hfu
    go_wp2_with fail
    refine (areFull_b _ _ _ f.1 (HF1.out.below bwT) a b HX.out HY.out fu HFU.out).mono ?_
    rintro e2 w2 ⟨rfl, hb2⟩
    have hp2 : Below W.heap.size W w2 := hp1.trans (Below.mono hb2 hp1.size)
    have l1 := hp1.size
    have t0 := oldc hb2 (by omega) t0
    have t1 := oldc hb2 (by omega) t1
    have u0 := oldc hb2 (by omega) u0
    have u1 := oldc hb2 (by omega) u1
    have l2 := hb2.size
    have HF2 := Lib.hid (HF1.out.below hb2)
    clear hb2 HFU
    cases fu
    · have HZ := Lib.hid (show r = false by rw [HT.out]; rfl)
      clear HT
      go_wp2
      go_ret
      exact ⟨ret_bool HZ.out.symm, hp2⟩
    obtain ⟨p, hp⟩ : ∃ q, q = eldB (nm', sx', fa', mo', bo', di') (nm, sx, fa, mo, bo, di) b a := ⟨_, rfl⟩
    obtain ⟨q, hq⟩ : ∃ q, q = eldB (nm, sx, fa, mo, bo, di) (nm', sx', fa', mo', bo', di') a b := ⟨_, rfl⟩
    have HPP := Lib.hid hp
    have HQQ := Lib.hid hq
    rw [← hp, ← hq] at HT
    clear hp hq
    rcases hg with rfl | rfl | rfl
    · have HZ := Lib.hid (show r = true by rw [HT.out]; rfl)
      clear HT
      go_wp2
      go_ret
      exact ⟨ret_bool HZ.out.symm, hp2⟩
    · have HZ := Lib.hid (show r = p by rw [HT.out]; cases p <;> rfl)
      clear HT
      go_wp2_with fail
      refine (isElder_b _ _ _ f.1 (HF2.out.below bwT) b a HY.out HX.out p HPP.out).mono ?_
      rintro e3 w3 ⟨rfl, hb3⟩
      have hp3 : Below W.heap.size W w3 := hp2.trans (Below.mono hb3 hp2.size)
      have u1 := oldc hb3 (by omega) u1
      clear hb3
      cases p
      · go_wp2
        go_ret
        exact ⟨ret_bool HZ.out.symm, hp3⟩
      · go_wp2
        go_ret
        exact ⟨ret_bool HZ.out.symm, hp3⟩
    · have HZ := Lib.hid (show r = q by rw [HT.out]; cases q <;> rfl)
      clear HT
      go_wp2_with fail
      refine (isElder_b _ _ _ f.1 (HF2.out.below bwT) a b HX.out HY.out q HQQ.out).mono ?_
      rintro e3 w3 ⟨rfl, hb3⟩
      have hp3 : Below W.heap.size W w3 := hp2.trans (Below.mono hb3 hp2.size)
      clear hb3
      cases q
      · go_wp2
        go_ret
        exact ⟨ret_bool HZ.out.symm, hp3⟩
      · go_wp2
        go_ret
        exact ⟨ret_bool HZ.out.symm, hp3⟩
  exact AllReadyH.nil
set_option maxHeartbeats 8000000 in
theorem stepCl4_b (hk : k = 4) (hg : g = 0 ∨ g = 1 ∨ g = 2) (hr : r = ledB f (k, g) a b) : Calls Try.prog 106 #[.int .i64 a, .int .i64 b, .pointer (some ⟨BF, 0, none⟩), .pointer (some ⟨BS, 0, none⟩), .pointer (some ⟨BM, 0, none⟩)] W (PostB W r) := by
  have h40c : f.1.length ≤ 40 := h40
  clear h40c
  subst hk
  have hF := h.fam.1
  obtain ⟨B, O, nm, sx, fa, mo, bo, di, e1, hX, x0, x1, x2, x3, x4, x5, -, -, -, -, -, -, -, -, hbl, -⟩ := hF.per_at ha
  subst e1
  obtain ⟨_, _, nm', sx', fa', mo', bo', di', e, hY, y0, y1, y2, y3, y4, y5, -⟩ := hF.per_at hb
  simp only [Option.some.injEq, Addr.mk.injEq, and_true] at e
  obtain ⟨rfl, rfl⟩ := e
  have haI : (a : Int) < (f.1.length : Int) := by omega
  have hbI : (b : Int) < (f.1.length : Int) := by omega
  have lF : BF < W.heap.size := World.block_lt_of_cell? W ⟨BF, 0, none⟩ q0
  have lS : BS < W.heap.size := World.block_lt_of_cell? W ⟨BS, 0, none⟩ s0
  have lM : BM < W.heap.size := World.block_lt_of_cell? W ⟨BM, 0, none⟩ m0
  have HX := Lib.hid hX.out
  have HY := Lib.hid hY.out
  have HF := Lib.hid hF
  have HP := Lib.hid hP
  rw [ledB_at hX.out hY.out] at hr
  obtain ⟨ss, hss⟩ : ∃ s, s = decide (sx' = stSex 4) := ⟨_, rfl⟩
  have HSS := Lib.hid hss
  have hse : (sx' == stSex 4) = ss := by rw [hss]; by_cases h : sx' = stSex 4 <;> simp [h]
  have HR := Lib.hid hr
  clear hr hX hY hF h hP hss x0 x1 x4 x5 y0 y4 y5
  go_enter Try.func106, Try.ntmps106
  go_upto_region 1 with fail
  refine wp_region_held_drew (S := (fun w' => w'.cell? ⟨BF, 0, none⟩ = some (.slice (some ⟨B, O, none⟩) f.1.length cap) ∧ w'.cell? ⟨BF, 1, none⟩ = some v2 ∧ w'.cell? ⟨BS, 0, none⟩ = some (.int .i64 4) ∧ w'.cell? ⟨BS, 1, none⟩ = some (.int .i64 g) ∧ w'.cell? ⟨BM, 0, none⟩ = some (.map (some M)) ∧ w'.cell? ⟨B, O + a * 6 + 2, none⟩ = some (.int .i64 fa) ∧ w'.cell? ⟨B, O + a * 6 + 3, none⟩ = some (.int .i64 mo) ∧ w'.cell? ⟨B, O + b * 6 + 1, none⟩ = some (.int .i64 sx'))) (by kernel_rfl) ?_ (fun hHeld => ?_)
  · first | exact trivial | ((try dsimp only); go_keep)
  refine tkR 0 (v := ?_) ?_ ?_
  rotate_left
  · intro w hSw; (try dsimp only at hSw); go_simp <;> with_reducible rfl
  try simp only [Act.put, List.setIfInBounds_toArray, List.set_cons_zero, List.set_cons_succ]
  refine tkR 2 (v := ?_) ?_ ?_
  rotate_left
  · intro w hSw; (try dsimp only at hSw); go_simp <;> with_reducible rfl
  try simp only [Act.put, List.setIfInBounds_toArray, List.set_cons_zero, List.set_cons_succ]
  refine tkR 6 (v := ?_) ?_ ?_
  rotate_left
  · intro w hSw; (try dsimp only at hSw); go_simp <;> with_reducible rfl
  try simp only [Act.put, List.setIfInBounds_toArray, List.set_cons_zero, List.set_cons_succ]
  refine tkR 1 (v := ?_) ?_ ?_
  rotate_left
  · intro w hSw; (try dsimp only at hSw); go_simp <;> with_reducible rfl
  try simp only [Act.put, List.setIfInBounds_toArray, List.set_cons_zero, List.set_cons_succ]
  refine tkR 7 (v := ?_) ?_ ?_
  rotate_left
  · intro w hSw; (try dsimp only at hSw); go_simp <;> with_reducible rfl
  try simp only [Act.put, List.setIfInBounds_toArray, List.set_cons_zero, List.set_cons_succ]
  refine tkR 3 (v := ?_) ?_ ?_
  rotate_left
  · intro w hSw; (try dsimp only at hSw); go_simp <;> with_reducible rfl
  try simp only [Act.put, List.setIfInBounds_toArray, List.set_cons_zero, List.set_cons_succ]
  refine tkR 4 (v := ?_) ?_ ?_
  rotate_left
  · intro w hSw; (try dsimp only at hSw); go_simp <;> with_reducible rfl
  try simp only [Act.put, List.setIfInBounds_toArray, List.set_cons_zero, List.set_cons_succ]
  refine tkR 5 (v := ?_) ?_ ?_
  rotate_left
  · intro w hSw; (try dsimp only at hSw); go_simp <;> with_reducible rfl
  try simp only [Act.put, List.setIfInBounds_toArray, List.set_cons_zero, List.set_cons_succ]
  refine wpAnyH_ready (rs := [8]) (by kernel_rfl) (by simp) ?_
  refine rdR (fun K hK => ?_) ?_
  · go_simp
    refine (stepSexI_any _ 4 (by omega)).mono ?_
    rintro e1 w1 ⟨rfl, hb1⟩
    have hp1 : Below W.heap.size W w1 := Below.trans (show Below W.heap.size W _ from bwT) (hb1.mono szT)
    have hS1 := And.intro (oldc hp1 lF q0) (And.intro (oldc hp1 lF q1) (And.intro (oldc hp1 lS s0) (And.intro (oldc hp1 lS s1) (And.intro (oldc hp1 lM m0) (And.intro (oldc hp1 hbl x2) (And.intro (oldc hp1 hbl x3) (oldc hp1 hbl y1)))))))
    clear hb1
    refine hK.out _ _ ?_ (fun hHeld => ?_)
    · exact kpT
    clear hK K
    try simp only [Act.put, List.setIfInBounds_toArray, List.set_cons_zero, List.set_cons_succ]
    refine tkR 9 (v := ?_) ?_ ?_
    rotate_left
    · intro w hSw; (try dsimp only at hSw); go_simp <;> with_reducible rfl
    try simp only [Act.put, List.setIfInBounds_toArray, List.set_cons_zero, List.set_cons_succ]
    refine tkR 10 (v := ?_) ?_ ?_
    rotate_left
    · intro w hSw; (try dsimp only at hSw); go_simp <;> with_reducible rfl
    try simp only [Act.put, List.setIfInBounds_toArray, List.set_cons_zero, List.set_cons_succ]
    refine wpAnyH_done (by kernel_rfl) ?_ _
    obtain ⟨t0, t1, u0, u1, n0, a2, a3, b1⟩ := hS1
    have HP1 := Lib.hid (HP.out.below hp1)
    have HF1 := Lib.hid (HF.out.below hp1)
    clear HP HF q0 q1 s0 s1 m0 x2 x3 y1
    have HT := Lib.hid (show r = (ss && (fullB (nm, sx, fa, mo, bo, di) (nm', sx', fa', mo', bo', di') a b && ((decide (g ≠ 1) || eldB (nm', sx', fa', mo', bo', di') (nm, sx, fa, mo, bo, di) b a) && (decide (g ≠ 2) || eldB (nm, sx, fa, mo, bo, di) (nm', sx', fa', mo', bo', di') a b)))) by rw [HR.out, HSS.out]; rfl)
    clear HR
    cases ss
    · have HZ := Lib.hid (show r = false by rw [HT.out]; rfl)
      clear HT
      go_wp2
      go_ret
      exact ⟨ret_bool HZ.out.symm, hp1⟩
    obtain ⟨fu, hfu⟩ : ∃ q, q = fullB (nm, sx, fa, mo, bo, di) (nm', sx', fa', mo', bo', di') a b := ⟨_, rfl⟩
    have HFU := Lib.hid hfu
    rw [← hfu] at HT
    clear hfu
    go_wp2_with fail
    refine (areFull_b _ _ _ f.1 (HF1.out.below bwT) a b HX.out HY.out fu HFU.out).mono ?_
    rintro e2 w2 ⟨rfl, hb2⟩
    have hp2 : Below W.heap.size W w2 := hp1.trans (Below.mono hb2 hp1.size)
    have l1 := hp1.size
    have t0 := oldc hb2 (by omega) t0
    have t1 := oldc hb2 (by omega) t1
    have u0 := oldc hb2 (by omega) u0
    have u1 := oldc hb2 (by omega) u1
    have l2 := hb2.size
    have HF2 := Lib.hid (HF1.out.below hb2)
    clear hb2 HFU
    cases fu
    · have HZ := Lib.hid (show r = false by rw [HT.out]; rfl)
      clear HT
      go_wp2
      go_ret
      exact ⟨ret_bool HZ.out.symm, hp2⟩
    obtain ⟨p, hp⟩ : ∃ q, q = eldB (nm', sx', fa', mo', bo', di') (nm, sx, fa, mo, bo, di) b a := ⟨_, rfl⟩
    obtain ⟨q, hq⟩ : ∃ q, q = eldB (nm, sx, fa, mo, bo, di) (nm', sx', fa', mo', bo', di') a b := ⟨_, rfl⟩
    have HPP := Lib.hid hp
    have HQQ := Lib.hid hq
    rw [← hp, ← hq] at HT
    clear hp hq
    rcases hg with rfl | rfl | rfl
    · have HZ := Lib.hid (show r = true by rw [HT.out]; rfl)
      clear HT
      go_wp2
      go_ret
      exact ⟨ret_bool HZ.out.symm, hp2⟩
    · have HZ := Lib.hid (show r = p by rw [HT.out]; cases p <;> rfl)
      clear HT
      go_wp2_with fail
      refine (isElder_b _ _ _ f.1 (HF2.out.below bwT) b a HY.out HX.out p HPP.out).mono ?_
      rintro e3 w3 ⟨rfl, hb3⟩
      have hp3 : Below W.heap.size W w3 := hp2.trans (Below.mono hb3 hp2.size)
      have u1 := oldc hb3 (by omega) u1
      clear hb3
      cases p
      · go_wp2
        go_ret
        exact ⟨ret_bool HZ.out.symm, hp3⟩
      · go_wp2
        go_ret
        exact ⟨ret_bool HZ.out.symm, hp3⟩
    · have HZ := Lib.hid (show r = q by rw [HT.out]; cases q <;> rfl)
      clear HT
      go_wp2_with fail
      refine (isElder_b _ _ _ f.1 (HF2.out.below bwT) a b HX.out HY.out q HQQ.out).mono ?_
      rintro e3 w3 ⟨rfl, hb3⟩
      have hp3 : Below W.heap.size W w3 := hp2.trans (Below.mono hb3 hp2.size)
      clear hb3
      cases q
      · go_wp2
        go_ret
        exact ⟨ret_bool HZ.out.symm, hp3⟩
      · go_wp2
        go_ret
        exact ⟨ret_bool HZ.out.symm, hp3⟩
  exact AllReadyH.nil
set_option maxHeartbeats 8000000 in
theorem stepCl5_b (hk : k = 5) (hg : g = 0 ∨ g = 1 ∨ g = 2) (hr : r = ledB f (k, g) a b) : Calls Try.prog 106 #[.int .i64 a, .int .i64 b, .pointer (some ⟨BF, 0, none⟩), .pointer (some ⟨BS, 0, none⟩), .pointer (some ⟨BM, 0, none⟩)] W (PostB W r) := by
  have h40c : f.1.length ≤ 40 := h40
  clear h40c
  subst hk
  have hF := h.fam.1
  obtain ⟨B, O, nm, sx, fa, mo, bo, di, e1, hX, x0, x1, x2, x3, x4, x5, -, -, -, -, -, -, -, -, hbl, -⟩ := hF.per_at ha
  subst e1
  obtain ⟨_, _, nm', sx', fa', mo', bo', di', e, hY, y0, y1, y2, y3, y4, y5, -⟩ := hF.per_at hb
  simp only [Option.some.injEq, Addr.mk.injEq, and_true] at e
  obtain ⟨rfl, rfl⟩ := e
  have haI : (a : Int) < (f.1.length : Int) := by omega
  have hbI : (b : Int) < (f.1.length : Int) := by omega
  have lF : BF < W.heap.size := World.block_lt_of_cell? W ⟨BF, 0, none⟩ q0
  have lS : BS < W.heap.size := World.block_lt_of_cell? W ⟨BS, 0, none⟩ s0
  have lM : BM < W.heap.size := World.block_lt_of_cell? W ⟨BM, 0, none⟩ m0
  have HX := Lib.hid hX.out
  have HY := Lib.hid hY.out
  have HF := Lib.hid hF
  have HP := Lib.hid hP
  rw [ledB_at hX.out hY.out] at hr
  obtain ⟨ss, hss⟩ : ∃ s, s = decide (sx' = stSex 5) := ⟨_, rfl⟩
  have HSS := Lib.hid hss
  have hse : (sx' == stSex 5) = ss := by rw [hss]; by_cases h : sx' = stSex 5 <;> simp [h]
  have HR := Lib.hid hr
  clear hr hX hY hF h hP hss x0 x1 x4 x5 y0 y4 y5
  go_enter Try.func106, Try.ntmps106
  go_upto_region 1 with fail
  refine wp_region_held_drew (S := (fun w' => w'.cell? ⟨BF, 0, none⟩ = some (.slice (some ⟨B, O, none⟩) f.1.length cap) ∧ w'.cell? ⟨BF, 1, none⟩ = some v2 ∧ w'.cell? ⟨BS, 0, none⟩ = some (.int .i64 5) ∧ w'.cell? ⟨BS, 1, none⟩ = some (.int .i64 g) ∧ w'.cell? ⟨BM, 0, none⟩ = some (.map (some M)) ∧ w'.cell? ⟨B, O + a * 6 + 2, none⟩ = some (.int .i64 fa) ∧ w'.cell? ⟨B, O + a * 6 + 3, none⟩ = some (.int .i64 mo) ∧ w'.cell? ⟨B, O + b * 6 + 1, none⟩ = some (.int .i64 sx'))) (by kernel_rfl) ?_ (fun hHeld => ?_)
  · first | exact trivial | ((try dsimp only); go_keep)
  refine tkR 0 (v := ?_) ?_ ?_
  rotate_left
  · intro w hSw; (try dsimp only at hSw); go_simp <;> with_reducible rfl
  try simp only [Act.put, List.setIfInBounds_toArray, List.set_cons_zero, List.set_cons_succ]
  refine tkR 2 (v := ?_) ?_ ?_
  rotate_left
  · intro w hSw; (try dsimp only at hSw); go_simp <;> with_reducible rfl
  try simp only [Act.put, List.setIfInBounds_toArray, List.set_cons_zero, List.set_cons_succ]
  refine tkR 6 (v := ?_) ?_ ?_
  rotate_left
  · intro w hSw; (try dsimp only at hSw); go_simp <;> with_reducible rfl
  try simp only [Act.put, List.setIfInBounds_toArray, List.set_cons_zero, List.set_cons_succ]
  refine tkR 1 (v := ?_) ?_ ?_
  rotate_left
  · intro w hSw; (try dsimp only at hSw); go_simp <;> with_reducible rfl
  try simp only [Act.put, List.setIfInBounds_toArray, List.set_cons_zero, List.set_cons_succ]
  refine tkR 7 (v := ?_) ?_ ?_
  rotate_left
  · intro w hSw; (try dsimp only at hSw); go_simp <;> with_reducible rfl
  try simp only [Act.put, List.setIfInBounds_toArray, List.set_cons_zero, List.set_cons_succ]
  refine tkR 3 (v := ?_) ?_ ?_
  rotate_left
  · intro w hSw; (try dsimp only at hSw); go_simp <;> with_reducible rfl
  try simp only [Act.put, List.setIfInBounds_toArray, List.set_cons_zero, List.set_cons_succ]
  refine tkR 4 (v := ?_) ?_ ?_
  rotate_left
  · intro w hSw; (try dsimp only at hSw); go_simp <;> with_reducible rfl
  try simp only [Act.put, List.setIfInBounds_toArray, List.set_cons_zero, List.set_cons_succ]
  refine tkR 5 (v := ?_) ?_ ?_
  rotate_left
  · intro w hSw; (try dsimp only at hSw); go_simp <;> with_reducible rfl
  try simp only [Act.put, List.setIfInBounds_toArray, List.set_cons_zero, List.set_cons_succ]
  refine wpAnyH_ready (rs := [8]) (by kernel_rfl) (by simp) ?_
  refine rdR (fun K hK => ?_) ?_
  · go_simp
    refine (stepSexI_any _ 5 (by omega)).mono ?_
    rintro e1 w1 ⟨rfl, hb1⟩
    have hp1 : Below W.heap.size W w1 := Below.trans (show Below W.heap.size W _ from bwT) (hb1.mono szT)
    have hS1 := And.intro (oldc hp1 lF q0) (And.intro (oldc hp1 lF q1) (And.intro (oldc hp1 lS s0) (And.intro (oldc hp1 lS s1) (And.intro (oldc hp1 lM m0) (And.intro (oldc hp1 hbl x2) (And.intro (oldc hp1 hbl x3) (oldc hp1 hbl y1)))))))
    clear hb1
    refine hK.out _ _ ?_ (fun hHeld => ?_)
    · exact kpT
    clear hK K
    try simp only [Act.put, List.setIfInBounds_toArray, List.set_cons_zero, List.set_cons_succ]
    refine tkR 9 (v := ?_) ?_ ?_
    rotate_left
    · intro w hSw; (try dsimp only at hSw); go_simp <;> with_reducible rfl
    try simp only [Act.put, List.setIfInBounds_toArray, List.set_cons_zero, List.set_cons_succ]
    refine tkR 10 (v := ?_) ?_ ?_
    rotate_left
    · intro w hSw; (try dsimp only at hSw); go_simp <;> with_reducible rfl
    try simp only [Act.put, List.setIfInBounds_toArray, List.set_cons_zero, List.set_cons_succ]
    refine wpAnyH_done (by kernel_rfl) ?_ _
    obtain ⟨t0, t1, u0, u1, n0, a2, a3, b1⟩ := hS1
    have HP1 := Lib.hid (HP.out.below hp1)
    have HF1 := Lib.hid (HF.out.below hp1)
    clear HP HF q0 q1 s0 s1 m0 x2 x3 y1
    have HT := Lib.hid (show r = (ss && parB (nm', sx', fa', mo', bo', di') a) by rw [HR.out, HSS.out]; rfl)
    clear HR
    cases ss
    · have HZ := Lib.hid (show r = false by rw [HT.out]; rfl)
      clear HT
      go_wp2
      go_ret
      exact ⟨ret_bool HZ.out.symm, hp1⟩
    have HZ := Lib.hid (show r = parB (nm', sx', fa', mo', bo', di') a by rw [HT.out]; rfl)
    clear HT
    go_wp2_with fail
    refine (isParent_b _ _ _ f.1 (HF1.out.below bwT) a b HY.out r HZ.out).mono ?_
    rintro e2 w2 ⟨rfl, hb2⟩
    have hp2 : Below W.heap.size W w2 := hp1.trans (Below.mono hb2 hp1.size)
    clear hb2
    cases r
    · go_wp2
      go_ret
      exact ⟨ret_bool rfl, hp2⟩
    · go_wp2
      go_ret
      exact ⟨ret_bool rfl, hp2⟩
  exact AllReadyH.nil
set_option maxHeartbeats 8000000 in
theorem stepCl6_b (hk : k = 6) (hg : g = 0 ∨ g = 1 ∨ g = 2) (hr : r = ledB f (k, g) a b) : Calls Try.prog 106 #[.int .i64 a, .int .i64 b, .pointer (some ⟨BF, 0, none⟩), .pointer (some ⟨BS, 0, none⟩), .pointer (some ⟨BM, 0, none⟩)] W (PostB W r) := by
  have h40c : f.1.length ≤ 40 := h40
  clear h40c
  subst hk
  have hF := h.fam.1
  obtain ⟨B, O, nm, sx, fa, mo, bo, di, e1, hX, x0, x1, x2, x3, x4, x5, -, -, -, -, -, -, -, -, hbl, -⟩ := hF.per_at ha
  subst e1
  obtain ⟨_, _, nm', sx', fa', mo', bo', di', e, hY, y0, y1, y2, y3, y4, y5, -⟩ := hF.per_at hb
  simp only [Option.some.injEq, Addr.mk.injEq, and_true] at e
  obtain ⟨rfl, rfl⟩ := e
  have haI : (a : Int) < (f.1.length : Int) := by omega
  have hbI : (b : Int) < (f.1.length : Int) := by omega
  have lF : BF < W.heap.size := World.block_lt_of_cell? W ⟨BF, 0, none⟩ q0
  have lS : BS < W.heap.size := World.block_lt_of_cell? W ⟨BS, 0, none⟩ s0
  have lM : BM < W.heap.size := World.block_lt_of_cell? W ⟨BM, 0, none⟩ m0
  have HX := Lib.hid hX.out
  have HY := Lib.hid hY.out
  have HF := Lib.hid hF
  have HP := Lib.hid hP
  rw [ledB_at hX.out hY.out] at hr
  obtain ⟨ss, hss⟩ : ∃ s, s = decide (sx' = stSex 6) := ⟨_, rfl⟩
  have HSS := Lib.hid hss
  have hse : (sx' == stSex 6) = ss := by rw [hss]; by_cases h : sx' = stSex 6 <;> simp [h]
  have HR := Lib.hid hr
  clear hr hX hY hF h hP hss x0 x1 x4 x5 y0 y4 y5
  go_enter Try.func106, Try.ntmps106
  go_upto_region 1 with fail
  refine wp_region_held_drew (S := (fun w' => w'.cell? ⟨BF, 0, none⟩ = some (.slice (some ⟨B, O, none⟩) f.1.length cap) ∧ w'.cell? ⟨BF, 1, none⟩ = some v2 ∧ w'.cell? ⟨BS, 0, none⟩ = some (.int .i64 6) ∧ w'.cell? ⟨BS, 1, none⟩ = some (.int .i64 g) ∧ w'.cell? ⟨BM, 0, none⟩ = some (.map (some M)) ∧ w'.cell? ⟨B, O + a * 6 + 2, none⟩ = some (.int .i64 fa) ∧ w'.cell? ⟨B, O + a * 6 + 3, none⟩ = some (.int .i64 mo) ∧ w'.cell? ⟨B, O + b * 6 + 1, none⟩ = some (.int .i64 sx'))) (by kernel_rfl) ?_ (fun hHeld => ?_)
  · first | exact trivial | ((try dsimp only); go_keep)
  refine tkR 0 (v := ?_) ?_ ?_
  rotate_left
  · intro w hSw; (try dsimp only at hSw); go_simp <;> with_reducible rfl
  try simp only [Act.put, List.setIfInBounds_toArray, List.set_cons_zero, List.set_cons_succ]
  refine tkR 2 (v := ?_) ?_ ?_
  rotate_left
  · intro w hSw; (try dsimp only at hSw); go_simp <;> with_reducible rfl
  try simp only [Act.put, List.setIfInBounds_toArray, List.set_cons_zero, List.set_cons_succ]
  refine tkR 6 (v := ?_) ?_ ?_
  rotate_left
  · intro w hSw; (try dsimp only at hSw); go_simp <;> with_reducible rfl
  try simp only [Act.put, List.setIfInBounds_toArray, List.set_cons_zero, List.set_cons_succ]
  refine tkR 1 (v := ?_) ?_ ?_
  rotate_left
  · intro w hSw; (try dsimp only at hSw); go_simp <;> with_reducible rfl
  try simp only [Act.put, List.setIfInBounds_toArray, List.set_cons_zero, List.set_cons_succ]
  refine tkR 7 (v := ?_) ?_ ?_
  rotate_left
  · intro w hSw; (try dsimp only at hSw); go_simp <;> with_reducible rfl
  try simp only [Act.put, List.setIfInBounds_toArray, List.set_cons_zero, List.set_cons_succ]
  refine tkR 3 (v := ?_) ?_ ?_
  rotate_left
  · intro w hSw; (try dsimp only at hSw); go_simp <;> with_reducible rfl
  try simp only [Act.put, List.setIfInBounds_toArray, List.set_cons_zero, List.set_cons_succ]
  refine tkR 4 (v := ?_) ?_ ?_
  rotate_left
  · intro w hSw; (try dsimp only at hSw); go_simp <;> with_reducible rfl
  try simp only [Act.put, List.setIfInBounds_toArray, List.set_cons_zero, List.set_cons_succ]
  refine tkR 5 (v := ?_) ?_ ?_
  rotate_left
  · intro w hSw; (try dsimp only at hSw); go_simp <;> with_reducible rfl
  try simp only [Act.put, List.setIfInBounds_toArray, List.set_cons_zero, List.set_cons_succ]
  refine wpAnyH_ready (rs := [8]) (by kernel_rfl) (by simp) ?_
  refine rdR (fun K hK => ?_) ?_
  · go_simp
    refine (stepSexI_any _ 6 (by omega)).mono ?_
    rintro e1 w1 ⟨rfl, hb1⟩
    have hp1 : Below W.heap.size W w1 := Below.trans (show Below W.heap.size W _ from bwT) (hb1.mono szT)
    have hS1 := And.intro (oldc hp1 lF q0) (And.intro (oldc hp1 lF q1) (And.intro (oldc hp1 lS s0) (And.intro (oldc hp1 lS s1) (And.intro (oldc hp1 lM m0) (And.intro (oldc hp1 hbl x2) (And.intro (oldc hp1 hbl x3) (oldc hp1 hbl y1)))))))
    clear hb1
    refine hK.out _ _ ?_ (fun hHeld => ?_)
    · exact kpT
    clear hK K
    try simp only [Act.put, List.setIfInBounds_toArray, List.set_cons_zero, List.set_cons_succ]
    refine tkR 9 (v := ?_) ?_ ?_
    rotate_left
    · intro w hSw; (try dsimp only at hSw); go_simp <;> with_reducible rfl
    try simp only [Act.put, List.setIfInBounds_toArray, List.set_cons_zero, List.set_cons_succ]
    refine tkR 10 (v := ?_) ?_ ?_
    rotate_left
    · intro w hSw; (try dsimp only at hSw); go_simp <;> with_reducible rfl
    try simp only [Act.put, List.setIfInBounds_toArray, List.set_cons_zero, List.set_cons_succ]
    refine wpAnyH_done (by kernel_rfl) ?_ _
    obtain ⟨t0, t1, u0, u1, n0, a2, a3, b1⟩ := hS1
    have HP1 := Lib.hid (HP.out.below hp1)
    have HF1 := Lib.hid (HF.out.below hp1)
    clear HP HF q0 q1 s0 s1 m0 x2 x3 y1
    have HT := Lib.hid (show r = (ss && parB (nm', sx', fa', mo', bo', di') a) by rw [HR.out, HSS.out]; rfl)
    clear HR
    cases ss
    · have HZ := Lib.hid (show r = false by rw [HT.out]; rfl)
      clear HT
      go_wp2
      go_ret
      exact ⟨ret_bool HZ.out.symm, hp1⟩
    have HZ := Lib.hid (show r = parB (nm', sx', fa', mo', bo', di') a by rw [HT.out]; rfl)
    clear HT
    go_wp2_with fail
    refine (isParent_b _ _ _ f.1 (HF1.out.below bwT) a b HY.out r HZ.out).mono ?_
    rintro e2 w2 ⟨rfl, hb2⟩
    have hp2 : Below W.heap.size W w2 := hp1.trans (Below.mono hb2 hp1.size)
    clear hb2
    cases r
    · go_wp2
      go_ret
      exact ⟨ret_bool rfl, hp2⟩
    · go_wp2
      go_ret
      exact ⟨ret_bool rfl, hp2⟩
  exact AllReadyH.nil
set_option maxHeartbeats 8000000 in
theorem stepCl7_b (hk : k = 7) (hg : g = 0 ∨ g = 1 ∨ g = 2) (hr : r = ledB f (k, g) a b) : Calls Try.prog 106 #[.int .i64 a, .int .i64 b, .pointer (some ⟨BF, 0, none⟩), .pointer (some ⟨BS, 0, none⟩), .pointer (some ⟨BM, 0, none⟩)] W (PostB W r) := by
  have h40c : f.1.length ≤ 40 := h40
  clear h40c
  subst hk
  have hF := h.fam.1
  obtain ⟨B, O, nm, sx, fa, mo, bo, di, e1, hX, x0, x1, x2, x3, x4, x5, -, -, -, -, -, -, -, -, hbl, -⟩ := hF.per_at ha
  subst e1
  obtain ⟨_, _, nm', sx', fa', mo', bo', di', e, hY, y0, y1, y2, y3, y4, y5, -⟩ := hF.per_at hb
  simp only [Option.some.injEq, Addr.mk.injEq, and_true] at e
  obtain ⟨rfl, rfl⟩ := e
  have haI : (a : Int) < (f.1.length : Int) := by omega
  have hbI : (b : Int) < (f.1.length : Int) := by omega
  have lF : BF < W.heap.size := World.block_lt_of_cell? W ⟨BF, 0, none⟩ q0
  have lS : BS < W.heap.size := World.block_lt_of_cell? W ⟨BS, 0, none⟩ s0
  have lM : BM < W.heap.size := World.block_lt_of_cell? W ⟨BM, 0, none⟩ m0
  have HX := Lib.hid hX.out
  have HY := Lib.hid hY.out
  have HF := Lib.hid hF
  have HP := Lib.hid hP
  rw [ledB_at hX.out hY.out] at hr
  obtain ⟨ss, hss⟩ : ∃ s, s = decide (sx' = stSex 7) := ⟨_, rfl⟩
  have HSS := Lib.hid hss
  have hse : (sx' == stSex 7) = ss := by rw [hss]; by_cases h : sx' = stSex 7 <;> simp [h]
  have HR := Lib.hid hr
  clear hr hX hY hF h hP hss x0 x1 x4 x5 y0 y4 y5
  go_enter Try.func106, Try.ntmps106
  go_upto_region 1 with fail
  refine wp_region_held_drew (S := (fun w' => w'.cell? ⟨BF, 0, none⟩ = some (.slice (some ⟨B, O, none⟩) f.1.length cap) ∧ w'.cell? ⟨BF, 1, none⟩ = some v2 ∧ w'.cell? ⟨BS, 0, none⟩ = some (.int .i64 7) ∧ w'.cell? ⟨BS, 1, none⟩ = some (.int .i64 g) ∧ w'.cell? ⟨BM, 0, none⟩ = some (.map (some M)) ∧ w'.cell? ⟨B, O + a * 6 + 2, none⟩ = some (.int .i64 fa) ∧ w'.cell? ⟨B, O + a * 6 + 3, none⟩ = some (.int .i64 mo) ∧ w'.cell? ⟨B, O + b * 6 + 1, none⟩ = some (.int .i64 sx'))) (by kernel_rfl) ?_ (fun hHeld => ?_)
  · first | exact trivial | ((try dsimp only); go_keep)
  refine tkR 0 (v := ?_) ?_ ?_
  rotate_left
  · intro w hSw; (try dsimp only at hSw); go_simp <;> with_reducible rfl
  try simp only [Act.put, List.setIfInBounds_toArray, List.set_cons_zero, List.set_cons_succ]
  refine tkR 2 (v := ?_) ?_ ?_
  rotate_left
  · intro w hSw; (try dsimp only at hSw); go_simp <;> with_reducible rfl
  try simp only [Act.put, List.setIfInBounds_toArray, List.set_cons_zero, List.set_cons_succ]
  refine tkR 6 (v := ?_) ?_ ?_
  rotate_left
  · intro w hSw; (try dsimp only at hSw); go_simp <;> with_reducible rfl
  try simp only [Act.put, List.setIfInBounds_toArray, List.set_cons_zero, List.set_cons_succ]
  refine tkR 1 (v := ?_) ?_ ?_
  rotate_left
  · intro w hSw; (try dsimp only at hSw); go_simp <;> with_reducible rfl
  try simp only [Act.put, List.setIfInBounds_toArray, List.set_cons_zero, List.set_cons_succ]
  refine tkR 7 (v := ?_) ?_ ?_
  rotate_left
  · intro w hSw; (try dsimp only at hSw); go_simp <;> with_reducible rfl
  try simp only [Act.put, List.setIfInBounds_toArray, List.set_cons_zero, List.set_cons_succ]
  refine tkR 3 (v := ?_) ?_ ?_
  rotate_left
  · intro w hSw; (try dsimp only at hSw); go_simp <;> with_reducible rfl
  try simp only [Act.put, List.setIfInBounds_toArray, List.set_cons_zero, List.set_cons_succ]
  refine tkR 4 (v := ?_) ?_ ?_
  rotate_left
  · intro w hSw; (try dsimp only at hSw); go_simp <;> with_reducible rfl
  try simp only [Act.put, List.setIfInBounds_toArray, List.set_cons_zero, List.set_cons_succ]
  refine tkR 5 (v := ?_) ?_ ?_
  rotate_left
  · intro w hSw; (try dsimp only at hSw); go_simp <;> with_reducible rfl
  try simp only [Act.put, List.setIfInBounds_toArray, List.set_cons_zero, List.set_cons_succ]
  refine wpAnyH_ready (rs := [8]) (by kernel_rfl) (by simp) ?_
  refine rdR (fun K hK => ?_) ?_
  · go_simp
    refine (stepSexI_any _ 7 (by omega)).mono ?_
    rintro e1 w1 ⟨rfl, hb1⟩
    have hp1 : Below W.heap.size W w1 := Below.trans (show Below W.heap.size W _ from bwT) (hb1.mono szT)
    have hS1 := And.intro (oldc hp1 lF q0) (And.intro (oldc hp1 lF q1) (And.intro (oldc hp1 lS s0) (And.intro (oldc hp1 lS s1) (And.intro (oldc hp1 lM m0) (And.intro (oldc hp1 hbl x2) (And.intro (oldc hp1 hbl x3) (oldc hp1 hbl y1)))))))
    clear hb1
    refine hK.out _ _ ?_ (fun hHeld => ?_)
    · exact kpT
    clear hK K
    try simp only [Act.put, List.setIfInBounds_toArray, List.set_cons_zero, List.set_cons_succ]
    refine tkR 9 (v := ?_) ?_ ?_
    rotate_left
    · intro w hSw; (try dsimp only at hSw); go_simp <;> with_reducible rfl
    try simp only [Act.put, List.setIfInBounds_toArray, List.set_cons_zero, List.set_cons_succ]
    refine tkR 10 (v := ?_) ?_ ?_
    rotate_left
    · intro w hSw; (try dsimp only at hSw); go_simp <;> with_reducible rfl
    try simp only [Act.put, List.setIfInBounds_toArray, List.set_cons_zero, List.set_cons_succ]
    refine wpAnyH_done (by kernel_rfl) ?_ _
    obtain ⟨t0, t1, u0, u1, n0, a2, a3, b1⟩ := hS1
    have HP1 := Lib.hid (HP.out.below hp1)
    have HF1 := Lib.hid (HF.out.below hp1)
    clear HP HF q0 q1 s0 s1 m0 x2 x3 y1
    have HT := Lib.hid (show r = decide (((a : Int), (b : Int)) ∈ wedS f.2 7) from HR.out)
    clear HR
    have haJ : I64 (a : Int) := by unfold I64; omega
    have hbJ : I64 (b : Int) := by unfold I64; omega
    go_wp2_with (refine wpList_pset_look rfl rfl Try.underlying133 rfl HP1.out (p := ((a : Int), (b : Int))) rfl haJ hbJ r HT.out ?_)
    go_wp2
    go_ret
    exact ⟨ret_bool rfl, hp1⟩
  exact AllReadyH.nil
set_option maxHeartbeats 8000000 in
theorem stepCl8_b (hk : k = 8) (hg : g = 0 ∨ g = 1 ∨ g = 2) (hr : r = ledB f (k, g) a b) : Calls Try.prog 106 #[.int .i64 a, .int .i64 b, .pointer (some ⟨BF, 0, none⟩), .pointer (some ⟨BS, 0, none⟩), .pointer (some ⟨BM, 0, none⟩)] W (PostB W r) := by
  have h40c : f.1.length ≤ 40 := h40
  clear h40c
  subst hk
  have hF := h.fam.1
  obtain ⟨B, O, nm, sx, fa, mo, bo, di, e1, hX, x0, x1, x2, x3, x4, x5, -, -, -, -, -, -, -, -, hbl, -⟩ := hF.per_at ha
  subst e1
  obtain ⟨_, _, nm', sx', fa', mo', bo', di', e, hY, y0, y1, y2, y3, y4, y5, -⟩ := hF.per_at hb
  simp only [Option.some.injEq, Addr.mk.injEq, and_true] at e
  obtain ⟨rfl, rfl⟩ := e
  have haI : (a : Int) < (f.1.length : Int) := by omega
  have hbI : (b : Int) < (f.1.length : Int) := by omega
  have lF : BF < W.heap.size := World.block_lt_of_cell? W ⟨BF, 0, none⟩ q0
  have lS : BS < W.heap.size := World.block_lt_of_cell? W ⟨BS, 0, none⟩ s0
  have lM : BM < W.heap.size := World.block_lt_of_cell? W ⟨BM, 0, none⟩ m0
  have HX := Lib.hid hX.out
  have HY := Lib.hid hY.out
  have HF := Lib.hid hF
  have HP := Lib.hid hP
  rw [ledB_at hX.out hY.out] at hr
  obtain ⟨ss, hss⟩ : ∃ s, s = decide (sx' = stSex 8) := ⟨_, rfl⟩
  have HSS := Lib.hid hss
  have hse : (sx' == stSex 8) = ss := by rw [hss]; by_cases h : sx' = stSex 8 <;> simp [h]
  have HR := Lib.hid hr
  clear hr hX hY hF h hP hss x0 x1 x4 x5 y0 y4 y5
  go_enter Try.func106, Try.ntmps106
  go_upto_region 1 with fail
  refine wp_region_held_drew (S := (fun w' => w'.cell? ⟨BF, 0, none⟩ = some (.slice (some ⟨B, O, none⟩) f.1.length cap) ∧ w'.cell? ⟨BF, 1, none⟩ = some v2 ∧ w'.cell? ⟨BS, 0, none⟩ = some (.int .i64 8) ∧ w'.cell? ⟨BS, 1, none⟩ = some (.int .i64 g) ∧ w'.cell? ⟨BM, 0, none⟩ = some (.map (some M)) ∧ w'.cell? ⟨B, O + a * 6 + 2, none⟩ = some (.int .i64 fa) ∧ w'.cell? ⟨B, O + a * 6 + 3, none⟩ = some (.int .i64 mo) ∧ w'.cell? ⟨B, O + b * 6 + 1, none⟩ = some (.int .i64 sx'))) (by kernel_rfl) ?_ (fun hHeld => ?_)
  · first | exact trivial | ((try dsimp only); go_keep)
  refine tkR 0 (v := ?_) ?_ ?_
  rotate_left
  · intro w hSw; (try dsimp only at hSw); go_simp <;> with_reducible rfl
  try simp only [Act.put, List.setIfInBounds_toArray, List.set_cons_zero, List.set_cons_succ]
  refine tkR 2 (v := ?_) ?_ ?_
  rotate_left
  · intro w hSw; (try dsimp only at hSw); go_simp <;> with_reducible rfl
  try simp only [Act.put, List.setIfInBounds_toArray, List.set_cons_zero, List.set_cons_succ]
  refine tkR 6 (v := ?_) ?_ ?_
  rotate_left
  · intro w hSw; (try dsimp only at hSw); go_simp <;> with_reducible rfl
  try simp only [Act.put, List.setIfInBounds_toArray, List.set_cons_zero, List.set_cons_succ]
  refine tkR 1 (v := ?_) ?_ ?_
  rotate_left
  · intro w hSw; (try dsimp only at hSw); go_simp <;> with_reducible rfl
  try simp only [Act.put, List.setIfInBounds_toArray, List.set_cons_zero, List.set_cons_succ]
  refine tkR 7 (v := ?_) ?_ ?_
  rotate_left
  · intro w hSw; (try dsimp only at hSw); go_simp <;> with_reducible rfl
  try simp only [Act.put, List.setIfInBounds_toArray, List.set_cons_zero, List.set_cons_succ]
  refine tkR 3 (v := ?_) ?_ ?_
  rotate_left
  · intro w hSw; (try dsimp only at hSw); go_simp <;> with_reducible rfl
  try simp only [Act.put, List.setIfInBounds_toArray, List.set_cons_zero, List.set_cons_succ]
  refine tkR 4 (v := ?_) ?_ ?_
  rotate_left
  · intro w hSw; (try dsimp only at hSw); go_simp <;> with_reducible rfl
  try simp only [Act.put, List.setIfInBounds_toArray, List.set_cons_zero, List.set_cons_succ]
  refine tkR 5 (v := ?_) ?_ ?_
  rotate_left
  · intro w hSw; (try dsimp only at hSw); go_simp <;> with_reducible rfl
  try simp only [Act.put, List.setIfInBounds_toArray, List.set_cons_zero, List.set_cons_succ]
  refine wpAnyH_ready (rs := [8]) (by kernel_rfl) (by simp) ?_
  refine rdR (fun K hK => ?_) ?_
  · go_simp
    refine (stepSexI_any _ 8 (by omega)).mono ?_
    rintro e1 w1 ⟨rfl, hb1⟩
    have hp1 : Below W.heap.size W w1 := Below.trans (show Below W.heap.size W _ from bwT) (hb1.mono szT)
    have hS1 := And.intro (oldc hp1 lF q0) (And.intro (oldc hp1 lF q1) (And.intro (oldc hp1 lS s0) (And.intro (oldc hp1 lS s1) (And.intro (oldc hp1 lM m0) (And.intro (oldc hp1 hbl x2) (And.intro (oldc hp1 hbl x3) (oldc hp1 hbl y1)))))))
    clear hb1
    refine hK.out _ _ ?_ (fun hHeld => ?_)
    · exact kpT
    clear hK K
    try simp only [Act.put, List.setIfInBounds_toArray, List.set_cons_zero, List.set_cons_succ]
    refine tkR 9 (v := ?_) ?_ ?_
    rotate_left
    · intro w hSw; (try dsimp only at hSw); go_simp <;> with_reducible rfl
    try simp only [Act.put, List.setIfInBounds_toArray, List.set_cons_zero, List.set_cons_succ]
    refine tkR 10 (v := ?_) ?_ ?_
    rotate_left
    · intro w hSw; (try dsimp only at hSw); go_simp <;> with_reducible rfl
    try simp only [Act.put, List.setIfInBounds_toArray, List.set_cons_zero, List.set_cons_succ]
    refine wpAnyH_done (by kernel_rfl) ?_ _
    obtain ⟨t0, t1, u0, u1, n0, a2, a3, b1⟩ := hS1
    have HP1 := Lib.hid (HP.out.below hp1)
    have HF1 := Lib.hid (HF.out.below hp1)
    clear HP HF q0 q1 s0 s1 m0 x2 x3 y1
    have HT := Lib.hid (show r = decide (((a : Int), (b : Int)) ∈ wedS f.2 8) from HR.out)
    clear HR
    have haJ : I64 (a : Int) := by unfold I64; omega
    have hbJ : I64 (b : Int) := by unfold I64; omega
    go_wp2_with (refine wpList_pset_look rfl rfl Try.underlying133 rfl HP1.out (p := ((a : Int), (b : Int))) rfl haJ hbJ r HT.out ?_)
    go_wp2
    go_ret
    exact ⟨ret_bool rfl, hp1⟩
  exact AllReadyH.nil
theorem stepCl_b (hk : 1 ≤ k ∧ k ≤ 8) (hg : 0 ≤ g ∧ g ≤ 2) (hr : r = ledB f (k, g) a b) : Calls Try.prog 106 #[.int .i64 a, .int .i64 b, .pointer (some ⟨BF, 0, none⟩), .pointer (some ⟨BS, 0, none⟩), .pointer (some ⟨BM, 0, none⟩)] W (PostB W r) := by
  have h8 : k = 1 ∨ k = 2 ∨ k = 3 ∨ k = 4 ∨ k = 5 ∨ k = 6 ∨ k = 7 ∨ k = 8 := by omega
  have hg3 : g = 0 ∨ g = 1 ∨ g = 2 := by omega
  rcases h8 with e | e | e | e | e | e | e | e
  · exact stepCl1_b W BF BS BM M n ao cap v2 f h k g a b ha hb h40 q0 q1 s0 s1 m0 hP r e hg3 hr
  · exact stepCl2_b W BF BS BM M n ao cap v2 f h k g a b ha hb h40 q0 q1 s0 s1 m0 hP r e hg3 hr
  · exact stepCl3_b W BF BS BM M n ao cap v2 f h k g a b ha hb h40 q0 q1 s0 s1 m0 hP r e hg3 hr
  · exact stepCl4_b W BF BS BM M n ao cap v2 f h k g a b ha hb h40 q0 q1 s0 s1 m0 hP r e hg3 hr
  · exact stepCl5_b W BF BS BM M n ao cap v2 f h k g a b ha hb h40 q0 q1 s0 s1 m0 hP r e hg3 hr
  · exact stepCl6_b W BF BS BM M n ao cap v2 f h k g a b ha hb h40 q0 q1 s0 s1 m0 hP r e hg3 hr
  · exact stepCl7_b W BF BS BM M n ao cap v2 f h k g a b ha hb h40 q0 q1 s0 s1 m0 hP r e hg3 hr
  · exact stepCl8_b W BF BS BM M n ao cap v2 f h k g a b ha hb h40 q0 q1 s0 s1 m0 hP r e hg3 hr

end
set_option maxRecDepth 20000 in
set_option maxHeartbeats 8000000 in
theorem stepRel_any {z : Bool} {lo hi : Nat} (w : World) (v v2 : Value) (f : Fam) (h : Rd z lo hi w [v, v2] f) (hf : famB f = true) (k g : Int) (hk : 1 ≤ k ∧ k ≤ 8) (hg : 0 ≤ g ∧ g ≤ 2) :
    Calls Try.prog 91 #[.agg #[v, v2], .agg #[.int .i64 k, .int .i64 g]] w (PostRl w f.1.length (relTo (ledB f (k, g)) f.1.length f.1.length)) := by
  obtain ⟨ao, an, cap, rfl, hn, -⟩ := h.fam.1.shape
  subst hn
  obtain ⟨bo, bn, dap, rfl, hn2, -⟩ := h.fam.2.shape
  subst hn2
  have HH := Lib.hid h
  have h40 := (famB_facts hf).1
  have h60 := (famB_facts hf).2.1
  have HU := Lib.hid h.fam.2
  clear h hf
  obtain ⟨W3, hW3⟩ : ∃ W : World, W = ((w.alloc (.cells #[.slice ao f.1.length cap, .slice bo f.2.length dap] 26)).alloc (.cells #[.int .i64 k, .int .i64 g] 84)).alloc (.cells #[.int .i64 0, .slice none 0 0] 89) := ⟨_, rfl⟩
  have z3 : W3.heap.size = w.heap.size + 1 + 1 + 1 := by rw [hW3]; simp
  have hB3 : Below w.heap.size w W3 := by rw [hW3]; exact bwT
  have f0 : W3.cell? ⟨w.heap.size, 0, none⟩ = some (.slice ao f.1.length cap) := by rw [hW3]; simp [go_sem]
  have f1 : W3.cell? ⟨w.heap.size, 1, none⟩ = some (.slice bo f.2.length dap) := by rw [hW3]; simp [go_sem]
  have s0 : W3.cell? ⟨w.heap.size + 1, 0, none⟩ = some (.int .i64 k) := by rw [hW3]; simp [go_sem]
  have s1 : W3.cell? ⟨w.heap.size + 1, 1, none⟩ = some (.int .i64 g) := by rw [hW3]; simp [go_sem]
  have r0 : W3.cell? ⟨w.heap.size + 1 + 1, 0, none⟩ = some (.int .i64 0) := by rw [hW3]; simp [go_sem]
  have r1 : W3.cell? ⟨w.heap.size + 1 + 1, 1, none⟩ = some (.slice none 0 0) := by rw [hW3]; simp [go_sem]
  have rf : ∀ o, W3.frozen? ⟨w.heap.size + 1 + 1, o, none⟩ = false := fun o => by rw [hW3]; simp [go_sem]
  have hmm := @run_makeMap Try.prog
  go_enter Try.func91, Try.ntmps91
  go_upto_region 1 with fail
  rw [← hW3]
  clear hW3
  obtain ⟨M, hM⟩ : ∃ M, M = w.heap.size + 1 + 1 + 1 := ⟨_, rfl⟩
  obtain ⟨W4, hW4⟩ : ∃ W : World, W = (W3.alloc (.map #[] 0)).alloc (.cells #[.map (some M)] 133) := ⟨_, rfl⟩
  have z3M : W3.heap.size = M := by rw [z3, hM]
  have z4 : M + 1 < W4.heap.size := by rw [hW4]; simp; omega
  have hB4 : Below M W3 W4 := by rw [hW4, ← z3M]; exact bwT
  have b0 : W4.cell? ⟨M + 1, 0, none⟩ = some (.map (some M)) := by rw [hW4, ← z3M]; simp [go_sem]
  have HP4 := Lib.hid (show PSet W4 M 0 (wedS (f.2.take 0) k) by
    have e : wedS (f.2.take 0) k = [] := by unfold wedS; simp
    rw [e, ← z3M]
    refine PSet.keepb (PSet.made W3) ?_
    rw [hW4]
    exact Below.heap_alloc _ _ _ (by simp))
  go_upto_region 2 with fail
  rw [← hM, ← hW4]
  have hMw : w.heap.size + 1 + 1 < M := by omega
  clear hW4 hmm z3 z3M hM
  have q0 := oldc hB4 (by omega) f0
  have q1 := oldc hB4 (by omega) f1
  go_wp2
  go_loopw [7, 12, 18, 26] (fun _ s12 _ _ wl => ∃ i : Nat, i ≤ f.2.length ∧ s12 = .int .i64 i ∧ wl.cell? ⟨M + 1, 0, none⟩ = some (.map (some M)) ∧ Hid (PSet wl M i (wedS (f.2.take i) k)) ∧ Below M W3 wl ∧ M + 1 < wl.heap.size) (fun _ s12 _ _ _ => f.2.length - (intOf s12).toNat)
  case atStart => exact ⟨0, Nat.zero_le _, rfl, b0, HP4, hB4, by omega⟩
  case round =>
    clear HP4 b0 q0 q1
    obtain ⟨wo, hwo⟩ : ∃ y : World, y = wr := ⟨_, rfl⟩
    subst hwo
    obtain ⟨i, hi, rfl, b0, HP, hbo, lM⟩ := hrel
    have hBo : Below w.heap.size w wo := hB3.trans (hbo.mono (by omega))
    replace f0 := oldc hbo (by omega) f0
    replace f1 := oldc hbo (by omega) f1
    replace s0 := oldc hbo (by omega) s0
    replace s1 := oldc hbo (by omega) s1
    replace r0 := oldc hbo (by omega) r0
    replace r1 := oldc hbo (by omega) r1
    replace rf : ∀ o, wo.frozen? ⟨w.heap.size + 1 + 1, o, none⟩ = false := fun o => (hbo.frozen (p := ⟨w.heap.size + 1 + 1, o, none⟩) (show w.heap.size + 1 + 1 < M by omega)).trans (rf o)
    have n0 : ¬ w.heap.size = wo.heap.size := by omega
    have n1 : ¬ wo.heap.size = w.heap.size := by omega
    have n2 : ¬ w.heap.size + 1 = wo.heap.size := by omega
    have n3 : ¬ wo.heap.size = w.heap.size + 1 := by omega
    have n4 : ¬ M + 1 = wo.heap.size := by omega
    have n5 : ¬ wo.heap.size = M + 1 := by omega
    have n6 : w.heap.size < wo.heap.size := by omega
    have n7 : w.heap.size + 1 < wo.heap.size := by omega
    by_cases hlt : i < f.2.length
    · have hI : (i : Int) < (f.2.length : Int) := by omega
      obtain ⟨ub, uo, ma, wm, fr, tl, e1, hu, u0, u1, u2, u3, g0, g1, -, -, -, -, hbl, -⟩ := (HU.out.below hBo).uni_at hlt
      subst e1
      have HW := Lib.hid (wedS_take (k := k) hu.out)
      clear hu
      have hbl' : ub < wo.heap.size := hbl
      by_cases h7 : k = 7
      · have HW7 := Lib.hid (show wedS (f.2.take (i + 1)) k = wedS (f.2.take i) k ++ [(wm, ma)] by rw [HW.out, if_pos h7])
        have HPA := Lib.hid (HP.out.below (show Below wo.heap.size wo (wo.alloc (.cells #[.int .i64 ma, .int .i64 wm, .int .i64 fr, .int .i64 tl] 65)) from (Below.refl _ _).alloc (Nat.le_refl _) _))
        have e7 : (k == 7) = true := by simpa using h7
        clear HW HP h7
        go_wp2_with (at_mapUpdate; refine wpList_pset_put rfl rfl Try.underlying133 rfl HPA.out (by unfold maxLen; omega) (p := (wm, ma)) rfl g1 g0 rfl ?_)
        intro w5 HP5 hg5
        have HPX := Lib.hid (show PSet w5 M (i + 1) (wedS (f.2.take (i + 1)) k) by rw [HW7.out]; exact HP5)
        have s5 := hg5.size
        simp only [World.size_alloc] at s5
        have b5 : w5.cell? ⟨M + 1, 0, none⟩ = some (.map (some M)) := (World.cell?_of_block (w := wo.alloc _) (a := ⟨M + 1, 0, none⟩) (hg5.block (M + 1) (by simp; omega) (by simp))).trans (oldc ((Below.refl wo.heap.size wo).alloc (Nat.le_refl _) _) (by omega) b0)
        have hb5 : Below M W3 w5 := Below.grown (Below.trans hbo ((Below.refl M wo).alloc (by omega) _)) hg5 (by simp; omega) (fun j hj => by simp only [Option.some.injEq] at hj; omega)
        clear HPA HP5 hg5 HW7
        go_wp2
        go_roundw
        case rel => exact ⟨i + 1, by omega, by go_num, b5, HPX, hb5, by omega⟩
        case measure => simp [intOf]; omega
      · have e7 : (k == 7) = false := by simpa using h7
        by_cases h8 : k = 8
        · have HW7 := Lib.hid (show wedS (f.2.take (i + 1)) k = wedS (f.2.take i) k ++ [(ma, wm)] by rw [HW.out, if_neg h7, if_pos h8])
          have HPA := Lib.hid (HP.out.below (show Below wo.heap.size wo (wo.alloc (.cells #[.int .i64 ma, .int .i64 wm, .int .i64 fr, .int .i64 tl] 65)) from (Below.refl _ _).alloc (Nat.le_refl _) _))
          have e8 : (k == 8) = true := by simpa using h8
          clear HW HP h7 h8
          go_wp2_with (at_mapUpdate; refine wpList_pset_put rfl rfl Try.underlying133 rfl HPA.out (by unfold maxLen; omega) (p := (ma, wm)) rfl g0 g1 rfl ?_)
          intro w5 HP5 hg5
          have HPX := Lib.hid (show PSet w5 M (i + 1) (wedS (f.2.take (i + 1)) k) by rw [HW7.out]; exact HP5)
          have s5 := hg5.size
          simp only [World.size_alloc] at s5
          have b5 : w5.cell? ⟨M + 1, 0, none⟩ = some (.map (some M)) := (World.cell?_of_block (w := wo.alloc _) (a := ⟨M + 1, 0, none⟩) (hg5.block (M + 1) (by simp; omega) (by simp))).trans (oldc ((Below.refl wo.heap.size wo).alloc (Nat.le_refl _) _) (by omega) b0)
          have hb5 : Below M W3 w5 := Below.grown (Below.trans hbo ((Below.refl M wo).alloc (by omega) _)) hg5 (by simp; omega) (fun j hj => by simp only [Option.some.injEq] at hj; omega)
          clear HPA HP5 hg5 HW7
          go_wp2
          go_roundw
          case rel => exact ⟨i + 1, by omega, by go_num, b5, HPX, hb5, by omega⟩
          case measure => simp [intOf]; omega
        · have e8 : (k == 8) = false := by simpa using h8
          have HPX := Lib.hid (show PSet (wo.alloc (.cells #[.int .i64 ma, .int .i64 wm, .int .i64 fr, .int .i64 tl] 65)) M (i + 1) (wedS (f.2.take (i + 1)) k) by
            rw [HW.out, if_neg h7, if_neg h8, List.append_nil]
            exact (HP.out.below ((Below.refl _ _).alloc (Nat.le_refl _) _)).more (Nat.le_succ _))
          have b5 := oldc ((Below.refl wo.heap.size wo).alloc (Nat.le_refl _) (.cells #[.int .i64 ma, .int .i64 wm, .int .i64 fr, .int .i64 tl] 65)) (show M + 1 < wo.heap.size by omega) b0
          have hb5 : Below M W3 (wo.alloc (.cells #[.int .i64 ma, .int .i64 wm, .int .i64 fr, .int .i64 tl] 65)) := Below.trans hbo ((Below.refl M wo).alloc (by omega) _)
          clear HW HP h7 h8
          go_wp2
          go_roundw
          case rel => exact ⟨i + 1, by omega, by go_num, b5, HPX, hb5, by simp; omega⟩
          case measure => simp [intOf]; omega
    · obtain rfl : i = f.2.length := by omega
      have hI : ¬ (f.2.length : Int) < (f.2.length : Int) := by omega
      rw [List.take_length] at HP
      have HHo := Lib.hid (HH.out.below hBo)
      clear HH HU
      go_wp2_with fail
      refine (related_any _ f.1.length h40 106 #[.pointer (some ⟨w.heap.size, 0, none⟩), .pointer (some ⟨w.heap.size + 1, 0, none⟩), .pointer (some ⟨M + 1, 0, none⟩)] (ledB f (k, g)) (fun _ _ => by kernel_rfl) (fun W a b hW ha hb => ?cl)).mono ?_
      case cl =>
        exact stepCl_b W w.heap.size (w.heap.size + 1) (M + 1) M f.2.length ao cap (.slice bo f.2.length dap) f (HHo.out.below hW) k g a b ha hb h40 (oldc hW (by omega) f0) (oldc hW (by omega) f1) (oldc hW (by omega) s0) (oldc hW (by omega) s1) (oldc hW (by omega) b0) (HP.out.below hW) _ hk hg rfl
      rintro e6 w6 ⟨u, rfl, ho, hb6⟩
      obtain ⟨ua, un, uc, rfl, hun, -⟩ := ho.rd.shape
      have HO := Lib.hid ho
      have s6 := hb6.size
      have hB6 : Below w.heap.size w w6 := hBo.trans (Below.mono hb6 hBo.size)
      replace r0 := oldc hb6 (by omega) r0
      replace r1 := oldc hb6 (by omega) r1
      replace rf : ∀ o, w6.frozen? ⟨w.heap.size + 1 + 1, o, none⟩ = false := fun o => (hb6.frozen (p := ⟨w.heap.size + 1 + 1, o, none⟩) (show w.heap.size + 1 + 1 < wo.heap.size by omega)).trans (rf o)
      have l6 : w.heap.size + 1 + 1 < w6.heap.size := by omega
      clear hun ho hb6 HP HHo b0 f0 f1 s0 s1
      go_wp2
      refine bodyPost_ret (v := .agg #[.int .i64 f.1.length, .slice ua un uc]) (by simp [results, go_sem, *]) rfl ?_
      refine ⟨_, rfl, ?_, ?_⟩
      · have HO2 := HO.out.keep (w' := (w6.setCell ⟨w.heap.size + 1 + 1, 0, none⟩ (.int .i64 f.1.length)).setCell ⟨w.heap.size + 1 + 1, 1, none⟩ (.slice ua un uc)) zmT
        exact Ow.mono HO2 (by omega) (by simp)
      · exact bwT
end Go.Proofs.Ytefbbbhidnnchaa
