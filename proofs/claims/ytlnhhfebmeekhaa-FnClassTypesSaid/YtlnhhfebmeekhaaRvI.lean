/- Contracts: backStep, ReverseType (impl). Written by rv_gen.py. -/
import Derived.Test.YtlnhhfebmeekhaaTypsI
import Derived.Test.YtlnhhfebmeekhaaAlwI
import Derived.Test.YtlnhhfebmeekhaaTPmI
import Derived.Test.YtlnhhfebmeekhaaZ10P
namespace Go.Proofs.Ytlnhhfebmeekhaa
set_option linter.unusedVariables false
set_option linter.unusedSimpArgs false
open Go.RowKit

/-- A kin type of the call's own and a Bool come back. -/
def PostKB (w : World) (t : Kin) (b : Bool) (e : Ending) (w' : World) : Prop :=
  ∃ v, e = .returned (.tuple #[.agg #[.int .i64 t.1, v], .bool b]) ∧ Ow w.heap.size w'.heap.size w' [.int .i64 t.1, v] t ∧ Below w.heap.size w w'
theorem backSt_in {s : Stp} {sex : Int} (h : 0 ≤ s.2 ∧ s.2 ≤ 2) : (1 ≤ (backSt s sex).1 ∧ (backSt s sex).1 ≤ 8) ∧ (0 ≤ (backSt s sex).2 ∧ (backSt s sex).2 ≤ 2) := by
  unfold backSt
  split
  · dsimp only; split <;> omega
  · split
    · dsimp only; split <;> omega
    · split
      · dsimp only; split <;> split <;> omega
      · split <;> simp
theorem kin8 {k : Int} (h : 1 ≤ k ∧ k ≤ 8) : k = 1 ∨ k = 2 ∨ k = 3 ∨ k = 4 ∨ k = 5 ∨ k = 6 ∨ k = 7 ∨ k = 8 := by omega
theorem age3 {a : Int} (h : 0 ≤ a ∧ a ≤ 2) : a = 0 ∨ a = 1 ∨ a = 2 := by omega
theorem pickI_any (w : World) (a b : Int) (B : Nat) (sex : Int) (hB : w.cell? ⟨B, 0, none⟩ = some (.int .i64 sex)) (R : Int) (hR : R = if sex = 1 then a else b) :
    Calls Try.prog 98 #[.int .i64 a, .int .i64 b, .pointer (some ⟨B, 0, none⟩)] w (PostI w R) := by
  by_cases h : sex = 1
  · rw [if_pos h] at hR
    subst h hR
    go_enter Try.func98, Try.ntmps98
    go_wp2
    go_ret
    exact ⟨rfl, bwT⟩
  · rw [if_neg h] at hR
    subst hR
    go_enter Try.func98, Try.ntmps98
    go_wp2
    go_ret
    exact ⟨rfl, bwT⟩
set_option maxRecDepth 20000 in
set_option maxHeartbeats 8000000 in
theorem backStepI_any (w : World) (ki ag sex : Int) (hk : 1 ≤ ki ∧ ki ≤ 8) (ha : 0 ≤ ag ∧ ag ≤ 2) (R : Stp) (hR : R = backSt (ki, ag) sex) :
    Calls Try.prog 69 #[.agg #[.int .i64 ki, .int .i64 ag], .int .i64 sex] w (PostV w (.agg #[.int .i64 R.1, .int .i64 R.2])) := by
  obtain ⟨r1, r2⟩ := R
  rcases kin8 hk with rfl | rfl | rfl | rfl | rfl | rfl | rfl | rfl
  · simp [backSt] at hR
    obtain ⟨h1, rfl⟩ := hR
    have HR := Lib.hid h1
    clear h1
    go_enter Try.func69, Try.ntmps69
    go_wp2_with fail
    refine (pickI_any _ 5 6 (w.heap.size + 1) sex (by simp [go_sem]) r1 HR.out).mono ?_
    rintro e1 w1 ⟨rfl, hbw1⟩
    have hpw1 : Below w.heap.size w w1 := Below.after bwT hbw1 szT
    have sw1 := hpw1.size
    have hBw1 : Below w.heap.size w w1 := hpw1
    have l_s : w.heap.size < w1.heap.size := by have := hbw1.size; simp at this; omega
    have q_s0 : w1.cell? ⟨w.heap.size, 0, none⟩ = some (.int .i64 1) := oldc hbw1 ltT (by simp [go_sem])
    have q_s1 : w1.cell? ⟨w.heap.size, 1, none⟩ = some (.int .i64 ag) := oldc hbw1 ltT (by simp [go_sem])
    have l_x : w.heap.size + 1 < w1.heap.size := by have := hbw1.size; simp at this; omega
    have q_x0 : w1.cell? ⟨w.heap.size + 1, 0, none⟩ = some (.int .i64 sex) := oldc hbw1 ltT (by simp [go_sem])
    have l_r : w.heap.size + 1 + 1 < w1.heap.size := by have := hbw1.size; simp at this; omega
    have q_r0 : w1.cell? ⟨w.heap.size + 1 + 1, 0, none⟩ = some (.int .i64 0) := oldc hbw1 ltT (by simp [go_sem])
    have q_r1 : w1.cell? ⟨w.heap.size + 1 + 1, 1, none⟩ = some (.int .i64 0) := oldc hbw1 ltT (by simp [go_sem])
    have f_r : ∀ o, w1.frozen? ⟨w.heap.size + 1 + 1, o, none⟩ = false := fun o => (hbw1.frozen (p := ⟨w.heap.size + 1 + 1, o, none⟩) ltT).trans (by simp [go_sem])
    clear hbw1 hpw1
    go_wp2
    exact bodyPost_ret (v := .agg #[.int .i64 r1, .int .i64 0]) (by simp [results, Try.results69, go_sem, *]) rfl ⟨rfl, bwT⟩
  · simp [backSt] at hR
    obtain ⟨h1, rfl⟩ := hR
    have HR := Lib.hid h1
    clear h1
    go_enter Try.func69, Try.ntmps69
    go_wp2_with fail
    refine (pickI_any _ 5 6 (w.heap.size + 1) sex (by simp [go_sem]) r1 HR.out).mono ?_
    rintro e2 w2 ⟨rfl, hbw2⟩
    have hpw2 : Below w.heap.size w w2 := Below.after bwT hbw2 szT
    have sw2 := hpw2.size
    have hBw2 : Below w.heap.size w w2 := hpw2
    have l_s : w.heap.size < w2.heap.size := by have := hbw2.size; simp at this; omega
    have q_s0 : w2.cell? ⟨w.heap.size, 0, none⟩ = some (.int .i64 2) := oldc hbw2 ltT (by simp [go_sem])
    have q_s1 : w2.cell? ⟨w.heap.size, 1, none⟩ = some (.int .i64 ag) := oldc hbw2 ltT (by simp [go_sem])
    have l_x : w.heap.size + 1 < w2.heap.size := by have := hbw2.size; simp at this; omega
    have q_x0 : w2.cell? ⟨w.heap.size + 1, 0, none⟩ = some (.int .i64 sex) := oldc hbw2 ltT (by simp [go_sem])
    have l_r : w.heap.size + 1 + 1 < w2.heap.size := by have := hbw2.size; simp at this; omega
    have q_r0 : w2.cell? ⟨w.heap.size + 1 + 1, 0, none⟩ = some (.int .i64 0) := oldc hbw2 ltT (by simp [go_sem])
    have q_r1 : w2.cell? ⟨w.heap.size + 1 + 1, 1, none⟩ = some (.int .i64 0) := oldc hbw2 ltT (by simp [go_sem])
    have f_r : ∀ o, w2.frozen? ⟨w.heap.size + 1 + 1, o, none⟩ = false := fun o => (hbw2.frozen (p := ⟨w.heap.size + 1 + 1, o, none⟩) ltT).trans (by simp [go_sem])
    clear hbw2 hpw2
    go_wp2
    exact bodyPost_ret (v := .agg #[.int .i64 r1, .int .i64 0]) (by simp [results, Try.results69, go_sem, *]) rfl ⟨rfl, bwT⟩
  · simp [backSt] at hR
    obtain ⟨h1, h2⟩ := hR
    have HR := Lib.hid h1
    clear h1
    rcases age3 ha with rfl | rfl | rfl
    · obtain rfl : r2 = 0 := by simpa using h2
      clear h2 hk ha
      go_enter Try.func69, Try.ntmps69
      go_upto_region 11 with fail
      refine wp_region_held_drew (S := (fun w' => w'.cell? ⟨w.heap.size, 1, none⟩ = some (.int .i64 0))) (by kernel_rfl) ?_ (fun hHeld => ?_)
      · first | exact trivial | ((try dsimp only); go_keep)
      refine tkR 0 (v := ?_) ?_ ?_
      rotate_left
      · intro w hSw; (try dsimp only at hSw); go_simp <;> with_reducible rfl
      try simp only [Act.put, List.setIfInBounds_toArray, List.set_cons_zero, List.set_cons_succ]
      refine tkR 3 (v := ?_) ?_ ?_
      rotate_left
      · intro w hSw; (try dsimp only at hSw); go_simp <;> with_reducible rfl
      try simp only [Act.put, List.setIfInBounds_toArray, List.set_cons_zero, List.set_cons_succ]
      refine tkR 4 (v := ?_) ?_ ?_
      rotate_left
      · intro w hSw; (try dsimp only at hSw); go_simp <;> with_reducible rfl
      try simp only [Act.put, List.setIfInBounds_toArray, List.set_cons_zero, List.set_cons_succ]
      refine wpAnyH_ready (rs := [1, 2]) (by kernel_rfl) (by simp) ?_
      refine rdR (fun K hK => ?_) ?_
      · go_simp
        refine (pickI_any _ 3 4 (w.heap.size + 1) sex (by simp [go_sem]) r1 HR.out).mono ?_
        rintro e1 w1 ⟨rfl, hb1⟩
        have s1 := hb1.size
        have hS1 : w1.cell? ⟨w.heap.size, 1, none⟩ = some (.int .i64 0) := oldc hb1 ltT (by simp [go_sem])
        have r0 : w1.cell? ⟨w.heap.size + 1 + 1, 0, none⟩ = some (.int .i64 0) := oldc hb1 ltT (by simp [go_sem])
        have r2 : w1.cell? ⟨w.heap.size + 1 + 1, 1, none⟩ = some (.int .i64 0) := oldc hb1 ltT (by simp [go_sem])
        have rf : ∀ o, w1.frozen? ⟨w.heap.size + 1 + 1, o, none⟩ = false := fun o => (hb1.frozen (p := ⟨w.heap.size + 1 + 1, o, none⟩) ltT).trans (by simp [go_sem])
        have lr : w.heap.size + 1 + 1 < w1.heap.size := by (try simp at s1); omega
        have n1 : ¬ w.heap.size + 1 + 1 = w1.heap.size := by omega
        have n2 : ¬ w1.heap.size = w.heap.size + 1 + 1 := by omega
        have n3 : ¬ w.heap.size = w1.heap.size := by omega
        have n4 : ¬ w1.heap.size = w.heap.size := by omega
        have l0 : w.heap.size < w1.heap.size := by omega
        have hB1 : Below w.heap.size w w1 := Below.trans (show Below w.heap.size w _ from bwT) (hb1.mono szT)
        clear hb1
        refine hK.out _ _ ?_ (fun hHeld => ?_)
        · exact kpT
        clear hK K
        try simp only [Act.put, List.setIfInBounds_toArray, List.set_cons_zero, List.set_cons_succ]
        refine wpAnyH_ready (rs := [2]) (by kernel_rfl) (by simp) ?_
        refine rdR (fun K hK => ?_) ?_
        · go_simp
          refine hK.out _ _ ?_ (fun hHeld => ?_)
          · exact kpT
          clear hK K
          try simp only [Act.put, List.setIfInBounds_toArray, List.set_cons_zero, List.set_cons_succ]
          refine tkR 5 (v := ?_) ?_ ?_
          rotate_left
          · intro w hSw; (try dsimp only at hSw); go_simp <;> with_reducible rfl
          try simp only [Act.put, List.setIfInBounds_toArray, List.set_cons_zero, List.set_cons_succ]
          refine wpAnyH_ready (rs := [6]) (by kernel_rfl) (by simp) ?_
          refine rdR (fun K hK => ?_) ?_
          · go_simp
            refine hK.out _ _ ?_ (fun hHeld => ?_)
            · exact kpT
            clear hK K
            try simp only [Act.put, List.setIfInBounds_toArray, List.set_cons_zero, List.set_cons_succ]
            refine tkR 7 (v := ?_) ?_ ?_
            rotate_left
            · intro w hSw; (try dsimp only at hSw); go_simp <;> with_reducible rfl
            try simp only [Act.put, List.setIfInBounds_toArray, List.set_cons_zero, List.set_cons_succ]
            refine wpAnyH_ready (rs := [8]) (by kernel_rfl) (by simp) ?_
            refine rdR (fun K hK => ?_) ?_
            · go_simp
              refine hK.out _ _ ?_ (fun hHeld => ?_)
              · exact kpT
              clear hK K
              try simp only [Act.put, List.setIfInBounds_toArray, List.set_cons_zero, List.set_cons_succ]
              refine wpAnyH_done (by kernel_rfl) ?_ _
              go_wp2
              exact bodyPost_ret (v := .agg #[.int .i64 r1, .int .i64 0]) (by simp [results, Try.results69, go_sem, *]) rfl ⟨rfl, bwT⟩
            exact AllReadyH.nil
          exact AllReadyH.nil
        exact AllReadyH.nil
      refine rdR (fun K hK => ?_) ?_
      · go_simp
        refine hK.out _ _ ?_ (fun hHeld => ?_)
        · exact kpT
        clear hK K
        try simp only [Act.put, List.setIfInBounds_toArray, List.set_cons_zero, List.set_cons_succ]
        refine tkR 5 (v := ?_) ?_ ?_
        rotate_left
        · intro w hSw; (try dsimp only at hSw); go_simp <;> with_reducible rfl
        try simp only [Act.put, List.setIfInBounds_toArray, List.set_cons_zero, List.set_cons_succ]
        refine wpAnyH_ready (rs := [1, 6]) (by kernel_rfl) (by simp) ?_
        refine rdR (fun K hK => ?_) ?_
        · go_simp
          refine (pickI_any _ 3 4 (w.heap.size + 1) sex (by simp [go_sem]) r1 HR.out).mono ?_
          rintro e1 w1 ⟨rfl, hb1⟩
          have s1 := hb1.size
          have hS1 : w1.cell? ⟨w.heap.size, 1, none⟩ = some (.int .i64 0) := oldc hb1 ltT (by simp [go_sem])
          have r0 : w1.cell? ⟨w.heap.size + 1 + 1, 0, none⟩ = some (.int .i64 0) := oldc hb1 ltT (by simp [go_sem])
          have r2 : w1.cell? ⟨w.heap.size + 1 + 1, 1, none⟩ = some (.int .i64 0) := oldc hb1 ltT (by simp [go_sem])
          have rf : ∀ o, w1.frozen? ⟨w.heap.size + 1 + 1, o, none⟩ = false := fun o => (hb1.frozen (p := ⟨w.heap.size + 1 + 1, o, none⟩) ltT).trans (by simp [go_sem])
          have lr : w.heap.size + 1 + 1 < w1.heap.size := by (try simp at s1); omega
          have n1 : ¬ w.heap.size + 1 + 1 = w1.heap.size := by omega
          have n2 : ¬ w1.heap.size = w.heap.size + 1 + 1 := by omega
          have n3 : ¬ w.heap.size = w1.heap.size := by omega
          have n4 : ¬ w1.heap.size = w.heap.size := by omega
          have l0 : w.heap.size < w1.heap.size := by omega
          have z0 : w1.cell? ⟨w.heap.size + 1 + 1 + 1, 0, none⟩ = some (.int .i64 0) := oldc hb1 ltT (by simp [go_sem])
          have l3 : w.heap.size + 1 + 1 + 1 < w1.heap.size := by (try simp at s1); omega
          have hB1 : Below w.heap.size w w1 := Below.trans (show Below w.heap.size w _ from bwT) (hb1.mono szT)
          clear hb1
          refine hK.out _ _ ?_ (fun hHeld => ?_)
          · exact kpT
          clear hK K
          try simp only [Act.put, List.setIfInBounds_toArray, List.set_cons_zero, List.set_cons_succ]
          refine wpAnyH_ready (rs := [6]) (by kernel_rfl) (by simp) ?_
          refine rdR (fun K hK => ?_) ?_
          · go_simp
            refine hK.out _ _ ?_ (fun hHeld => ?_)
            · exact kpT
            clear hK K
            try simp only [Act.put, List.setIfInBounds_toArray, List.set_cons_zero, List.set_cons_succ]
            refine tkR 7 (v := ?_) ?_ ?_
            rotate_left
            · intro w hSw; (try dsimp only at hSw); go_simp <;> with_reducible rfl
            try simp only [Act.put, List.setIfInBounds_toArray, List.set_cons_zero, List.set_cons_succ]
            refine wpAnyH_ready (rs := [8]) (by kernel_rfl) (by simp) ?_
            refine rdR (fun K hK => ?_) ?_
            · go_simp
              refine hK.out _ _ ?_ (fun hHeld => ?_)
              · exact kpT
              clear hK K
              try simp only [Act.put, List.setIfInBounds_toArray, List.set_cons_zero, List.set_cons_succ]
              refine wpAnyH_done (by kernel_rfl) ?_ _
              go_wp2
              exact bodyPost_ret (v := .agg #[.int .i64 r1, .int .i64 0]) (by simp [results, Try.results69, go_sem, *]) rfl ⟨rfl, bwT⟩
            exact AllReadyH.nil
          exact AllReadyH.nil
        refine rdR (fun K hK => ?_) ?_
        · go_simp
          refine hK.out _ _ ?_ (fun hHeld => ?_)
          · exact kpT
          clear hK K
          try simp only [Act.put, List.setIfInBounds_toArray, List.set_cons_zero, List.set_cons_succ]
          refine wpAnyH_ready (rs := [1]) (by kernel_rfl) (by simp) ?_
          refine rdR (fun K hK => ?_) ?_
          · go_simp
            refine (pickI_any _ 3 4 (w.heap.size + 1) sex (by simp [go_sem]) r1 HR.out).mono ?_
            rintro e1 w1 ⟨rfl, hb1⟩
            have s1 := hb1.size
            have hS1 : w1.cell? ⟨w.heap.size, 1, none⟩ = some (.int .i64 0) := oldc hb1 ltT (by simp [go_sem])
            have r0 : w1.cell? ⟨w.heap.size + 1 + 1, 0, none⟩ = some (.int .i64 0) := oldc hb1 ltT (by simp [go_sem])
            have r2 : w1.cell? ⟨w.heap.size + 1 + 1, 1, none⟩ = some (.int .i64 0) := oldc hb1 ltT (by simp [go_sem])
            have rf : ∀ o, w1.frozen? ⟨w.heap.size + 1 + 1, o, none⟩ = false := fun o => (hb1.frozen (p := ⟨w.heap.size + 1 + 1, o, none⟩) ltT).trans (by simp [go_sem])
            have lr : w.heap.size + 1 + 1 < w1.heap.size := by (try simp at s1); omega
            have n1 : ¬ w.heap.size + 1 + 1 = w1.heap.size := by omega
            have n2 : ¬ w1.heap.size = w.heap.size + 1 + 1 := by omega
            have n3 : ¬ w.heap.size = w1.heap.size := by omega
            have n4 : ¬ w1.heap.size = w.heap.size := by omega
            have l0 : w.heap.size < w1.heap.size := by omega
            have z0 : w1.cell? ⟨w.heap.size + 1 + 1 + 1, 0, none⟩ = some (.int .i64 0) := oldc hb1 ltT (by simp [go_sem])
            have l3 : w.heap.size + 1 + 1 + 1 < w1.heap.size := by (try simp at s1); omega
            have hB1 : Below w.heap.size w w1 := Below.trans (show Below w.heap.size w _ from bwT) (hb1.mono szT)
            clear hb1
            refine hK.out _ _ ?_ (fun hHeld => ?_)
            · exact kpT
            clear hK K
            try simp only [Act.put, List.setIfInBounds_toArray, List.set_cons_zero, List.set_cons_succ]
            refine tkR 7 (v := ?_) ?_ ?_
            rotate_left
            · intro w hSw; (try dsimp only at hSw); go_simp <;> with_reducible rfl
            try simp only [Act.put, List.setIfInBounds_toArray, List.set_cons_zero, List.set_cons_succ]
            refine wpAnyH_ready (rs := [8]) (by kernel_rfl) (by simp) ?_
            refine rdR (fun K hK => ?_) ?_
            · go_simp
              refine hK.out _ _ ?_ (fun hHeld => ?_)
              · exact kpT
              clear hK K
              try simp only [Act.put, List.setIfInBounds_toArray, List.set_cons_zero, List.set_cons_succ]
              refine wpAnyH_done (by kernel_rfl) ?_ _
              go_wp2
              exact bodyPost_ret (v := .agg #[.int .i64 r1, .int .i64 0]) (by simp [results, Try.results69, go_sem, *]) rfl ⟨rfl, bwT⟩
            exact AllReadyH.nil
          exact AllReadyH.nil
        exact AllReadyH.nil
      exact AllReadyH.nil
    · obtain rfl : r2 = 2 := by simpa using h2
      clear h2 hk ha
      go_enter Try.func69, Try.ntmps69
      go_upto_region 11 with fail
      refine wp_region_held_drew (S := (fun w' => w'.cell? ⟨w.heap.size, 1, none⟩ = some (.int .i64 1))) (by kernel_rfl) ?_ (fun hHeld => ?_)
      · first | exact trivial | ((try dsimp only); go_keep)
      refine tkR 0 (v := ?_) ?_ ?_
      rotate_left
      · intro w hSw; (try dsimp only at hSw); go_simp <;> with_reducible rfl
      try simp only [Act.put, List.setIfInBounds_toArray, List.set_cons_zero, List.set_cons_succ]
      refine tkR 3 (v := ?_) ?_ ?_
      rotate_left
      · intro w hSw; (try dsimp only at hSw); go_simp <;> with_reducible rfl
      try simp only [Act.put, List.setIfInBounds_toArray, List.set_cons_zero, List.set_cons_succ]
      refine tkR 4 (v := ?_) ?_ ?_
      rotate_left
      · intro w hSw; (try dsimp only at hSw); go_simp <;> with_reducible rfl
      try simp only [Act.put, List.setIfInBounds_toArray, List.set_cons_zero, List.set_cons_succ]
      refine wpAnyH_ready (rs := [1, 2]) (by kernel_rfl) (by simp) ?_
      refine rdR (fun K hK => ?_) ?_
      · go_simp
        refine (pickI_any _ 3 4 (w.heap.size + 1) sex (by simp [go_sem]) r1 HR.out).mono ?_
        rintro e1 w1 ⟨rfl, hb1⟩
        have s1 := hb1.size
        have hS1 : w1.cell? ⟨w.heap.size, 1, none⟩ = some (.int .i64 1) := oldc hb1 ltT (by simp [go_sem])
        have r0 : w1.cell? ⟨w.heap.size + 1 + 1, 0, none⟩ = some (.int .i64 0) := oldc hb1 ltT (by simp [go_sem])
        have r2 : w1.cell? ⟨w.heap.size + 1 + 1, 1, none⟩ = some (.int .i64 0) := oldc hb1 ltT (by simp [go_sem])
        have rf : ∀ o, w1.frozen? ⟨w.heap.size + 1 + 1, o, none⟩ = false := fun o => (hb1.frozen (p := ⟨w.heap.size + 1 + 1, o, none⟩) ltT).trans (by simp [go_sem])
        have lr : w.heap.size + 1 + 1 < w1.heap.size := by (try simp at s1); omega
        have n1 : ¬ w.heap.size + 1 + 1 = w1.heap.size := by omega
        have n2 : ¬ w1.heap.size = w.heap.size + 1 + 1 := by omega
        have n3 : ¬ w.heap.size = w1.heap.size := by omega
        have n4 : ¬ w1.heap.size = w.heap.size := by omega
        have l0 : w.heap.size < w1.heap.size := by omega
        have hB1 : Below w.heap.size w w1 := Below.trans (show Below w.heap.size w _ from bwT) (hb1.mono szT)
        clear hb1
        refine hK.out _ _ ?_ (fun hHeld => ?_)
        · exact kpT
        clear hK K
        try simp only [Act.put, List.setIfInBounds_toArray, List.set_cons_zero, List.set_cons_succ]
        refine wpAnyH_ready (rs := [2]) (by kernel_rfl) (by simp) ?_
        refine rdR (fun K hK => ?_) ?_
        · go_simp
          refine hK.out _ _ ?_ (fun hHeld => ?_)
          · exact kpT
          clear hK K
          try simp only [Act.put, List.setIfInBounds_toArray, List.set_cons_zero, List.set_cons_succ]
          refine tkR 5 (v := ?_) ?_ ?_
          rotate_left
          · intro w hSw; (try dsimp only at hSw); go_simp <;> with_reducible rfl
          try simp only [Act.put, List.setIfInBounds_toArray, List.set_cons_zero, List.set_cons_succ]
          refine wpAnyH_ready (rs := [6]) (by kernel_rfl) (by simp) ?_
          refine rdR (fun K hK => ?_) ?_
          · go_simp
            refine hK.out _ _ ?_ (fun hHeld => ?_)
            · exact kpT
            clear hK K
            try simp only [Act.put, List.setIfInBounds_toArray, List.set_cons_zero, List.set_cons_succ]
            refine tkR 7 (v := ?_) ?_ ?_
            rotate_left
            · intro w hSw; (try dsimp only at hSw); go_simp <;> with_reducible rfl
            try simp only [Act.put, List.setIfInBounds_toArray, List.set_cons_zero, List.set_cons_succ]
            refine wpAnyH_ready (rs := [8]) (by kernel_rfl) (by simp) ?_
            refine rdR (fun K hK => ?_) ?_
            · go_simp
              refine hK.out _ _ ?_ (fun hHeld => ?_)
              · exact kpT
              clear hK K
              try simp only [Act.put, List.setIfInBounds_toArray, List.set_cons_zero, List.set_cons_succ]
              refine wpAnyH_done (by kernel_rfl) ?_ _
              go_wp2
              exact bodyPost_ret (v := .agg #[.int .i64 r1, .int .i64 2]) (by simp [results, Try.results69, go_sem, *]) rfl ⟨rfl, bwT⟩
            exact AllReadyH.nil
          exact AllReadyH.nil
        exact AllReadyH.nil
      refine rdR (fun K hK => ?_) ?_
      · go_simp
        refine hK.out _ _ ?_ (fun hHeld => ?_)
        · exact kpT
        clear hK K
        try simp only [Act.put, List.setIfInBounds_toArray, List.set_cons_zero, List.set_cons_succ]
        refine tkR 5 (v := ?_) ?_ ?_
        rotate_left
        · intro w hSw; (try dsimp only at hSw); go_simp <;> with_reducible rfl
        try simp only [Act.put, List.setIfInBounds_toArray, List.set_cons_zero, List.set_cons_succ]
        refine wpAnyH_ready (rs := [1, 6]) (by kernel_rfl) (by simp) ?_
        refine rdR (fun K hK => ?_) ?_
        · go_simp
          refine (pickI_any _ 3 4 (w.heap.size + 1) sex (by simp [go_sem]) r1 HR.out).mono ?_
          rintro e1 w1 ⟨rfl, hb1⟩
          have s1 := hb1.size
          have hS1 : w1.cell? ⟨w.heap.size, 1, none⟩ = some (.int .i64 1) := oldc hb1 ltT (by simp [go_sem])
          have r0 : w1.cell? ⟨w.heap.size + 1 + 1, 0, none⟩ = some (.int .i64 0) := oldc hb1 ltT (by simp [go_sem])
          have r2 : w1.cell? ⟨w.heap.size + 1 + 1, 1, none⟩ = some (.int .i64 0) := oldc hb1 ltT (by simp [go_sem])
          have rf : ∀ o, w1.frozen? ⟨w.heap.size + 1 + 1, o, none⟩ = false := fun o => (hb1.frozen (p := ⟨w.heap.size + 1 + 1, o, none⟩) ltT).trans (by simp [go_sem])
          have lr : w.heap.size + 1 + 1 < w1.heap.size := by (try simp at s1); omega
          have n1 : ¬ w.heap.size + 1 + 1 = w1.heap.size := by omega
          have n2 : ¬ w1.heap.size = w.heap.size + 1 + 1 := by omega
          have n3 : ¬ w.heap.size = w1.heap.size := by omega
          have n4 : ¬ w1.heap.size = w.heap.size := by omega
          have l0 : w.heap.size < w1.heap.size := by omega
          have z0 : w1.cell? ⟨w.heap.size + 1 + 1 + 1, 1, none⟩ = some (.int .i64 2) := oldc hb1 ltT (by simp [go_sem])
          have l3 : w.heap.size + 1 + 1 + 1 < w1.heap.size := by (try simp at s1); omega
          have hB1 : Below w.heap.size w w1 := Below.trans (show Below w.heap.size w _ from bwT) (hb1.mono szT)
          clear hb1
          refine hK.out _ _ ?_ (fun hHeld => ?_)
          · exact kpT
          clear hK K
          try simp only [Act.put, List.setIfInBounds_toArray, List.set_cons_zero, List.set_cons_succ]
          refine wpAnyH_ready (rs := [6]) (by kernel_rfl) (by simp) ?_
          refine rdR (fun K hK => ?_) ?_
          · go_simp
            refine hK.out _ _ ?_ (fun hHeld => ?_)
            · exact kpT
            clear hK K
            try simp only [Act.put, List.setIfInBounds_toArray, List.set_cons_zero, List.set_cons_succ]
            refine tkR 7 (v := ?_) ?_ ?_
            rotate_left
            · intro w hSw; (try dsimp only at hSw); go_simp <;> with_reducible rfl
            try simp only [Act.put, List.setIfInBounds_toArray, List.set_cons_zero, List.set_cons_succ]
            refine wpAnyH_ready (rs := [8]) (by kernel_rfl) (by simp) ?_
            refine rdR (fun K hK => ?_) ?_
            · go_simp
              refine hK.out _ _ ?_ (fun hHeld => ?_)
              · exact kpT
              clear hK K
              try simp only [Act.put, List.setIfInBounds_toArray, List.set_cons_zero, List.set_cons_succ]
              refine wpAnyH_done (by kernel_rfl) ?_ _
              go_wp2
              exact bodyPost_ret (v := .agg #[.int .i64 r1, .int .i64 2]) (by simp [results, Try.results69, go_sem, *]) rfl ⟨rfl, bwT⟩
            exact AllReadyH.nil
          exact AllReadyH.nil
        refine rdR (fun K hK => ?_) ?_
        · go_simp
          refine hK.out _ _ ?_ (fun hHeld => ?_)
          · exact kpT
          clear hK K
          try simp only [Act.put, List.setIfInBounds_toArray, List.set_cons_zero, List.set_cons_succ]
          refine wpAnyH_ready (rs := [1]) (by kernel_rfl) (by simp) ?_
          refine rdR (fun K hK => ?_) ?_
          · go_simp
            refine (pickI_any _ 3 4 (w.heap.size + 1) sex (by simp [go_sem]) r1 HR.out).mono ?_
            rintro e1 w1 ⟨rfl, hb1⟩
            have s1 := hb1.size
            have hS1 : w1.cell? ⟨w.heap.size, 1, none⟩ = some (.int .i64 1) := oldc hb1 ltT (by simp [go_sem])
            have r0 : w1.cell? ⟨w.heap.size + 1 + 1, 0, none⟩ = some (.int .i64 0) := oldc hb1 ltT (by simp [go_sem])
            have r2 : w1.cell? ⟨w.heap.size + 1 + 1, 1, none⟩ = some (.int .i64 0) := oldc hb1 ltT (by simp [go_sem])
            have rf : ∀ o, w1.frozen? ⟨w.heap.size + 1 + 1, o, none⟩ = false := fun o => (hb1.frozen (p := ⟨w.heap.size + 1 + 1, o, none⟩) ltT).trans (by simp [go_sem])
            have lr : w.heap.size + 1 + 1 < w1.heap.size := by (try simp at s1); omega
            have n1 : ¬ w.heap.size + 1 + 1 = w1.heap.size := by omega
            have n2 : ¬ w1.heap.size = w.heap.size + 1 + 1 := by omega
            have n3 : ¬ w.heap.size = w1.heap.size := by omega
            have n4 : ¬ w1.heap.size = w.heap.size := by omega
            have l0 : w.heap.size < w1.heap.size := by omega
            have z0 : w1.cell? ⟨w.heap.size + 1 + 1 + 1, 1, none⟩ = some (.int .i64 2) := oldc hb1 ltT (by simp [go_sem])
            have l3 : w.heap.size + 1 + 1 + 1 < w1.heap.size := by (try simp at s1); omega
            have hB1 : Below w.heap.size w w1 := Below.trans (show Below w.heap.size w _ from bwT) (hb1.mono szT)
            clear hb1
            refine hK.out _ _ ?_ (fun hHeld => ?_)
            · exact kpT
            clear hK K
            try simp only [Act.put, List.setIfInBounds_toArray, List.set_cons_zero, List.set_cons_succ]
            refine tkR 7 (v := ?_) ?_ ?_
            rotate_left
            · intro w hSw; (try dsimp only at hSw); go_simp <;> with_reducible rfl
            try simp only [Act.put, List.setIfInBounds_toArray, List.set_cons_zero, List.set_cons_succ]
            refine wpAnyH_ready (rs := [8]) (by kernel_rfl) (by simp) ?_
            refine rdR (fun K hK => ?_) ?_
            · go_simp
              refine hK.out _ _ ?_ (fun hHeld => ?_)
              · exact kpT
              clear hK K
              try simp only [Act.put, List.setIfInBounds_toArray, List.set_cons_zero, List.set_cons_succ]
              refine wpAnyH_done (by kernel_rfl) ?_ _
              go_wp2
              exact bodyPost_ret (v := .agg #[.int .i64 r1, .int .i64 2]) (by simp [results, Try.results69, go_sem, *]) rfl ⟨rfl, bwT⟩
            exact AllReadyH.nil
          exact AllReadyH.nil
        exact AllReadyH.nil
      exact AllReadyH.nil
    · obtain rfl : r2 = 1 := by simpa using h2
      clear h2 hk ha
      go_enter Try.func69, Try.ntmps69
      go_upto_region 11 with fail
      refine wp_region_held_drew (S := (fun w' => w'.cell? ⟨w.heap.size, 1, none⟩ = some (.int .i64 2))) (by kernel_rfl) ?_ (fun hHeld => ?_)
      · first | exact trivial | ((try dsimp only); go_keep)
      refine tkR 0 (v := ?_) ?_ ?_
      rotate_left
      · intro w hSw; (try dsimp only at hSw); go_simp <;> with_reducible rfl
      try simp only [Act.put, List.setIfInBounds_toArray, List.set_cons_zero, List.set_cons_succ]
      refine tkR 3 (v := ?_) ?_ ?_
      rotate_left
      · intro w hSw; (try dsimp only at hSw); go_simp <;> with_reducible rfl
      try simp only [Act.put, List.setIfInBounds_toArray, List.set_cons_zero, List.set_cons_succ]
      refine tkR 4 (v := ?_) ?_ ?_
      rotate_left
      · intro w hSw; (try dsimp only at hSw); go_simp <;> with_reducible rfl
      try simp only [Act.put, List.setIfInBounds_toArray, List.set_cons_zero, List.set_cons_succ]
      refine wpAnyH_ready (rs := [1, 2]) (by kernel_rfl) (by simp) ?_
      refine rdR (fun K hK => ?_) ?_
      · go_simp
        refine (pickI_any _ 3 4 (w.heap.size + 1) sex (by simp [go_sem]) r1 HR.out).mono ?_
        rintro e1 w1 ⟨rfl, hb1⟩
        have s1 := hb1.size
        have hS1 : w1.cell? ⟨w.heap.size, 1, none⟩ = some (.int .i64 2) := oldc hb1 ltT (by simp [go_sem])
        have r0 : w1.cell? ⟨w.heap.size + 1 + 1, 0, none⟩ = some (.int .i64 0) := oldc hb1 ltT (by simp [go_sem])
        have r2 : w1.cell? ⟨w.heap.size + 1 + 1, 1, none⟩ = some (.int .i64 0) := oldc hb1 ltT (by simp [go_sem])
        have rf : ∀ o, w1.frozen? ⟨w.heap.size + 1 + 1, o, none⟩ = false := fun o => (hb1.frozen (p := ⟨w.heap.size + 1 + 1, o, none⟩) ltT).trans (by simp [go_sem])
        have lr : w.heap.size + 1 + 1 < w1.heap.size := by (try simp at s1); omega
        have n1 : ¬ w.heap.size + 1 + 1 = w1.heap.size := by omega
        have n2 : ¬ w1.heap.size = w.heap.size + 1 + 1 := by omega
        have n3 : ¬ w.heap.size = w1.heap.size := by omega
        have n4 : ¬ w1.heap.size = w.heap.size := by omega
        have l0 : w.heap.size < w1.heap.size := by omega
        have hB1 : Below w.heap.size w w1 := Below.trans (show Below w.heap.size w _ from bwT) (hb1.mono szT)
        clear hb1
        refine hK.out _ _ ?_ (fun hHeld => ?_)
        · exact kpT
        clear hK K
        try simp only [Act.put, List.setIfInBounds_toArray, List.set_cons_zero, List.set_cons_succ]
        refine wpAnyH_ready (rs := [2]) (by kernel_rfl) (by simp) ?_
        refine rdR (fun K hK => ?_) ?_
        · go_simp
          refine hK.out _ _ ?_ (fun hHeld => ?_)
          · exact kpT
          clear hK K
          try simp only [Act.put, List.setIfInBounds_toArray, List.set_cons_zero, List.set_cons_succ]
          refine tkR 5 (v := ?_) ?_ ?_
          rotate_left
          · intro w hSw; (try dsimp only at hSw); go_simp <;> with_reducible rfl
          try simp only [Act.put, List.setIfInBounds_toArray, List.set_cons_zero, List.set_cons_succ]
          refine wpAnyH_ready (rs := [6]) (by kernel_rfl) (by simp) ?_
          refine rdR (fun K hK => ?_) ?_
          · go_simp
            refine hK.out _ _ ?_ (fun hHeld => ?_)
            · exact kpT
            clear hK K
            try simp only [Act.put, List.setIfInBounds_toArray, List.set_cons_zero, List.set_cons_succ]
            refine tkR 7 (v := ?_) ?_ ?_
            rotate_left
            · intro w hSw; (try dsimp only at hSw); go_simp <;> with_reducible rfl
            try simp only [Act.put, List.setIfInBounds_toArray, List.set_cons_zero, List.set_cons_succ]
            refine wpAnyH_ready (rs := [8]) (by kernel_rfl) (by simp) ?_
            refine rdR (fun K hK => ?_) ?_
            · go_simp
              refine hK.out _ _ ?_ (fun hHeld => ?_)
              · exact kpT
              clear hK K
              try simp only [Act.put, List.setIfInBounds_toArray, List.set_cons_zero, List.set_cons_succ]
              refine wpAnyH_done (by kernel_rfl) ?_ _
              go_wp2
              exact bodyPost_ret (v := .agg #[.int .i64 r1, .int .i64 1]) (by simp [results, Try.results69, go_sem, *]) rfl ⟨rfl, bwT⟩
            exact AllReadyH.nil
          exact AllReadyH.nil
        exact AllReadyH.nil
      refine rdR (fun K hK => ?_) ?_
      · go_simp
        refine hK.out _ _ ?_ (fun hHeld => ?_)
        · exact kpT
        clear hK K
        try simp only [Act.put, List.setIfInBounds_toArray, List.set_cons_zero, List.set_cons_succ]
        refine tkR 5 (v := ?_) ?_ ?_
        rotate_left
        · intro w hSw; (try dsimp only at hSw); go_simp <;> with_reducible rfl
        try simp only [Act.put, List.setIfInBounds_toArray, List.set_cons_zero, List.set_cons_succ]
        refine wpAnyH_ready (rs := [1, 6]) (by kernel_rfl) (by simp) ?_
        refine rdR (fun K hK => ?_) ?_
        · go_simp
          refine (pickI_any _ 3 4 (w.heap.size + 1) sex (by simp [go_sem]) r1 HR.out).mono ?_
          rintro e1 w1 ⟨rfl, hb1⟩
          have s1 := hb1.size
          have hS1 : w1.cell? ⟨w.heap.size, 1, none⟩ = some (.int .i64 2) := oldc hb1 ltT (by simp [go_sem])
          have r0 : w1.cell? ⟨w.heap.size + 1 + 1, 0, none⟩ = some (.int .i64 0) := oldc hb1 ltT (by simp [go_sem])
          have r2 : w1.cell? ⟨w.heap.size + 1 + 1, 1, none⟩ = some (.int .i64 0) := oldc hb1 ltT (by simp [go_sem])
          have rf : ∀ o, w1.frozen? ⟨w.heap.size + 1 + 1, o, none⟩ = false := fun o => (hb1.frozen (p := ⟨w.heap.size + 1 + 1, o, none⟩) ltT).trans (by simp [go_sem])
          have lr : w.heap.size + 1 + 1 < w1.heap.size := by (try simp at s1); omega
          have n1 : ¬ w.heap.size + 1 + 1 = w1.heap.size := by omega
          have n2 : ¬ w1.heap.size = w.heap.size + 1 + 1 := by omega
          have n3 : ¬ w.heap.size = w1.heap.size := by omega
          have n4 : ¬ w1.heap.size = w.heap.size := by omega
          have l0 : w.heap.size < w1.heap.size := by omega
          have z0 : w1.cell? ⟨w.heap.size + 1 + 1 + 1, 2, none⟩ = some (.int .i64 1) := oldc hb1 ltT (by simp [go_sem])
          have l3 : w.heap.size + 1 + 1 + 1 < w1.heap.size := by (try simp at s1); omega
          have hB1 : Below w.heap.size w w1 := Below.trans (show Below w.heap.size w _ from bwT) (hb1.mono szT)
          clear hb1
          refine hK.out _ _ ?_ (fun hHeld => ?_)
          · exact kpT
          clear hK K
          try simp only [Act.put, List.setIfInBounds_toArray, List.set_cons_zero, List.set_cons_succ]
          refine wpAnyH_ready (rs := [6]) (by kernel_rfl) (by simp) ?_
          refine rdR (fun K hK => ?_) ?_
          · go_simp
            refine hK.out _ _ ?_ (fun hHeld => ?_)
            · exact kpT
            clear hK K
            try simp only [Act.put, List.setIfInBounds_toArray, List.set_cons_zero, List.set_cons_succ]
            refine tkR 7 (v := ?_) ?_ ?_
            rotate_left
            · intro w hSw; (try dsimp only at hSw); go_simp <;> with_reducible rfl
            try simp only [Act.put, List.setIfInBounds_toArray, List.set_cons_zero, List.set_cons_succ]
            refine wpAnyH_ready (rs := [8]) (by kernel_rfl) (by simp) ?_
            refine rdR (fun K hK => ?_) ?_
            · go_simp
              refine hK.out _ _ ?_ (fun hHeld => ?_)
              · exact kpT
              clear hK K
              try simp only [Act.put, List.setIfInBounds_toArray, List.set_cons_zero, List.set_cons_succ]
              refine wpAnyH_done (by kernel_rfl) ?_ _
              go_wp2
              exact bodyPost_ret (v := .agg #[.int .i64 r1, .int .i64 1]) (by simp [results, Try.results69, go_sem, *]) rfl ⟨rfl, bwT⟩
            exact AllReadyH.nil
          exact AllReadyH.nil
        refine rdR (fun K hK => ?_) ?_
        · go_simp
          refine hK.out _ _ ?_ (fun hHeld => ?_)
          · exact kpT
          clear hK K
          try simp only [Act.put, List.setIfInBounds_toArray, List.set_cons_zero, List.set_cons_succ]
          refine wpAnyH_ready (rs := [1]) (by kernel_rfl) (by simp) ?_
          refine rdR (fun K hK => ?_) ?_
          · go_simp
            refine (pickI_any _ 3 4 (w.heap.size + 1) sex (by simp [go_sem]) r1 HR.out).mono ?_
            rintro e1 w1 ⟨rfl, hb1⟩
            have s1 := hb1.size
            have hS1 : w1.cell? ⟨w.heap.size, 1, none⟩ = some (.int .i64 2) := oldc hb1 ltT (by simp [go_sem])
            have r0 : w1.cell? ⟨w.heap.size + 1 + 1, 0, none⟩ = some (.int .i64 0) := oldc hb1 ltT (by simp [go_sem])
            have r2 : w1.cell? ⟨w.heap.size + 1 + 1, 1, none⟩ = some (.int .i64 0) := oldc hb1 ltT (by simp [go_sem])
            have rf : ∀ o, w1.frozen? ⟨w.heap.size + 1 + 1, o, none⟩ = false := fun o => (hb1.frozen (p := ⟨w.heap.size + 1 + 1, o, none⟩) ltT).trans (by simp [go_sem])
            have lr : w.heap.size + 1 + 1 < w1.heap.size := by (try simp at s1); omega
            have n1 : ¬ w.heap.size + 1 + 1 = w1.heap.size := by omega
            have n2 : ¬ w1.heap.size = w.heap.size + 1 + 1 := by omega
            have n3 : ¬ w.heap.size = w1.heap.size := by omega
            have n4 : ¬ w1.heap.size = w.heap.size := by omega
            have l0 : w.heap.size < w1.heap.size := by omega
            have z0 : w1.cell? ⟨w.heap.size + 1 + 1 + 1, 2, none⟩ = some (.int .i64 1) := oldc hb1 ltT (by simp [go_sem])
            have l3 : w.heap.size + 1 + 1 + 1 < w1.heap.size := by (try simp at s1); omega
            have hB1 : Below w.heap.size w w1 := Below.trans (show Below w.heap.size w _ from bwT) (hb1.mono szT)
            clear hb1
            refine hK.out _ _ ?_ (fun hHeld => ?_)
            · exact kpT
            clear hK K
            try simp only [Act.put, List.setIfInBounds_toArray, List.set_cons_zero, List.set_cons_succ]
            refine tkR 7 (v := ?_) ?_ ?_
            rotate_left
            · intro w hSw; (try dsimp only at hSw); go_simp <;> with_reducible rfl
            try simp only [Act.put, List.setIfInBounds_toArray, List.set_cons_zero, List.set_cons_succ]
            refine wpAnyH_ready (rs := [8]) (by kernel_rfl) (by simp) ?_
            refine rdR (fun K hK => ?_) ?_
            · go_simp
              refine hK.out _ _ ?_ (fun hHeld => ?_)
              · exact kpT
              clear hK K
              try simp only [Act.put, List.setIfInBounds_toArray, List.set_cons_zero, List.set_cons_succ]
              refine wpAnyH_done (by kernel_rfl) ?_ _
              go_wp2
              exact bodyPost_ret (v := .agg #[.int .i64 r1, .int .i64 1]) (by simp [results, Try.results69, go_sem, *]) rfl ⟨rfl, bwT⟩
            exact AllReadyH.nil
          exact AllReadyH.nil
        exact AllReadyH.nil
      exact AllReadyH.nil
  · simp [backSt] at hR
    obtain ⟨h1, h2⟩ := hR
    have HR := Lib.hid h1
    clear h1
    rcases age3 ha with rfl | rfl | rfl
    · obtain rfl : r2 = 0 := by simpa using h2
      clear h2 hk ha
      go_enter Try.func69, Try.ntmps69
      go_upto_region 11 with fail
      refine wp_region_held_drew (S := (fun w' => w'.cell? ⟨w.heap.size, 1, none⟩ = some (.int .i64 0))) (by kernel_rfl) ?_ (fun hHeld => ?_)
      · first | exact trivial | ((try dsimp only); go_keep)
      refine tkR 0 (v := ?_) ?_ ?_
      rotate_left
      · intro w hSw; (try dsimp only at hSw); go_simp <;> with_reducible rfl
      try simp only [Act.put, List.setIfInBounds_toArray, List.set_cons_zero, List.set_cons_succ]
      refine tkR 3 (v := ?_) ?_ ?_
      rotate_left
      · intro w hSw; (try dsimp only at hSw); go_simp <;> with_reducible rfl
      try simp only [Act.put, List.setIfInBounds_toArray, List.set_cons_zero, List.set_cons_succ]
      refine tkR 4 (v := ?_) ?_ ?_
      rotate_left
      · intro w hSw; (try dsimp only at hSw); go_simp <;> with_reducible rfl
      try simp only [Act.put, List.setIfInBounds_toArray, List.set_cons_zero, List.set_cons_succ]
      refine wpAnyH_ready (rs := [1, 2]) (by kernel_rfl) (by simp) ?_
      refine rdR (fun K hK => ?_) ?_
      · go_simp
        refine (pickI_any _ 3 4 (w.heap.size + 1) sex (by simp [go_sem]) r1 HR.out).mono ?_
        rintro e1 w1 ⟨rfl, hb1⟩
        have s1 := hb1.size
        have hS1 : w1.cell? ⟨w.heap.size, 1, none⟩ = some (.int .i64 0) := oldc hb1 ltT (by simp [go_sem])
        have r0 : w1.cell? ⟨w.heap.size + 1 + 1, 0, none⟩ = some (.int .i64 0) := oldc hb1 ltT (by simp [go_sem])
        have r2 : w1.cell? ⟨w.heap.size + 1 + 1, 1, none⟩ = some (.int .i64 0) := oldc hb1 ltT (by simp [go_sem])
        have rf : ∀ o, w1.frozen? ⟨w.heap.size + 1 + 1, o, none⟩ = false := fun o => (hb1.frozen (p := ⟨w.heap.size + 1 + 1, o, none⟩) ltT).trans (by simp [go_sem])
        have lr : w.heap.size + 1 + 1 < w1.heap.size := by (try simp at s1); omega
        have n1 : ¬ w.heap.size + 1 + 1 = w1.heap.size := by omega
        have n2 : ¬ w1.heap.size = w.heap.size + 1 + 1 := by omega
        have n3 : ¬ w.heap.size = w1.heap.size := by omega
        have n4 : ¬ w1.heap.size = w.heap.size := by omega
        have l0 : w.heap.size < w1.heap.size := by omega
        have hB1 : Below w.heap.size w w1 := Below.trans (show Below w.heap.size w _ from bwT) (hb1.mono szT)
        clear hb1
        refine hK.out _ _ ?_ (fun hHeld => ?_)
        · exact kpT
        clear hK K
        try simp only [Act.put, List.setIfInBounds_toArray, List.set_cons_zero, List.set_cons_succ]
        refine wpAnyH_ready (rs := [2]) (by kernel_rfl) (by simp) ?_
        refine rdR (fun K hK => ?_) ?_
        · go_simp
          refine hK.out _ _ ?_ (fun hHeld => ?_)
          · exact kpT
          clear hK K
          try simp only [Act.put, List.setIfInBounds_toArray, List.set_cons_zero, List.set_cons_succ]
          refine tkR 5 (v := ?_) ?_ ?_
          rotate_left
          · intro w hSw; (try dsimp only at hSw); go_simp <;> with_reducible rfl
          try simp only [Act.put, List.setIfInBounds_toArray, List.set_cons_zero, List.set_cons_succ]
          refine wpAnyH_ready (rs := [6]) (by kernel_rfl) (by simp) ?_
          refine rdR (fun K hK => ?_) ?_
          · go_simp
            refine hK.out _ _ ?_ (fun hHeld => ?_)
            · exact kpT
            clear hK K
            try simp only [Act.put, List.setIfInBounds_toArray, List.set_cons_zero, List.set_cons_succ]
            refine tkR 7 (v := ?_) ?_ ?_
            rotate_left
            · intro w hSw; (try dsimp only at hSw); go_simp <;> with_reducible rfl
            try simp only [Act.put, List.setIfInBounds_toArray, List.set_cons_zero, List.set_cons_succ]
            refine wpAnyH_ready (rs := [8]) (by kernel_rfl) (by simp) ?_
            refine rdR (fun K hK => ?_) ?_
            · go_simp
              refine hK.out _ _ ?_ (fun hHeld => ?_)
              · exact kpT
              clear hK K
              try simp only [Act.put, List.setIfInBounds_toArray, List.set_cons_zero, List.set_cons_succ]
              refine wpAnyH_done (by kernel_rfl) ?_ _
              go_wp2
              exact bodyPost_ret (v := .agg #[.int .i64 r1, .int .i64 0]) (by simp [results, Try.results69, go_sem, *]) rfl ⟨rfl, bwT⟩
            exact AllReadyH.nil
          exact AllReadyH.nil
        exact AllReadyH.nil
      refine rdR (fun K hK => ?_) ?_
      · go_simp
        refine hK.out _ _ ?_ (fun hHeld => ?_)
        · exact kpT
        clear hK K
        try simp only [Act.put, List.setIfInBounds_toArray, List.set_cons_zero, List.set_cons_succ]
        refine tkR 5 (v := ?_) ?_ ?_
        rotate_left
        · intro w hSw; (try dsimp only at hSw); go_simp <;> with_reducible rfl
        try simp only [Act.put, List.setIfInBounds_toArray, List.set_cons_zero, List.set_cons_succ]
        refine wpAnyH_ready (rs := [1, 6]) (by kernel_rfl) (by simp) ?_
        refine rdR (fun K hK => ?_) ?_
        · go_simp
          refine (pickI_any _ 3 4 (w.heap.size + 1) sex (by simp [go_sem]) r1 HR.out).mono ?_
          rintro e1 w1 ⟨rfl, hb1⟩
          have s1 := hb1.size
          have hS1 : w1.cell? ⟨w.heap.size, 1, none⟩ = some (.int .i64 0) := oldc hb1 ltT (by simp [go_sem])
          have r0 : w1.cell? ⟨w.heap.size + 1 + 1, 0, none⟩ = some (.int .i64 0) := oldc hb1 ltT (by simp [go_sem])
          have r2 : w1.cell? ⟨w.heap.size + 1 + 1, 1, none⟩ = some (.int .i64 0) := oldc hb1 ltT (by simp [go_sem])
          have rf : ∀ o, w1.frozen? ⟨w.heap.size + 1 + 1, o, none⟩ = false := fun o => (hb1.frozen (p := ⟨w.heap.size + 1 + 1, o, none⟩) ltT).trans (by simp [go_sem])
          have lr : w.heap.size + 1 + 1 < w1.heap.size := by (try simp at s1); omega
          have n1 : ¬ w.heap.size + 1 + 1 = w1.heap.size := by omega
          have n2 : ¬ w1.heap.size = w.heap.size + 1 + 1 := by omega
          have n3 : ¬ w.heap.size = w1.heap.size := by omega
          have n4 : ¬ w1.heap.size = w.heap.size := by omega
          have l0 : w.heap.size < w1.heap.size := by omega
          have z0 : w1.cell? ⟨w.heap.size + 1 + 1 + 1, 0, none⟩ = some (.int .i64 0) := oldc hb1 ltT (by simp [go_sem])
          have l3 : w.heap.size + 1 + 1 + 1 < w1.heap.size := by (try simp at s1); omega
          have hB1 : Below w.heap.size w w1 := Below.trans (show Below w.heap.size w _ from bwT) (hb1.mono szT)
          clear hb1
          refine hK.out _ _ ?_ (fun hHeld => ?_)
          · exact kpT
          clear hK K
          try simp only [Act.put, List.setIfInBounds_toArray, List.set_cons_zero, List.set_cons_succ]
          refine wpAnyH_ready (rs := [6]) (by kernel_rfl) (by simp) ?_
          refine rdR (fun K hK => ?_) ?_
          · go_simp
            refine hK.out _ _ ?_ (fun hHeld => ?_)
            · exact kpT
            clear hK K
            try simp only [Act.put, List.setIfInBounds_toArray, List.set_cons_zero, List.set_cons_succ]
            refine tkR 7 (v := ?_) ?_ ?_
            rotate_left
            · intro w hSw; (try dsimp only at hSw); go_simp <;> with_reducible rfl
            try simp only [Act.put, List.setIfInBounds_toArray, List.set_cons_zero, List.set_cons_succ]
            refine wpAnyH_ready (rs := [8]) (by kernel_rfl) (by simp) ?_
            refine rdR (fun K hK => ?_) ?_
            · go_simp
              refine hK.out _ _ ?_ (fun hHeld => ?_)
              · exact kpT
              clear hK K
              try simp only [Act.put, List.setIfInBounds_toArray, List.set_cons_zero, List.set_cons_succ]
              refine wpAnyH_done (by kernel_rfl) ?_ _
              go_wp2
              exact bodyPost_ret (v := .agg #[.int .i64 r1, .int .i64 0]) (by simp [results, Try.results69, go_sem, *]) rfl ⟨rfl, bwT⟩
            exact AllReadyH.nil
          exact AllReadyH.nil
        refine rdR (fun K hK => ?_) ?_
        · go_simp
          refine hK.out _ _ ?_ (fun hHeld => ?_)
          · exact kpT
          clear hK K
          try simp only [Act.put, List.setIfInBounds_toArray, List.set_cons_zero, List.set_cons_succ]
          refine wpAnyH_ready (rs := [1]) (by kernel_rfl) (by simp) ?_
          refine rdR (fun K hK => ?_) ?_
          · go_simp
            refine (pickI_any _ 3 4 (w.heap.size + 1) sex (by simp [go_sem]) r1 HR.out).mono ?_
            rintro e1 w1 ⟨rfl, hb1⟩
            have s1 := hb1.size
            have hS1 : w1.cell? ⟨w.heap.size, 1, none⟩ = some (.int .i64 0) := oldc hb1 ltT (by simp [go_sem])
            have r0 : w1.cell? ⟨w.heap.size + 1 + 1, 0, none⟩ = some (.int .i64 0) := oldc hb1 ltT (by simp [go_sem])
            have r2 : w1.cell? ⟨w.heap.size + 1 + 1, 1, none⟩ = some (.int .i64 0) := oldc hb1 ltT (by simp [go_sem])
            have rf : ∀ o, w1.frozen? ⟨w.heap.size + 1 + 1, o, none⟩ = false := fun o => (hb1.frozen (p := ⟨w.heap.size + 1 + 1, o, none⟩) ltT).trans (by simp [go_sem])
            have lr : w.heap.size + 1 + 1 < w1.heap.size := by (try simp at s1); omega
            have n1 : ¬ w.heap.size + 1 + 1 = w1.heap.size := by omega
            have n2 : ¬ w1.heap.size = w.heap.size + 1 + 1 := by omega
            have n3 : ¬ w.heap.size = w1.heap.size := by omega
            have n4 : ¬ w1.heap.size = w.heap.size := by omega
            have l0 : w.heap.size < w1.heap.size := by omega
            have z0 : w1.cell? ⟨w.heap.size + 1 + 1 + 1, 0, none⟩ = some (.int .i64 0) := oldc hb1 ltT (by simp [go_sem])
            have l3 : w.heap.size + 1 + 1 + 1 < w1.heap.size := by (try simp at s1); omega
            have hB1 : Below w.heap.size w w1 := Below.trans (show Below w.heap.size w _ from bwT) (hb1.mono szT)
            clear hb1
            refine hK.out _ _ ?_ (fun hHeld => ?_)
            · exact kpT
            clear hK K
            try simp only [Act.put, List.setIfInBounds_toArray, List.set_cons_zero, List.set_cons_succ]
            refine tkR 7 (v := ?_) ?_ ?_
            rotate_left
            · intro w hSw; (try dsimp only at hSw); go_simp <;> with_reducible rfl
            try simp only [Act.put, List.setIfInBounds_toArray, List.set_cons_zero, List.set_cons_succ]
            refine wpAnyH_ready (rs := [8]) (by kernel_rfl) (by simp) ?_
            refine rdR (fun K hK => ?_) ?_
            · go_simp
              refine hK.out _ _ ?_ (fun hHeld => ?_)
              · exact kpT
              clear hK K
              try simp only [Act.put, List.setIfInBounds_toArray, List.set_cons_zero, List.set_cons_succ]
              refine wpAnyH_done (by kernel_rfl) ?_ _
              go_wp2
              exact bodyPost_ret (v := .agg #[.int .i64 r1, .int .i64 0]) (by simp [results, Try.results69, go_sem, *]) rfl ⟨rfl, bwT⟩
            exact AllReadyH.nil
          exact AllReadyH.nil
        exact AllReadyH.nil
      exact AllReadyH.nil
    · obtain rfl : r2 = 2 := by simpa using h2
      clear h2 hk ha
      go_enter Try.func69, Try.ntmps69
      go_upto_region 11 with fail
      refine wp_region_held_drew (S := (fun w' => w'.cell? ⟨w.heap.size, 1, none⟩ = some (.int .i64 1))) (by kernel_rfl) ?_ (fun hHeld => ?_)
      · first | exact trivial | ((try dsimp only); go_keep)
      refine tkR 0 (v := ?_) ?_ ?_
      rotate_left
      · intro w hSw; (try dsimp only at hSw); go_simp <;> with_reducible rfl
      try simp only [Act.put, List.setIfInBounds_toArray, List.set_cons_zero, List.set_cons_succ]
      refine tkR 3 (v := ?_) ?_ ?_
      rotate_left
      · intro w hSw; (try dsimp only at hSw); go_simp <;> with_reducible rfl
      try simp only [Act.put, List.setIfInBounds_toArray, List.set_cons_zero, List.set_cons_succ]
      refine tkR 4 (v := ?_) ?_ ?_
      rotate_left
      · intro w hSw; (try dsimp only at hSw); go_simp <;> with_reducible rfl
      try simp only [Act.put, List.setIfInBounds_toArray, List.set_cons_zero, List.set_cons_succ]
      refine wpAnyH_ready (rs := [1, 2]) (by kernel_rfl) (by simp) ?_
      refine rdR (fun K hK => ?_) ?_
      · go_simp
        refine (pickI_any _ 3 4 (w.heap.size + 1) sex (by simp [go_sem]) r1 HR.out).mono ?_
        rintro e1 w1 ⟨rfl, hb1⟩
        have s1 := hb1.size
        have hS1 : w1.cell? ⟨w.heap.size, 1, none⟩ = some (.int .i64 1) := oldc hb1 ltT (by simp [go_sem])
        have r0 : w1.cell? ⟨w.heap.size + 1 + 1, 0, none⟩ = some (.int .i64 0) := oldc hb1 ltT (by simp [go_sem])
        have r2 : w1.cell? ⟨w.heap.size + 1 + 1, 1, none⟩ = some (.int .i64 0) := oldc hb1 ltT (by simp [go_sem])
        have rf : ∀ o, w1.frozen? ⟨w.heap.size + 1 + 1, o, none⟩ = false := fun o => (hb1.frozen (p := ⟨w.heap.size + 1 + 1, o, none⟩) ltT).trans (by simp [go_sem])
        have lr : w.heap.size + 1 + 1 < w1.heap.size := by (try simp at s1); omega
        have n1 : ¬ w.heap.size + 1 + 1 = w1.heap.size := by omega
        have n2 : ¬ w1.heap.size = w.heap.size + 1 + 1 := by omega
        have n3 : ¬ w.heap.size = w1.heap.size := by omega
        have n4 : ¬ w1.heap.size = w.heap.size := by omega
        have l0 : w.heap.size < w1.heap.size := by omega
        have hB1 : Below w.heap.size w w1 := Below.trans (show Below w.heap.size w _ from bwT) (hb1.mono szT)
        clear hb1
        refine hK.out _ _ ?_ (fun hHeld => ?_)
        · exact kpT
        clear hK K
        try simp only [Act.put, List.setIfInBounds_toArray, List.set_cons_zero, List.set_cons_succ]
        refine wpAnyH_ready (rs := [2]) (by kernel_rfl) (by simp) ?_
        refine rdR (fun K hK => ?_) ?_
        · go_simp
          refine hK.out _ _ ?_ (fun hHeld => ?_)
          · exact kpT
          clear hK K
          try simp only [Act.put, List.setIfInBounds_toArray, List.set_cons_zero, List.set_cons_succ]
          refine tkR 5 (v := ?_) ?_ ?_
          rotate_left
          · intro w hSw; (try dsimp only at hSw); go_simp <;> with_reducible rfl
          try simp only [Act.put, List.setIfInBounds_toArray, List.set_cons_zero, List.set_cons_succ]
          refine wpAnyH_ready (rs := [6]) (by kernel_rfl) (by simp) ?_
          refine rdR (fun K hK => ?_) ?_
          · go_simp
            refine hK.out _ _ ?_ (fun hHeld => ?_)
            · exact kpT
            clear hK K
            try simp only [Act.put, List.setIfInBounds_toArray, List.set_cons_zero, List.set_cons_succ]
            refine tkR 7 (v := ?_) ?_ ?_
            rotate_left
            · intro w hSw; (try dsimp only at hSw); go_simp <;> with_reducible rfl
            try simp only [Act.put, List.setIfInBounds_toArray, List.set_cons_zero, List.set_cons_succ]
            refine wpAnyH_ready (rs := [8]) (by kernel_rfl) (by simp) ?_
            refine rdR (fun K hK => ?_) ?_
            · go_simp
              refine hK.out _ _ ?_ (fun hHeld => ?_)
              · exact kpT
              clear hK K
              try simp only [Act.put, List.setIfInBounds_toArray, List.set_cons_zero, List.set_cons_succ]
              refine wpAnyH_done (by kernel_rfl) ?_ _
              go_wp2
              exact bodyPost_ret (v := .agg #[.int .i64 r1, .int .i64 2]) (by simp [results, Try.results69, go_sem, *]) rfl ⟨rfl, bwT⟩
            exact AllReadyH.nil
          exact AllReadyH.nil
        exact AllReadyH.nil
      refine rdR (fun K hK => ?_) ?_
      · go_simp
        refine hK.out _ _ ?_ (fun hHeld => ?_)
        · exact kpT
        clear hK K
        try simp only [Act.put, List.setIfInBounds_toArray, List.set_cons_zero, List.set_cons_succ]
        refine tkR 5 (v := ?_) ?_ ?_
        rotate_left
        · intro w hSw; (try dsimp only at hSw); go_simp <;> with_reducible rfl
        try simp only [Act.put, List.setIfInBounds_toArray, List.set_cons_zero, List.set_cons_succ]
        refine wpAnyH_ready (rs := [1, 6]) (by kernel_rfl) (by simp) ?_
        refine rdR (fun K hK => ?_) ?_
        · go_simp
          refine (pickI_any _ 3 4 (w.heap.size + 1) sex (by simp [go_sem]) r1 HR.out).mono ?_
          rintro e1 w1 ⟨rfl, hb1⟩
          have s1 := hb1.size
          have hS1 : w1.cell? ⟨w.heap.size, 1, none⟩ = some (.int .i64 1) := oldc hb1 ltT (by simp [go_sem])
          have r0 : w1.cell? ⟨w.heap.size + 1 + 1, 0, none⟩ = some (.int .i64 0) := oldc hb1 ltT (by simp [go_sem])
          have r2 : w1.cell? ⟨w.heap.size + 1 + 1, 1, none⟩ = some (.int .i64 0) := oldc hb1 ltT (by simp [go_sem])
          have rf : ∀ o, w1.frozen? ⟨w.heap.size + 1 + 1, o, none⟩ = false := fun o => (hb1.frozen (p := ⟨w.heap.size + 1 + 1, o, none⟩) ltT).trans (by simp [go_sem])
          have lr : w.heap.size + 1 + 1 < w1.heap.size := by (try simp at s1); omega
          have n1 : ¬ w.heap.size + 1 + 1 = w1.heap.size := by omega
          have n2 : ¬ w1.heap.size = w.heap.size + 1 + 1 := by omega
          have n3 : ¬ w.heap.size = w1.heap.size := by omega
          have n4 : ¬ w1.heap.size = w.heap.size := by omega
          have l0 : w.heap.size < w1.heap.size := by omega
          have z0 : w1.cell? ⟨w.heap.size + 1 + 1 + 1, 1, none⟩ = some (.int .i64 2) := oldc hb1 ltT (by simp [go_sem])
          have l3 : w.heap.size + 1 + 1 + 1 < w1.heap.size := by (try simp at s1); omega
          have hB1 : Below w.heap.size w w1 := Below.trans (show Below w.heap.size w _ from bwT) (hb1.mono szT)
          clear hb1
          refine hK.out _ _ ?_ (fun hHeld => ?_)
          · exact kpT
          clear hK K
          try simp only [Act.put, List.setIfInBounds_toArray, List.set_cons_zero, List.set_cons_succ]
          refine wpAnyH_ready (rs := [6]) (by kernel_rfl) (by simp) ?_
          refine rdR (fun K hK => ?_) ?_
          · go_simp
            refine hK.out _ _ ?_ (fun hHeld => ?_)
            · exact kpT
            clear hK K
            try simp only [Act.put, List.setIfInBounds_toArray, List.set_cons_zero, List.set_cons_succ]
            refine tkR 7 (v := ?_) ?_ ?_
            rotate_left
            · intro w hSw; (try dsimp only at hSw); go_simp <;> with_reducible rfl
            try simp only [Act.put, List.setIfInBounds_toArray, List.set_cons_zero, List.set_cons_succ]
            refine wpAnyH_ready (rs := [8]) (by kernel_rfl) (by simp) ?_
            refine rdR (fun K hK => ?_) ?_
            · go_simp
              refine hK.out _ _ ?_ (fun hHeld => ?_)
              · exact kpT
              clear hK K
              try simp only [Act.put, List.setIfInBounds_toArray, List.set_cons_zero, List.set_cons_succ]
              refine wpAnyH_done (by kernel_rfl) ?_ _
              go_wp2
              exact bodyPost_ret (v := .agg #[.int .i64 r1, .int .i64 2]) (by simp [results, Try.results69, go_sem, *]) rfl ⟨rfl, bwT⟩
            exact AllReadyH.nil
          exact AllReadyH.nil
        refine rdR (fun K hK => ?_) ?_
        · go_simp
          refine hK.out _ _ ?_ (fun hHeld => ?_)
          · exact kpT
          clear hK K
          try simp only [Act.put, List.setIfInBounds_toArray, List.set_cons_zero, List.set_cons_succ]
          refine wpAnyH_ready (rs := [1]) (by kernel_rfl) (by simp) ?_
          refine rdR (fun K hK => ?_) ?_
          · go_simp
            refine (pickI_any _ 3 4 (w.heap.size + 1) sex (by simp [go_sem]) r1 HR.out).mono ?_
            rintro e1 w1 ⟨rfl, hb1⟩
            have s1 := hb1.size
            have hS1 : w1.cell? ⟨w.heap.size, 1, none⟩ = some (.int .i64 1) := oldc hb1 ltT (by simp [go_sem])
            have r0 : w1.cell? ⟨w.heap.size + 1 + 1, 0, none⟩ = some (.int .i64 0) := oldc hb1 ltT (by simp [go_sem])
            have r2 : w1.cell? ⟨w.heap.size + 1 + 1, 1, none⟩ = some (.int .i64 0) := oldc hb1 ltT (by simp [go_sem])
            have rf : ∀ o, w1.frozen? ⟨w.heap.size + 1 + 1, o, none⟩ = false := fun o => (hb1.frozen (p := ⟨w.heap.size + 1 + 1, o, none⟩) ltT).trans (by simp [go_sem])
            have lr : w.heap.size + 1 + 1 < w1.heap.size := by (try simp at s1); omega
            have n1 : ¬ w.heap.size + 1 + 1 = w1.heap.size := by omega
            have n2 : ¬ w1.heap.size = w.heap.size + 1 + 1 := by omega
            have n3 : ¬ w.heap.size = w1.heap.size := by omega
            have n4 : ¬ w1.heap.size = w.heap.size := by omega
            have l0 : w.heap.size < w1.heap.size := by omega
            have z0 : w1.cell? ⟨w.heap.size + 1 + 1 + 1, 1, none⟩ = some (.int .i64 2) := oldc hb1 ltT (by simp [go_sem])
            have l3 : w.heap.size + 1 + 1 + 1 < w1.heap.size := by (try simp at s1); omega
            have hB1 : Below w.heap.size w w1 := Below.trans (show Below w.heap.size w _ from bwT) (hb1.mono szT)
            clear hb1
            refine hK.out _ _ ?_ (fun hHeld => ?_)
            · exact kpT
            clear hK K
            try simp only [Act.put, List.setIfInBounds_toArray, List.set_cons_zero, List.set_cons_succ]
            refine tkR 7 (v := ?_) ?_ ?_
            rotate_left
            · intro w hSw; (try dsimp only at hSw); go_simp <;> with_reducible rfl
            try simp only [Act.put, List.setIfInBounds_toArray, List.set_cons_zero, List.set_cons_succ]
            refine wpAnyH_ready (rs := [8]) (by kernel_rfl) (by simp) ?_
            refine rdR (fun K hK => ?_) ?_
            · go_simp
              refine hK.out _ _ ?_ (fun hHeld => ?_)
              · exact kpT
              clear hK K
              try simp only [Act.put, List.setIfInBounds_toArray, List.set_cons_zero, List.set_cons_succ]
              refine wpAnyH_done (by kernel_rfl) ?_ _
              go_wp2
              exact bodyPost_ret (v := .agg #[.int .i64 r1, .int .i64 2]) (by simp [results, Try.results69, go_sem, *]) rfl ⟨rfl, bwT⟩
            exact AllReadyH.nil
          exact AllReadyH.nil
        exact AllReadyH.nil
      exact AllReadyH.nil
    · obtain rfl : r2 = 1 := by simpa using h2
      clear h2 hk ha
      go_enter Try.func69, Try.ntmps69
      go_upto_region 11 with fail
      refine wp_region_held_drew (S := (fun w' => w'.cell? ⟨w.heap.size, 1, none⟩ = some (.int .i64 2))) (by kernel_rfl) ?_ (fun hHeld => ?_)
      · first | exact trivial | ((try dsimp only); go_keep)
      refine tkR 0 (v := ?_) ?_ ?_
      rotate_left
      · intro w hSw; (try dsimp only at hSw); go_simp <;> with_reducible rfl
      try simp only [Act.put, List.setIfInBounds_toArray, List.set_cons_zero, List.set_cons_succ]
      refine tkR 3 (v := ?_) ?_ ?_
      rotate_left
      · intro w hSw; (try dsimp only at hSw); go_simp <;> with_reducible rfl
      try simp only [Act.put, List.setIfInBounds_toArray, List.set_cons_zero, List.set_cons_succ]
      refine tkR 4 (v := ?_) ?_ ?_
      rotate_left
      · intro w hSw; (try dsimp only at hSw); go_simp <;> with_reducible rfl
      try simp only [Act.put, List.setIfInBounds_toArray, List.set_cons_zero, List.set_cons_succ]
      refine wpAnyH_ready (rs := [1, 2]) (by kernel_rfl) (by simp) ?_
      refine rdR (fun K hK => ?_) ?_
      · go_simp
        refine (pickI_any _ 3 4 (w.heap.size + 1) sex (by simp [go_sem]) r1 HR.out).mono ?_
        rintro e1 w1 ⟨rfl, hb1⟩
        have s1 := hb1.size
        have hS1 : w1.cell? ⟨w.heap.size, 1, none⟩ = some (.int .i64 2) := oldc hb1 ltT (by simp [go_sem])
        have r0 : w1.cell? ⟨w.heap.size + 1 + 1, 0, none⟩ = some (.int .i64 0) := oldc hb1 ltT (by simp [go_sem])
        have r2 : w1.cell? ⟨w.heap.size + 1 + 1, 1, none⟩ = some (.int .i64 0) := oldc hb1 ltT (by simp [go_sem])
        have rf : ∀ o, w1.frozen? ⟨w.heap.size + 1 + 1, o, none⟩ = false := fun o => (hb1.frozen (p := ⟨w.heap.size + 1 + 1, o, none⟩) ltT).trans (by simp [go_sem])
        have lr : w.heap.size + 1 + 1 < w1.heap.size := by (try simp at s1); omega
        have n1 : ¬ w.heap.size + 1 + 1 = w1.heap.size := by omega
        have n2 : ¬ w1.heap.size = w.heap.size + 1 + 1 := by omega
        have n3 : ¬ w.heap.size = w1.heap.size := by omega
        have n4 : ¬ w1.heap.size = w.heap.size := by omega
        have l0 : w.heap.size < w1.heap.size := by omega
        have hB1 : Below w.heap.size w w1 := Below.trans (show Below w.heap.size w _ from bwT) (hb1.mono szT)
        clear hb1
        refine hK.out _ _ ?_ (fun hHeld => ?_)
        · exact kpT
        clear hK K
        try simp only [Act.put, List.setIfInBounds_toArray, List.set_cons_zero, List.set_cons_succ]
        refine wpAnyH_ready (rs := [2]) (by kernel_rfl) (by simp) ?_
        refine rdR (fun K hK => ?_) ?_
        · go_simp
          refine hK.out _ _ ?_ (fun hHeld => ?_)
          · exact kpT
          clear hK K
          try simp only [Act.put, List.setIfInBounds_toArray, List.set_cons_zero, List.set_cons_succ]
          refine tkR 5 (v := ?_) ?_ ?_
          rotate_left
          · intro w hSw; (try dsimp only at hSw); go_simp <;> with_reducible rfl
          try simp only [Act.put, List.setIfInBounds_toArray, List.set_cons_zero, List.set_cons_succ]
          refine wpAnyH_ready (rs := [6]) (by kernel_rfl) (by simp) ?_
          refine rdR (fun K hK => ?_) ?_
          · go_simp
            refine hK.out _ _ ?_ (fun hHeld => ?_)
            · exact kpT
            clear hK K
            try simp only [Act.put, List.setIfInBounds_toArray, List.set_cons_zero, List.set_cons_succ]
            refine tkR 7 (v := ?_) ?_ ?_
            rotate_left
            · intro w hSw; (try dsimp only at hSw); go_simp <;> with_reducible rfl
            try simp only [Act.put, List.setIfInBounds_toArray, List.set_cons_zero, List.set_cons_succ]
            refine wpAnyH_ready (rs := [8]) (by kernel_rfl) (by simp) ?_
            refine rdR (fun K hK => ?_) ?_
            · go_simp
              refine hK.out _ _ ?_ (fun hHeld => ?_)
              · exact kpT
              clear hK K
              try simp only [Act.put, List.setIfInBounds_toArray, List.set_cons_zero, List.set_cons_succ]
              refine wpAnyH_done (by kernel_rfl) ?_ _
              go_wp2
              exact bodyPost_ret (v := .agg #[.int .i64 r1, .int .i64 1]) (by simp [results, Try.results69, go_sem, *]) rfl ⟨rfl, bwT⟩
            exact AllReadyH.nil
          exact AllReadyH.nil
        exact AllReadyH.nil
      refine rdR (fun K hK => ?_) ?_
      · go_simp
        refine hK.out _ _ ?_ (fun hHeld => ?_)
        · exact kpT
        clear hK K
        try simp only [Act.put, List.setIfInBounds_toArray, List.set_cons_zero, List.set_cons_succ]
        refine tkR 5 (v := ?_) ?_ ?_
        rotate_left
        · intro w hSw; (try dsimp only at hSw); go_simp <;> with_reducible rfl
        try simp only [Act.put, List.setIfInBounds_toArray, List.set_cons_zero, List.set_cons_succ]
        refine wpAnyH_ready (rs := [1, 6]) (by kernel_rfl) (by simp) ?_
        refine rdR (fun K hK => ?_) ?_
        · go_simp
          refine (pickI_any _ 3 4 (w.heap.size + 1) sex (by simp [go_sem]) r1 HR.out).mono ?_
          rintro e1 w1 ⟨rfl, hb1⟩
          have s1 := hb1.size
          have hS1 : w1.cell? ⟨w.heap.size, 1, none⟩ = some (.int .i64 2) := oldc hb1 ltT (by simp [go_sem])
          have r0 : w1.cell? ⟨w.heap.size + 1 + 1, 0, none⟩ = some (.int .i64 0) := oldc hb1 ltT (by simp [go_sem])
          have r2 : w1.cell? ⟨w.heap.size + 1 + 1, 1, none⟩ = some (.int .i64 0) := oldc hb1 ltT (by simp [go_sem])
          have rf : ∀ o, w1.frozen? ⟨w.heap.size + 1 + 1, o, none⟩ = false := fun o => (hb1.frozen (p := ⟨w.heap.size + 1 + 1, o, none⟩) ltT).trans (by simp [go_sem])
          have lr : w.heap.size + 1 + 1 < w1.heap.size := by (try simp at s1); omega
          have n1 : ¬ w.heap.size + 1 + 1 = w1.heap.size := by omega
          have n2 : ¬ w1.heap.size = w.heap.size + 1 + 1 := by omega
          have n3 : ¬ w.heap.size = w1.heap.size := by omega
          have n4 : ¬ w1.heap.size = w.heap.size := by omega
          have l0 : w.heap.size < w1.heap.size := by omega
          have z0 : w1.cell? ⟨w.heap.size + 1 + 1 + 1, 2, none⟩ = some (.int .i64 1) := oldc hb1 ltT (by simp [go_sem])
          have l3 : w.heap.size + 1 + 1 + 1 < w1.heap.size := by (try simp at s1); omega
          have hB1 : Below w.heap.size w w1 := Below.trans (show Below w.heap.size w _ from bwT) (hb1.mono szT)
          clear hb1
          refine hK.out _ _ ?_ (fun hHeld => ?_)
          · exact kpT
          clear hK K
          try simp only [Act.put, List.setIfInBounds_toArray, List.set_cons_zero, List.set_cons_succ]
          refine wpAnyH_ready (rs := [6]) (by kernel_rfl) (by simp) ?_
          refine rdR (fun K hK => ?_) ?_
          · go_simp
            refine hK.out _ _ ?_ (fun hHeld => ?_)
            · exact kpT
            clear hK K
            try simp only [Act.put, List.setIfInBounds_toArray, List.set_cons_zero, List.set_cons_succ]
            refine tkR 7 (v := ?_) ?_ ?_
            rotate_left
            · intro w hSw; (try dsimp only at hSw); go_simp <;> with_reducible rfl
            try simp only [Act.put, List.setIfInBounds_toArray, List.set_cons_zero, List.set_cons_succ]
            refine wpAnyH_ready (rs := [8]) (by kernel_rfl) (by simp) ?_
            refine rdR (fun K hK => ?_) ?_
            · go_simp
              refine hK.out _ _ ?_ (fun hHeld => ?_)
              · exact kpT
              clear hK K
              try simp only [Act.put, List.setIfInBounds_toArray, List.set_cons_zero, List.set_cons_succ]
              refine wpAnyH_done (by kernel_rfl) ?_ _
              go_wp2
              exact bodyPost_ret (v := .agg #[.int .i64 r1, .int .i64 1]) (by simp [results, Try.results69, go_sem, *]) rfl ⟨rfl, bwT⟩
            exact AllReadyH.nil
          exact AllReadyH.nil
        refine rdR (fun K hK => ?_) ?_
        · go_simp
          refine hK.out _ _ ?_ (fun hHeld => ?_)
          · exact kpT
          clear hK K
          try simp only [Act.put, List.setIfInBounds_toArray, List.set_cons_zero, List.set_cons_succ]
          refine wpAnyH_ready (rs := [1]) (by kernel_rfl) (by simp) ?_
          refine rdR (fun K hK => ?_) ?_
          · go_simp
            refine (pickI_any _ 3 4 (w.heap.size + 1) sex (by simp [go_sem]) r1 HR.out).mono ?_
            rintro e1 w1 ⟨rfl, hb1⟩
            have s1 := hb1.size
            have hS1 : w1.cell? ⟨w.heap.size, 1, none⟩ = some (.int .i64 2) := oldc hb1 ltT (by simp [go_sem])
            have r0 : w1.cell? ⟨w.heap.size + 1 + 1, 0, none⟩ = some (.int .i64 0) := oldc hb1 ltT (by simp [go_sem])
            have r2 : w1.cell? ⟨w.heap.size + 1 + 1, 1, none⟩ = some (.int .i64 0) := oldc hb1 ltT (by simp [go_sem])
            have rf : ∀ o, w1.frozen? ⟨w.heap.size + 1 + 1, o, none⟩ = false := fun o => (hb1.frozen (p := ⟨w.heap.size + 1 + 1, o, none⟩) ltT).trans (by simp [go_sem])
            have lr : w.heap.size + 1 + 1 < w1.heap.size := by (try simp at s1); omega
            have n1 : ¬ w.heap.size + 1 + 1 = w1.heap.size := by omega
            have n2 : ¬ w1.heap.size = w.heap.size + 1 + 1 := by omega
            have n3 : ¬ w.heap.size = w1.heap.size := by omega
            have n4 : ¬ w1.heap.size = w.heap.size := by omega
            have l0 : w.heap.size < w1.heap.size := by omega
            have z0 : w1.cell? ⟨w.heap.size + 1 + 1 + 1, 2, none⟩ = some (.int .i64 1) := oldc hb1 ltT (by simp [go_sem])
            have l3 : w.heap.size + 1 + 1 + 1 < w1.heap.size := by (try simp at s1); omega
            have hB1 : Below w.heap.size w w1 := Below.trans (show Below w.heap.size w _ from bwT) (hb1.mono szT)
            clear hb1
            refine hK.out _ _ ?_ (fun hHeld => ?_)
            · exact kpT
            clear hK K
            try simp only [Act.put, List.setIfInBounds_toArray, List.set_cons_zero, List.set_cons_succ]
            refine tkR 7 (v := ?_) ?_ ?_
            rotate_left
            · intro w hSw; (try dsimp only at hSw); go_simp <;> with_reducible rfl
            try simp only [Act.put, List.setIfInBounds_toArray, List.set_cons_zero, List.set_cons_succ]
            refine wpAnyH_ready (rs := [8]) (by kernel_rfl) (by simp) ?_
            refine rdR (fun K hK => ?_) ?_
            · go_simp
              refine hK.out _ _ ?_ (fun hHeld => ?_)
              · exact kpT
              clear hK K
              try simp only [Act.put, List.setIfInBounds_toArray, List.set_cons_zero, List.set_cons_succ]
              refine wpAnyH_done (by kernel_rfl) ?_ _
              go_wp2
              exact bodyPost_ret (v := .agg #[.int .i64 r1, .int .i64 1]) (by simp [results, Try.results69, go_sem, *]) rfl ⟨rfl, bwT⟩
            exact AllReadyH.nil
          exact AllReadyH.nil
        exact AllReadyH.nil
      exact AllReadyH.nil
  · simp [backSt] at hR
    obtain ⟨h1, rfl⟩ := hR
    have HR := Lib.hid h1
    clear h1
    go_enter Try.func69, Try.ntmps69
    go_wp2_with fail
    refine (pickI_any _ 1 2 (w.heap.size + 1) sex (by simp [go_sem]) r1 HR.out).mono ?_
    rintro e3 w3 ⟨rfl, hbw3⟩
    have hpw3 : Below w.heap.size w w3 := Below.after bwT hbw3 szT
    have sw3 := hpw3.size
    have hBw3 : Below w.heap.size w w3 := hpw3
    have l_s : w.heap.size < w3.heap.size := by have := hbw3.size; simp at this; omega
    have q_s0 : w3.cell? ⟨w.heap.size, 0, none⟩ = some (.int .i64 5) := oldc hbw3 ltT (by simp [go_sem])
    have q_s1 : w3.cell? ⟨w.heap.size, 1, none⟩ = some (.int .i64 ag) := oldc hbw3 ltT (by simp [go_sem])
    have l_x : w.heap.size + 1 < w3.heap.size := by have := hbw3.size; simp at this; omega
    have q_x0 : w3.cell? ⟨w.heap.size + 1, 0, none⟩ = some (.int .i64 sex) := oldc hbw3 ltT (by simp [go_sem])
    have l_r : w.heap.size + 1 + 1 < w3.heap.size := by have := hbw3.size; simp at this; omega
    have q_r0 : w3.cell? ⟨w.heap.size + 1 + 1, 0, none⟩ = some (.int .i64 0) := oldc hbw3 ltT (by simp [go_sem])
    have q_r1 : w3.cell? ⟨w.heap.size + 1 + 1, 1, none⟩ = some (.int .i64 0) := oldc hbw3 ltT (by simp [go_sem])
    have f_r : ∀ o, w3.frozen? ⟨w.heap.size + 1 + 1, o, none⟩ = false := fun o => (hbw3.frozen (p := ⟨w.heap.size + 1 + 1, o, none⟩) ltT).trans (by simp [go_sem])
    clear hbw3 hpw3
    go_wp2
    exact bodyPost_ret (v := .agg #[.int .i64 r1, .int .i64 0]) (by simp [results, Try.results69, go_sem, *]) rfl ⟨rfl, bwT⟩
  · simp [backSt] at hR
    obtain ⟨h1, rfl⟩ := hR
    have HR := Lib.hid h1
    clear h1
    go_enter Try.func69, Try.ntmps69
    go_wp2_with fail
    refine (pickI_any _ 1 2 (w.heap.size + 1) sex (by simp [go_sem]) r1 HR.out).mono ?_
    rintro e4 w4 ⟨rfl, hbw4⟩
    have hpw4 : Below w.heap.size w w4 := Below.after bwT hbw4 szT
    have sw4 := hpw4.size
    have hBw4 : Below w.heap.size w w4 := hpw4
    have l_s : w.heap.size < w4.heap.size := by have := hbw4.size; simp at this; omega
    have q_s0 : w4.cell? ⟨w.heap.size, 0, none⟩ = some (.int .i64 6) := oldc hbw4 ltT (by simp [go_sem])
    have q_s1 : w4.cell? ⟨w.heap.size, 1, none⟩ = some (.int .i64 ag) := oldc hbw4 ltT (by simp [go_sem])
    have l_x : w.heap.size + 1 < w4.heap.size := by have := hbw4.size; simp at this; omega
    have q_x0 : w4.cell? ⟨w.heap.size + 1, 0, none⟩ = some (.int .i64 sex) := oldc hbw4 ltT (by simp [go_sem])
    have l_r : w.heap.size + 1 + 1 < w4.heap.size := by have := hbw4.size; simp at this; omega
    have q_r0 : w4.cell? ⟨w.heap.size + 1 + 1, 0, none⟩ = some (.int .i64 0) := oldc hbw4 ltT (by simp [go_sem])
    have q_r1 : w4.cell? ⟨w.heap.size + 1 + 1, 1, none⟩ = some (.int .i64 0) := oldc hbw4 ltT (by simp [go_sem])
    have f_r : ∀ o, w4.frozen? ⟨w.heap.size + 1 + 1, o, none⟩ = false := fun o => (hbw4.frozen (p := ⟨w.heap.size + 1 + 1, o, none⟩) ltT).trans (by simp [go_sem])
    clear hbw4 hpw4
    go_wp2
    exact bodyPost_ret (v := .agg #[.int .i64 r1, .int .i64 0]) (by simp [results, Try.results69, go_sem, *]) rfl ⟨rfl, bwT⟩
  · simp [backSt] at hR
    obtain ⟨rfl, rfl⟩ := hR
    go_enter Try.func69, Try.ntmps69
    go_wp2
    exact bodyPost_ret (v := .agg #[.int .i64 8, .int .i64 0]) (by simp [results, Try.results69, go_sem, *]) rfl ⟨rfl, bwT⟩
  · simp [backSt] at hR
    obtain ⟨rfl, rfl⟩ := hR
    go_enter Try.func69, Try.ntmps69
    go_wp2
    exact bodyPost_ret (v := .agg #[.int .i64 7, .int .i64 0]) (by simp [results, Try.results69, go_sem, *]) rfl ⟨rfl, bwT⟩
set_option maxRecDepth 20000 in
set_option maxHeartbeats 8000000 in
theorem reverseI_any {z : Bool} {lo hi : Nat} (w : World) (a b : Value) (t : Kin) (h : Rd z lo hi w [a, b] t) : Calls Try.prog 32 #[.agg #[a, b]] w (PostKB w (revX t) (revV t)) := by
  obtain ⟨V, hV⟩ : ∃ V, V = revV t := ⟨_, rfl⟩
  obtain ⟨X, hX⟩ : ∃ X, X = revX t := ⟨_, rfl⟩
  rw [← hV, ← hX]
  have HV := Lib.hid hV
  have HX := Lib.hid (show X = if V = true then revK t else (0, []) by rw [hX, hV]; rfl)
  clear hV hX
  have HT := Lib.hid h
  obtain ⟨rfl, hti, hb⟩ := h.kin
  obtain ⟨sao, sn, scap, rfl, hsn, hsc, hsm, -⟩ := hb.shape
  subst hsn
  unfold maxLen at hsm
  have HB := Lib.hid hb
  obtain ⟨r1, hlet_r1⟩ : ∃ r, r = isKin t := ⟨_, rfl⟩
  have H1 := Lib.hid hlet_r1
  clear hlet_r1
  clear h hb
  go_enter Try.func32, Try.ntmps32
  have HE := Lib.hid (show revV t = (isKin t && decide (t.2 = [] ∨ egoOf t ≠ 0)) from rfl)
  go_upto_region 1 with fail
  go_cut [19] (fun s19 wx => s19 = .bool (!V) ∧ wx.cell? ⟨w.heap.size, 0, none⟩ = some (.int .i64 t.1) ∧ wx.cell? ⟨w.heap.size, 1, none⟩ = some (.slice sao t.2.length scap) ∧ wx.cell? ⟨w.heap.size + 1, 0, none⟩ = some (.int .i64 0) ∧ wx.cell? ⟨w.heap.size + 1, 1, none⟩ = some (.slice none 0 0) ∧ (∀ o, wx.frozen? ⟨w.heap.size + 1, o, none⟩ = false) ∧ w.heap.size + 1 < wx.heap.size ∧ Below w.heap.size w wx)
  case first =>
    go_wp2_with fail
    refine (isTypeI_b _ _ _ t (HT.out.below bwT) r1 H1.out).mono ?_
    rintro e5 w5 ⟨rfl, hbw5⟩
    have hpw5 : Below w.heap.size w w5 := Below.after bwT hbw5 szT
    have sw5 := hpw5.size
    have hBw5 : Below w.heap.size w w5 := hpw5
    have l_t : w.heap.size < w5.heap.size := by have := hbw5.size; simp at this; omega
    have q_t0 : w5.cell? ⟨w.heap.size, 0, none⟩ = some (.int .i64 t.1) := oldc hbw5 ltT (by simp [go_sem])
    have q_t1 : w5.cell? ⟨w.heap.size, 1, none⟩ = some (.slice sao t.2.length scap) := oldc hbw5 ltT (by simp [go_sem])
    have l_r : w.heap.size + 1 < w5.heap.size := by have := hbw5.size; simp at this; omega
    have q_r0 : w5.cell? ⟨w.heap.size + 1, 0, none⟩ = some (.int .i64 0) := oldc hbw5 ltT (by simp [go_sem])
    have q_r1 : w5.cell? ⟨w.heap.size + 1, 1, none⟩ = some (.slice none 0 0) := oldc hbw5 ltT (by simp [go_sem])
    have f_r : ∀ o, w5.frozen? ⟨w.heap.size + 1, o, none⟩ = false := fun o => (hbw5.frozen (p := ⟨w.heap.size + 1, o, none⟩) ltT).trans (by simp [go_sem])
    clear hbw5 hpw5
    cases r1
    · obtain rfl : V = false := by rw [HV.out, HE.out, ← H1.out]; rfl
      clear HV HE H1 HX
      go_wp2
      go_meet
      exact ⟨rfl, q_t0, q_t1, q_r0, q_r1, f_r, l_r, hBw5⟩
    by_cases hl : t.2.length = 0
    · have hn : ¬ (0 : Int) < (t.2.length : Int) := by omega
      obtain rfl : V = true := by rw [HV.out, HE.out, ← H1.out, decide_eq_true (.inl (List.eq_nil_of_length_eq_zero hl))]; rfl
      clear HV HE H1 HX hl
      go_wp2
      go_meet
      exact ⟨rfl, q_t0, q_t1, q_r0, q_r1, f_r, l_r, hBw5⟩
    have hn : (0 : Int) < (t.2.length : Int) := by omega
    have HNE := Lib.hid (show ¬ t.2 = [] from fun e => hl (by rw [e]; rfl))
    obtain ⟨e, hlet_e⟩ : ∃ r, r = egoOf t := ⟨_, rfl⟩
    have HEG := Lib.hid hlet_e
    clear hlet_e
    clear hl
    go_wp2_with fail
    refine (egoI_any _ _ _ t (HT.out.below bwT) e HEG.out).mono ?_
    rintro e6 w6 ⟨rfl, hbw6⟩
    have hpw6 : Below w5.heap.size w5 w6 := Below.after bwT hbw6 szT
    have sw6 := hpw6.size
    have hBw6 : Below w.heap.size w w6 := Below.trans hBw5 (Below.mono hpw6 hBw5.size)
    have q_t0 := oldc hpw6 l_t q_t0
    have q_t1 := oldc hpw6 l_t q_t1
    have q_r0 := oldc hpw6 l_r q_r0
    have q_r1 := oldc hpw6 l_r q_r1
    have f_r : ∀ o, w6.frozen? ⟨w.heap.size + 1, o, none⟩ = false := fun o => (hpw6.frozen (p := ⟨w.heap.size + 1, o, none⟩) l_r).trans (f_r o)
    have l_r := Nat.lt_of_lt_of_le l_r sw6
    have l_t := Nat.lt_of_lt_of_le l_t sw6
    clear hbw6 hpw6
    by_cases h0 : e = 0
    · have h0' : (e == 0) = true := by simp [h0]
      obtain rfl : V = false := by rw [HV.out, HE.out, ← H1.out, ← HEG.out, decide_eq_false (by simp [HNE.out, h0])]; rfl
      clear HV HE H1 HX HEG HNE h0
      go_wp2
      go_meet
      exact ⟨rfl, q_t0, q_t1, q_r0, q_r1, f_r, l_r, hBw6⟩
    · have h0' : (e == 0) = false := by simp [h0]
      obtain rfl : V = true := by rw [HV.out, HE.out, ← H1.out, ← HEG.out, decide_eq_true (.inr h0)]; rfl
      clear HV HE H1 HX HEG HNE h0
      go_wp2
      go_meet
      exact ⟨rfl, q_t0, q_t1, q_r0, q_r1, f_r, l_r, hBw6⟩
  case rest =>
    obtain ⟨rfl, q_t0, q_t1, q_r0, q_r1, f_r, l_r, hB1⟩ := hcut
    obtain ⟨W1, hW1⟩ : ∃ W : World, W = wc := ⟨_, rfl⟩
    subst hW1
    have s1 := hB1.size
    cases V
    · obtain rfl : X = (0, []) := HX.out
      clear HV HX HE H1
      go_wp2
      exact bodyPost_ret (v := .tuple #[.agg #[.int .i64 0, .slice none 0 0], .bool false]) (by simp [results, Try.results32, go_sem, *]) rfl ⟨_, rfl, Ow.kin_mk (by unfold I64; omega) (Ow.nil _ _ _), bwT⟩
    have hVf := HE.out
    rw [← HV.out] at hVf
    have HKN := Lib.hid (show isKin t = true by have := hVf.symm; simp only [Bool.and_eq_true] at this; exact this.1)
    have hK := isKin_facts HKN.out
    have hk8 : t.2.length ≤ 8 := hK.2.1
    have HKM := Lib.hid hK.2.2.2
    obtain ⟨sx, hlet_sx⟩ : ∃ r, r = sexOf t := ⟨_, rfl⟩
    have HS := Lib.hid hlet_sx
    clear hlet_sx
    obtain ⟨BL, hlet_BL⟩ : ∃ r, r = backs (egoOf t) t.2 := ⟨_, rfl⟩
    have HBL := Lib.hid hlet_BL
    clear hlet_BL
    have hBLl : BL.length = t.2.length := by rw [HBL.out]; exact backs_len _ _
    have HLN := Lib.hid hBLl
    obtain rfl : X = (sx, BL.reverse) := by rw [HX.out, HS.out, HBL.out]; rfl
    have hsx : sx = 0 ∨ sx = 1 ∨ sx = 2 := by
      rw [HS.out]; unfold sexOf
      have := hK.1
      split
      · rename_i x _; rcases stSex_in x.1 with e | e <;> rw [e] <;> simp
      · omega
    clear hVf HV HE H1 HX hK hBLl
    go_wp2_with fail
    refine (sexOfI_any _ _ _ t (HT.out.below hB1) HKN.out sx HS.out).mono ?_
    rintro e2 w2 ⟨rfl, hb2⟩
    have s2 := hb2.size
    have hB2 : Below w.heap.size w w2 := hB1.trans (hb2.mono s1)
    have l_r2 : w.heap.size + 1 < w2.heap.size := by omega
    have l_t2 : w.heap.size < w2.heap.size := by omega
    have t0 := oldc hb2 (by omega) q_t0
    have t1 := oldc hb2 (by omega) q_t1
    have r0 := oldc hb2 l_r q_r0
    have r1' := oldc hb2 l_r q_r1
    have rf : ∀ o, w2.frozen? ⟨w.heap.size + 1, o, none⟩ = false := fun o => (hb2.frozen (p := ⟨w.heap.size + 1, o, none⟩) l_r).trans (f_r o)
    clear q_t0 q_t1 q_r0 q_r1 f_r l_r hb2 hB1 s1 s2
    obtain ⟨WA, hWA⟩ : ∃ W : World, W = w2.alloc (.cells #[.int .i64 sx, .slice none 0 0] 53) := ⟨_, rfl⟩
    have hbA : Below w2.heap.size w2 WA := by subst hWA; exact bwT
    have szA : WA.heap.size = w2.heap.size + 1 := by subst hWA; simp
    have g0 : WA.cell? ⟨w2.heap.size, 0, none⟩ = some (.int .i64 sx) := by subst hWA; simp [go_sem]
    have g1 : WA.cell? ⟨w2.heap.size, 1, none⟩ = some (.slice none 0 0) := by subst hWA; simp [go_sem]
    have gf : ∀ o, WA.frozen? ⟨w2.heap.size, o, none⟩ = false := by subst hWA; intro o; simp [go_sem]
    have q_t1 := oldc hbA (by omega) t1
    have ltA : w.heap.size < WA.heap.size := by omega
    go_wp2
    rw [← hWA]
    clear hWA
    go_loopw [5] (fun s5 wr => ∃ (i : Nat) (q : Int) (v : Value), i ≤ t.2.length ∧ s5 = .int .i64 q ∧ q = (i : Int) - 1 ∧ wr.cell? ⟨w2.heap.size, 0, none⟩ = some (.int .i64 sx) ∧ wr.cell? ⟨w2.heap.size, 1, none⟩ = some v ∧ (∀ o, wr.frozen? ⟨w2.heap.size, o, none⟩ = false) ∧ w2.heap.size < wr.heap.size ∧ Hid (GL true (w2.heap.size + 1) (w2.heap.size + 1) wr.heap.size wr 83 v (BL.drop i).reverse) ∧ Below w2.heap.size w2 wr) (fun s5 _ => (intOf s5 + 1).toNat)
    case atStart => exact ⟨t.2.length, _, _, Nat.le_refl _, rfl, by first | rfl | go_num | omega, g0, g1, gf, by omega, Lib.hid (by rw [List.drop_eq_nil_of_le (by rw [HLN.out]; exact Nat.le_refl _)]; exact GL.start _ _ _ _ _ _), hbA⟩
    case round =>
      obtain ⟨wb, hwb⟩ : ∃ wm : World, wm = wr := ⟨_, rfl⟩
      subst hwb
      obtain ⟨i, q, v, hi, rfl, hq, g0, g1, gf, lg, hG, hbb⟩ := hrel
      have hBb : Below w.heap.size w wb := hB2.trans (hbb.mono (by omega))
      have x0 := oldc hbb (by omega) t0
      have x1 := oldc hbb (by omega) t1
      have y0 := oldc hbb l_r2 r0
      have y1 := oldc hbb l_r2 r1'
      have yf : ∀ o, wb.frozen? ⟨w.heap.size + 1, o, none⟩ = false := fun o => (hbb.frozen (p := ⟨w.heap.size + 1, o, none⟩) l_r2).trans (rf o)
      have lw : w.heap.size < wb.heap.size := by omega
      have lw1 : w.heap.size + 1 < wb.heap.size := by omega
      obtain ⟨ao, cap, rfl, -, -⟩ := hG.out.len
      by_cases hi0 : 0 < i
      · obtain ⟨m, rfl⟩ : ∃ m, i = m + 1 := ⟨i - 1, by omega⟩
        obtain rfl : q = (m : Int) := by omega
        clear hq
        have hm0 : (0 : Int) ≤ (m : Int) := by omega
        have hml : m < t.2.length := by omega
        have hmi : (m : Int) < (t.2.length : Int) := by omega
        obtain ⟨sb, soff, ki, ag, rfl, hx, c0, c1, -, -, -, -, sbl, -⟩ := HB.out.stp_at (i := m) hml
        have hka := HKM.out _ (List.mem_of_getElem? hx.out)
        dsimp only at hka
        have k0 := oldc hBb sbl c0
        have k1 := oldc hBb sbl c1
        obtain ⟨sb2, hlet_sb2⟩ : ∃ r, r = sexAt t m := ⟨_, rfl⟩
        have HSB := Lib.hid hlet_sb2
        clear hlet_sb2
        obtain ⟨z1, z2, HRS⟩ : ∃ z1 z2 : Int, Hid ((z1, z2) = backSt (ki, ag) sb2) := ⟨_, _, Lib.hid rfl⟩
        have hz : (1 ≤ z1 ∧ z1 ≤ 8) ∧ (0 ≤ z2 ∧ z2 ≤ 2) := by
          have := backSt_in (s := (ki, ag)) (sex := sb2) hka.2
          rw [← HRS.out] at this; exact this
        have HNX := Lib.hid (show (BL.drop (m + 1)).reverse ++ [(z1, z2)] = (BL.drop m).reverse from (drop_rev (by rw [HBL.out, HRS.out, HSB.out]; exact revK_at hx.out)).symm)
        have hln : (BL.drop (m + 1)).reverse.length ≤ 8 := by rw [List.length_reverse, List.length_drop, HLN.out]; omega
        obtain ⟨LB, hLB⟩ : ∃ L, L = (BL.drop (m + 1)).reverse := ⟨_, rfl⟩
        rw [← hLB] at hG HNX hln g1
        clear hx c0 c1 hLB
        go_upto_region 7 with fail
        refine wp_region_held_drew (S := (fun w' => w'.cell? ⟨w.heap.size, 0, none⟩ = some (.int .i64 t.1) ∧ w'.cell? ⟨w.heap.size, 1, none⟩ = some (.slice (some ⟨sb, soff, none⟩) t.2.length scap) ∧ w'.cell? ⟨sb, soff + m * 2, none⟩ = some (.int .i64 ki) ∧ w'.cell? ⟨sb, soff + m * 2 + 1, none⟩ = some (.int .i64 ag))) (by kernel_rfl) ?_ (fun hHeld => ?_)
        · first | exact trivial | ((try dsimp only); go_keep)
        refine tkR 0 (v := ?_) ?_ ?_
        rotate_left
        · intro w hSw; (try dsimp only at hSw); go_simp <;> with_reducible rfl
        try simp only [Act.put, List.setIfInBounds_toArray, List.set_cons_zero, List.set_cons_succ]
        refine tkR 2 (v := ?_) ?_ ?_
        rotate_left
        · intro w hSw; (try dsimp only at hSw); go_simp <;> with_reducible rfl
        try simp only [Act.put, List.setIfInBounds_toArray, List.set_cons_zero, List.set_cons_succ]
        refine tkR 4 (v := ?_) ?_ ?_
        rotate_left
        · intro w hSw; (try dsimp only at hSw); go_simp <;> with_reducible rfl
        try simp only [Act.put, List.setIfInBounds_toArray, List.set_cons_zero, List.set_cons_succ]
        refine tkR 7 (v := ?_) ?_ ?_
        rotate_left
        · intro w hSw; (try dsimp only at hSw); go_simp <;> with_reducible rfl
        try simp only [Act.put, List.setIfInBounds_toArray, List.set_cons_zero, List.set_cons_succ]
        refine tkR 8 (v := ?_) ?_ ?_
        rotate_left
        · intro w hSw; (try dsimp only at hSw); go_simp <;> with_reducible rfl
        try simp only [Act.put, List.setIfInBounds_toArray, List.set_cons_zero, List.set_cons_succ]
        refine tkR 3 (v := ?_) ?_ ?_
        rotate_left
        · intro w hSw; (try dsimp only at hSw); go_simp <;> with_reducible rfl
        try simp only [Act.put, List.setIfInBounds_toArray, List.set_cons_zero, List.set_cons_succ]
        refine tkR 5 (v := ?_) ?_ ?_
        rotate_left
        · intro w hSw; (try dsimp only at hSw); go_simp <;> with_reducible rfl
        try simp only [Act.put, List.setIfInBounds_toArray, List.set_cons_zero, List.set_cons_succ]
        refine tkR 6 (v := ?_) ?_ ?_
        rotate_left
        · intro w hSw; (try dsimp only at hSw); go_simp <;> with_reducible rfl
        try simp only [Act.put, List.setIfInBounds_toArray, List.set_cons_zero, List.set_cons_succ]
        refine wpAnyH_ready (rs := [1, 9]) (by kernel_rfl) (by simp) ?_
        refine rdR (fun K hK => ?_) ?_
        · go_simp
          refine hK.out _ _ ?_ (fun hHeld => ?_)
          · exact kpT
          clear hK K
          try simp only [Act.put, List.setIfInBounds_toArray, List.set_cons_zero, List.set_cons_succ]
          refine wpAnyH_ready (rs := [9]) (by kernel_rfl) (by simp) ?_
          refine rdR (fun K hK => ?_) ?_
          · go_simp
            refine (sexBeforeI_any _ _ _ t (HT.out.below ?b1) HKN.out m hml sb2 HSB.out).mono ?_
            case b1 => exact bwT
            rintro e3 w3 ⟨rfl, hb3⟩
            have hp3 : Below wb.heap.size wb w3 := Below.trans (show Below wb.heap.size wb _ from bwT) (hb3.mono szT)
            have hS3 := And.intro (oldc hp3 lw x0) (And.intro (oldc hp3 lw x1) (And.intro (oldc hp3 (by omega) k0) (oldc hp3 (by omega) k1)))
            have g03 := oldc hp3 lg g0
            have g13 := oldc hp3 lg g1
            have gf3 : ∀ o, w3.frozen? ⟨w2.heap.size, o, none⟩ = false := fun o => (hp3.frozen (p := ⟨w2.heap.size, o, none⟩) lg).trans (gf o)
            have sz3 := hp3.size
            clear hb3
            refine hK.out _ _ ?_ (fun hHeld => ?_)
            · exact kpT
            clear hK K
            try simp only [Act.put, List.setIfInBounds_toArray, List.set_cons_zero, List.set_cons_succ]
            refine wpAnyH_ready (rs := [10]) (by kernel_rfl) (by simp) ?_
            refine rdR (fun K hK => ?_) ?_
            · go_simp
              refine (backStepI_any _ ki ag sb2 hka.1 hka.2 (z1, z2) HRS.out).mono ?_
              rintro e4 w4 ⟨rfl, hb4⟩
              have hp4 : Below wb.heap.size wb w4 := Below.trans (show Below wb.heap.size wb _ from (by first | exact hp3 | exact Below.drew hp3)) (hb4.mono szT)
              have hS4 := And.intro (oldc hp4 lw x0) (And.intro (oldc hp4 lw x1) (And.intro (oldc hp4 (by omega) k0) (oldc hp4 (by omega) k1)))
              have g04 := oldc hp4 lg g0
              have g14 := oldc hp4 lg g1
              have gf4 : ∀ o, w4.frozen? ⟨w2.heap.size, o, none⟩ = false := fun o => (hp4.frozen (p := ⟨w2.heap.size, o, none⟩) lg).trans (gf o)
              have sz4 := hp4.size
              have l4a : w.heap.size < w4.heap.size := by omega
              have l4b : w2.heap.size < w4.heap.size := by omega
              have l4c : sb < w4.heap.size := by omega
              have n4a : ¬ w2.heap.size = w4.heap.size := by omega
              have n4b : ¬ w4.heap.size = w2.heap.size := by omega
              have hG4 := Lib.hid (hG.out.below hp4)
              clear hb4
              refine hK.out _ _ ?_ (fun hHeld => ?_)
              · exact kpT
              clear hK K
              try simp only [Act.put, List.setIfInBounds_toArray, List.set_cons_zero, List.set_cons_succ]
              refine wpAnyH_ready (rs := [11]) (by kernel_rfl) (by simp) ?_
              refine rdR (fun K hK => ?_) ?_
              · go_simp
                refine hK.out _ _ ?_ (fun hHeld => ?_)
                · exact kpT
                clear hK K
                try simp only [Act.put, List.setIfInBounds_toArray, List.set_cons_zero, List.set_cons_succ]
                refine wpAnyH_ready (rs := [12]) (by kernel_rfl) (by simp) ?_
                refine rdR (fun K hK => ?_) ?_
                · refine step_push rfl rfl slStep (by show (0 : Nat) < 2; omega) (hG4.out.below bwT) (by simp [Act.eval, Act.put]) (ad := ⟨w4.heap.size, 0, none⟩) (c := 1) (by simp [Act.eval, Act.put]) (cs := [.int .i64 z1, .int .i64 z2]) (y := (z1, z2)) (lx := w4.heap.size) (hx' := w4.heap.size) ?c1 (It.flat (z := true) (w0 := w4) (fp := []) ⟨[_], [_], [], [], rfl, rfl, ⟨rfl, ⟨by omega, by omega⟩, rfl⟩, ⟨rfl, ⟨by omega, by omega⟩, rfl⟩⟩) (by omega) (.inl (by omega)) (by unfold maxLen; omega) (by omega) (by simp; omega) rfl rfl ?_
                  case c1 => intro j c hj; match j, hj with | 0, hj => simp at hj; subst hj; simp [Addr.add, go_sem] | 1, hj => simp at hj; subst hj; simp [Addr.add, go_sem]
                  rintro g5 cap5 w5 hG5 hg5 hat5 hl5 hlt5 hb5
                  have hp5 : Below (w2.heap.size + 1) wb w5 := Below.trans (Below.trans (hp4.mono (by omega)) (show Below (w2.heap.size + 1) w4 _ from bwT)) hb5
                  have hS5 := And.intro (oldc hp5 (by omega) x0) (And.intro (oldc hp5 (by omega) x1) (And.intro (oldc hp5 (by omega) k0) (oldc hp5 (by omega) k1)))
                  have g05 := oldc hp5 (Nat.lt_succ_self _) g0
                  have g15 := oldc hp5 (Nat.lt_succ_self _) g1
                  have gf5 : ∀ o, w5.frozen? ⟨w2.heap.size, o, none⟩ = false := fun o => (hp5.frozen (p := ⟨w2.heap.size, o, none⟩) (Nat.lt_succ_self _)).trans (gf o)
                  have sz5 := hp5.size
                  have HG5 := Lib.hid hG5
                  clear hb5 hg5 hat5 hG5
                  refine hK.out _ _ ?_ (fun hHeld => ?_)
                  · exact kpT
                  clear hK K
                  try simp only [Act.put, List.setIfInBounds_toArray, List.set_cons_zero, List.set_cons_succ]
                  refine tkR 13 (v := ?_) ?_ ?_
                  rotate_left
                  · intro w hSw; (try dsimp only at hSw); go_simp <;> with_reducible rfl
                  try simp only [Act.put, List.setIfInBounds_toArray, List.set_cons_zero, List.set_cons_succ]
                  refine wpAnyH_ready (rs := [14]) (by kernel_rfl) (by simp) ?_
                  refine rdR (fun K hK => ?_) ?_
                  · go_simp
                    refine hK.out _ _ ?_ (fun hHeld => ?_)
                    · exact kpT
                    clear hK K
                    try simp only [Act.put, List.setIfInBounds_toArray, List.set_cons_zero, List.set_cons_succ]
                    refine wpAnyH_done (by kernel_rfl) ?_ _
                    have hN1 := HG5.out
                    rw [HNX.out] at hN1
                    obtain ⟨W6, hW6⟩ : ∃ W : World, W = w5.setCell ⟨w2.heap.size, 1, none⟩ (.slice (some ⟨g5, 0, none⟩) (LB.length + 1) cap5) := ⟨_, rfl⟩
                    have m0 : W6.cell? ⟨w2.heap.size, 0, none⟩ = some (.int .i64 sx) := by subst hW6; simp [go_sem, *]
                    have m1 : W6.cell? ⟨w2.heap.size, 1, none⟩ = some (.slice (some ⟨g5, 0, none⟩) (LB.length + 1) cap5) := by subst hW6; simp [go_sem, *]
                    have mf : ∀ o, W6.frozen? ⟨w2.heap.size, o, none⟩ = false := by subst hW6; intro o; simp [go_sem, *]
                    have ml : w2.heap.size < W6.heap.size := by subst hW6; simp <;> omega
                    have hN6 := Lib.hid (show GL true (w2.heap.size + 1) (w2.heap.size + 1) W6.heap.size W6 83 _ (BL.drop m).reverse by subst hW6; exact (hN1.keep znT znT).top)
                    have hb6 : Below w2.heap.size w2 W6 := by subst hW6; exact ((hbb.mono (Nat.le_refl _)).trans (hp5.mono (Nat.le_succ _))).setCell (Nat.le_refl _) _
                    rw [← hW6]
                    clear hW6 hN1 HG5 HNX hHeld hS5 g05 g15 gf5
                    go_wp2
                    go_roundw
                    case rel => exact ⟨m, _, _, by omega, rfl, by first | rfl | go_num | omega, m0, m1, mf, ml, hN6, hb6⟩
                    case measure => simp [intOf] <;> omega
                  exact AllReadyH.nil
                exact AllReadyH.nil
              exact AllReadyH.nil
            exact AllReadyH.nil
          exact AllReadyH.nil
        refine rdR (fun K hK => ?_) ?_
        · go_simp
          refine (sexBeforeI_any _ _ _ t (HT.out.below ?b1) HKN.out m hml sb2 HSB.out).mono ?_
          case b1 => exact bwT
          rintro e3 w3 ⟨rfl, hb3⟩
          have hp3 : Below wb.heap.size wb w3 := Below.trans (show Below wb.heap.size wb _ from bwT) (hb3.mono szT)
          have hS3 := And.intro (oldc hp3 lw x0) (And.intro (oldc hp3 lw x1) (And.intro (oldc hp3 (by omega) k0) (oldc hp3 (by omega) k1)))
          have g03 := oldc hp3 lg g0
          have g13 := oldc hp3 lg g1
          have gf3 : ∀ o, w3.frozen? ⟨w2.heap.size, o, none⟩ = false := fun o => (hp3.frozen (p := ⟨w2.heap.size, o, none⟩) lg).trans (gf o)
          have sz3 := hp3.size
          clear hb3
          refine hK.out _ _ ?_ (fun hHeld => ?_)
          · exact kpT
          clear hK K
          try simp only [Act.put, List.setIfInBounds_toArray, List.set_cons_zero, List.set_cons_succ]
          refine wpAnyH_ready (rs := [1, 10]) (by kernel_rfl) (by simp) ?_
          refine rdR (fun K hK => ?_) ?_
          · go_simp
            refine hK.out _ _ ?_ (fun hHeld => ?_)
            · exact kpT
            clear hK K
            try simp only [Act.put, List.setIfInBounds_toArray, List.set_cons_zero, List.set_cons_succ]
            refine wpAnyH_ready (rs := [10]) (by kernel_rfl) (by simp) ?_
            refine rdR (fun K hK => ?_) ?_
            · go_simp
              refine (backStepI_any _ ki ag sb2 hka.1 hka.2 (z1, z2) HRS.out).mono ?_
              rintro e4 w4 ⟨rfl, hb4⟩
              have hp4 : Below wb.heap.size wb w4 := Below.trans (show Below wb.heap.size wb _ from (by first | exact hp3 | exact Below.drew hp3)) (hb4.mono szT)
              have hS4 := And.intro (oldc hp4 lw x0) (And.intro (oldc hp4 lw x1) (And.intro (oldc hp4 (by omega) k0) (oldc hp4 (by omega) k1)))
              have g04 := oldc hp4 lg g0
              have g14 := oldc hp4 lg g1
              have gf4 : ∀ o, w4.frozen? ⟨w2.heap.size, o, none⟩ = false := fun o => (hp4.frozen (p := ⟨w2.heap.size, o, none⟩) lg).trans (gf o)
              have sz4 := hp4.size
              have l4a : w.heap.size < w4.heap.size := by omega
              have l4b : w2.heap.size < w4.heap.size := by omega
              have l4c : sb < w4.heap.size := by omega
              have n4a : ¬ w2.heap.size = w4.heap.size := by omega
              have n4b : ¬ w4.heap.size = w2.heap.size := by omega
              have hG4 := Lib.hid (hG.out.below hp4)
              clear hb4
              refine hK.out _ _ ?_ (fun hHeld => ?_)
              · exact kpT
              clear hK K
              try simp only [Act.put, List.setIfInBounds_toArray, List.set_cons_zero, List.set_cons_succ]
              refine wpAnyH_ready (rs := [11]) (by kernel_rfl) (by simp) ?_
              refine rdR (fun K hK => ?_) ?_
              · go_simp
                refine hK.out _ _ ?_ (fun hHeld => ?_)
                · exact kpT
                clear hK K
                try simp only [Act.put, List.setIfInBounds_toArray, List.set_cons_zero, List.set_cons_succ]
                refine wpAnyH_ready (rs := [12]) (by kernel_rfl) (by simp) ?_
                refine rdR (fun K hK => ?_) ?_
                · refine step_push rfl rfl slStep (by show (0 : Nat) < 2; omega) (hG4.out.below bwT) (by simp [Act.eval, Act.put]) (ad := ⟨w4.heap.size, 0, none⟩) (c := 1) (by simp [Act.eval, Act.put]) (cs := [.int .i64 z1, .int .i64 z2]) (y := (z1, z2)) (lx := w4.heap.size) (hx' := w4.heap.size) ?c1 (It.flat (z := true) (w0 := w4) (fp := []) ⟨[_], [_], [], [], rfl, rfl, ⟨rfl, ⟨by omega, by omega⟩, rfl⟩, ⟨rfl, ⟨by omega, by omega⟩, rfl⟩⟩) (by omega) (.inl (by omega)) (by unfold maxLen; omega) (by omega) (by simp; omega) rfl rfl ?_
                  case c1 => intro j c hj; match j, hj with | 0, hj => simp at hj; subst hj; simp [Addr.add, go_sem] | 1, hj => simp at hj; subst hj; simp [Addr.add, go_sem]
                  rintro g5 cap5 w5 hG5 hg5 hat5 hl5 hlt5 hb5
                  have hp5 : Below (w2.heap.size + 1) wb w5 := Below.trans (Below.trans (hp4.mono (by omega)) (show Below (w2.heap.size + 1) w4 _ from bwT)) hb5
                  have hS5 := And.intro (oldc hp5 (by omega) x0) (And.intro (oldc hp5 (by omega) x1) (And.intro (oldc hp5 (by omega) k0) (oldc hp5 (by omega) k1)))
                  have g05 := oldc hp5 (Nat.lt_succ_self _) g0
                  have g15 := oldc hp5 (Nat.lt_succ_self _) g1
                  have gf5 : ∀ o, w5.frozen? ⟨w2.heap.size, o, none⟩ = false := fun o => (hp5.frozen (p := ⟨w2.heap.size, o, none⟩) (Nat.lt_succ_self _)).trans (gf o)
                  have sz5 := hp5.size
                  have HG5 := Lib.hid hG5
                  clear hb5 hg5 hat5 hG5
                  refine hK.out _ _ ?_ (fun hHeld => ?_)
                  · exact kpT
                  clear hK K
                  try simp only [Act.put, List.setIfInBounds_toArray, List.set_cons_zero, List.set_cons_succ]
                  refine tkR 13 (v := ?_) ?_ ?_
                  rotate_left
                  · intro w hSw; (try dsimp only at hSw); go_simp <;> with_reducible rfl
                  try simp only [Act.put, List.setIfInBounds_toArray, List.set_cons_zero, List.set_cons_succ]
                  refine wpAnyH_ready (rs := [14]) (by kernel_rfl) (by simp) ?_
                  refine rdR (fun K hK => ?_) ?_
                  · go_simp
                    refine hK.out _ _ ?_ (fun hHeld => ?_)
                    · exact kpT
                    clear hK K
                    try simp only [Act.put, List.setIfInBounds_toArray, List.set_cons_zero, List.set_cons_succ]
                    refine wpAnyH_done (by kernel_rfl) ?_ _
                    have hN1 := HG5.out
                    rw [HNX.out] at hN1
                    obtain ⟨W6, hW6⟩ : ∃ W : World, W = w5.setCell ⟨w2.heap.size, 1, none⟩ (.slice (some ⟨g5, 0, none⟩) (LB.length + 1) cap5) := ⟨_, rfl⟩
                    have m0 : W6.cell? ⟨w2.heap.size, 0, none⟩ = some (.int .i64 sx) := by subst hW6; simp [go_sem, *]
                    have m1 : W6.cell? ⟨w2.heap.size, 1, none⟩ = some (.slice (some ⟨g5, 0, none⟩) (LB.length + 1) cap5) := by subst hW6; simp [go_sem, *]
                    have mf : ∀ o, W6.frozen? ⟨w2.heap.size, o, none⟩ = false := by subst hW6; intro o; simp [go_sem, *]
                    have ml : w2.heap.size < W6.heap.size := by subst hW6; simp <;> omega
                    have hN6 := Lib.hid (show GL true (w2.heap.size + 1) (w2.heap.size + 1) W6.heap.size W6 83 _ (BL.drop m).reverse by subst hW6; exact (hN1.keep znT znT).top)
                    have hb6 : Below w2.heap.size w2 W6 := by subst hW6; exact ((hbb.mono (Nat.le_refl _)).trans (hp5.mono (Nat.le_succ _))).setCell (Nat.le_refl _) _
                    rw [← hW6]
                    clear hW6 hN1 HG5 HNX hHeld hS5 g05 g15 gf5
                    go_wp2
                    go_roundw
                    case rel => exact ⟨m, _, _, by omega, rfl, by first | rfl | go_num | omega, m0, m1, mf, ml, hN6, hb6⟩
                    case measure => simp [intOf] <;> omega
                  exact AllReadyH.nil
                exact AllReadyH.nil
              exact AllReadyH.nil
            exact AllReadyH.nil
          refine rdR (fun K hK => ?_) ?_
          · go_simp
            refine (backStepI_any _ ki ag sb2 hka.1 hka.2 (z1, z2) HRS.out).mono ?_
            rintro e4 w4 ⟨rfl, hb4⟩
            have hp4 : Below wb.heap.size wb w4 := Below.trans (show Below wb.heap.size wb _ from (by first | exact hp3 | exact Below.drew hp3)) (hb4.mono szT)
            have hS4 := And.intro (oldc hp4 lw x0) (And.intro (oldc hp4 lw x1) (And.intro (oldc hp4 (by omega) k0) (oldc hp4 (by omega) k1)))
            have g04 := oldc hp4 lg g0
            have g14 := oldc hp4 lg g1
            have gf4 : ∀ o, w4.frozen? ⟨w2.heap.size, o, none⟩ = false := fun o => (hp4.frozen (p := ⟨w2.heap.size, o, none⟩) lg).trans (gf o)
            have sz4 := hp4.size
            have l4a : w.heap.size < w4.heap.size := by omega
            have l4b : w2.heap.size < w4.heap.size := by omega
            have l4c : sb < w4.heap.size := by omega
            have n4a : ¬ w2.heap.size = w4.heap.size := by omega
            have n4b : ¬ w4.heap.size = w2.heap.size := by omega
            have hG4 := Lib.hid (hG.out.below hp4)
            clear hb4
            refine hK.out _ _ ?_ (fun hHeld => ?_)
            · exact kpT
            clear hK K
            try simp only [Act.put, List.setIfInBounds_toArray, List.set_cons_zero, List.set_cons_succ]
            refine wpAnyH_ready (rs := [1, 11]) (by kernel_rfl) (by simp) ?_
            refine rdR (fun K hK => ?_) ?_
            · go_simp
              refine hK.out _ _ ?_ (fun hHeld => ?_)
              · exact kpT
              clear hK K
              try simp only [Act.put, List.setIfInBounds_toArray, List.set_cons_zero, List.set_cons_succ]
              refine wpAnyH_ready (rs := [11]) (by kernel_rfl) (by simp) ?_
              refine rdR (fun K hK => ?_) ?_
              · go_simp
                refine hK.out _ _ ?_ (fun hHeld => ?_)
                · exact kpT
                clear hK K
                try simp only [Act.put, List.setIfInBounds_toArray, List.set_cons_zero, List.set_cons_succ]
                refine wpAnyH_ready (rs := [12]) (by kernel_rfl) (by simp) ?_
                refine rdR (fun K hK => ?_) ?_
                · refine step_push rfl rfl slStep (by show (0 : Nat) < 2; omega) (hG4.out.below bwT) (by simp [Act.eval, Act.put]) (ad := ⟨w4.heap.size, 0, none⟩) (c := 1) (by simp [Act.eval, Act.put]) (cs := [.int .i64 z1, .int .i64 z2]) (y := (z1, z2)) (lx := w4.heap.size) (hx' := w4.heap.size) ?c1 (It.flat (z := true) (w0 := w4) (fp := []) ⟨[_], [_], [], [], rfl, rfl, ⟨rfl, ⟨by omega, by omega⟩, rfl⟩, ⟨rfl, ⟨by omega, by omega⟩, rfl⟩⟩) (by omega) (.inl (by omega)) (by unfold maxLen; omega) (by omega) (by simp; omega) rfl rfl ?_
                  case c1 => intro j c hj; match j, hj with | 0, hj => simp at hj; subst hj; simp [Addr.add, go_sem] | 1, hj => simp at hj; subst hj; simp [Addr.add, go_sem]
                  rintro g5 cap5 w5 hG5 hg5 hat5 hl5 hlt5 hb5
                  have hp5 : Below (w2.heap.size + 1) wb w5 := Below.trans (Below.trans (hp4.mono (by omega)) (show Below (w2.heap.size + 1) w4 _ from bwT)) hb5
                  have hS5 := And.intro (oldc hp5 (by omega) x0) (And.intro (oldc hp5 (by omega) x1) (And.intro (oldc hp5 (by omega) k0) (oldc hp5 (by omega) k1)))
                  have g05 := oldc hp5 (Nat.lt_succ_self _) g0
                  have g15 := oldc hp5 (Nat.lt_succ_self _) g1
                  have gf5 : ∀ o, w5.frozen? ⟨w2.heap.size, o, none⟩ = false := fun o => (hp5.frozen (p := ⟨w2.heap.size, o, none⟩) (Nat.lt_succ_self _)).trans (gf o)
                  have sz5 := hp5.size
                  have HG5 := Lib.hid hG5
                  clear hb5 hg5 hat5 hG5
                  refine hK.out _ _ ?_ (fun hHeld => ?_)
                  · exact kpT
                  clear hK K
                  try simp only [Act.put, List.setIfInBounds_toArray, List.set_cons_zero, List.set_cons_succ]
                  refine tkR 13 (v := ?_) ?_ ?_
                  rotate_left
                  · intro w hSw; (try dsimp only at hSw); go_simp <;> with_reducible rfl
                  try simp only [Act.put, List.setIfInBounds_toArray, List.set_cons_zero, List.set_cons_succ]
                  refine wpAnyH_ready (rs := [14]) (by kernel_rfl) (by simp) ?_
                  refine rdR (fun K hK => ?_) ?_
                  · go_simp
                    refine hK.out _ _ ?_ (fun hHeld => ?_)
                    · exact kpT
                    clear hK K
                    try simp only [Act.put, List.setIfInBounds_toArray, List.set_cons_zero, List.set_cons_succ]
                    refine wpAnyH_done (by kernel_rfl) ?_ _
                    have hN1 := HG5.out
                    rw [HNX.out] at hN1
                    obtain ⟨W6, hW6⟩ : ∃ W : World, W = w5.setCell ⟨w2.heap.size, 1, none⟩ (.slice (some ⟨g5, 0, none⟩) (LB.length + 1) cap5) := ⟨_, rfl⟩
                    have m0 : W6.cell? ⟨w2.heap.size, 0, none⟩ = some (.int .i64 sx) := by subst hW6; simp [go_sem, *]
                    have m1 : W6.cell? ⟨w2.heap.size, 1, none⟩ = some (.slice (some ⟨g5, 0, none⟩) (LB.length + 1) cap5) := by subst hW6; simp [go_sem, *]
                    have mf : ∀ o, W6.frozen? ⟨w2.heap.size, o, none⟩ = false := by subst hW6; intro o; simp [go_sem, *]
                    have ml : w2.heap.size < W6.heap.size := by subst hW6; simp <;> omega
                    have hN6 := Lib.hid (show GL true (w2.heap.size + 1) (w2.heap.size + 1) W6.heap.size W6 83 _ (BL.drop m).reverse by subst hW6; exact (hN1.keep znT znT).top)
                    have hb6 : Below w2.heap.size w2 W6 := by subst hW6; exact ((hbb.mono (Nat.le_refl _)).trans (hp5.mono (Nat.le_succ _))).setCell (Nat.le_refl _) _
                    rw [← hW6]
                    clear hW6 hN1 HG5 HNX hHeld hS5 g05 g15 gf5
                    go_wp2
                    go_roundw
                    case rel => exact ⟨m, _, _, by omega, rfl, by first | rfl | go_num | omega, m0, m1, mf, ml, hN6, hb6⟩
                    case measure => simp [intOf] <;> omega
                  exact AllReadyH.nil
                exact AllReadyH.nil
              exact AllReadyH.nil
            refine rdR (fun K hK => ?_) ?_
            · go_simp
              refine hK.out _ _ ?_ (fun hHeld => ?_)
              · exact kpT
              clear hK K
              try simp only [Act.put, List.setIfInBounds_toArray, List.set_cons_zero, List.set_cons_succ]
              refine wpAnyH_ready (rs := [1]) (by kernel_rfl) (by simp) ?_
              refine rdR (fun K hK => ?_) ?_
              · go_simp
                refine hK.out _ _ ?_ (fun hHeld => ?_)
                · exact kpT
                clear hK K
                try simp only [Act.put, List.setIfInBounds_toArray, List.set_cons_zero, List.set_cons_succ]
                refine wpAnyH_ready (rs := [12]) (by kernel_rfl) (by simp) ?_
                refine rdR (fun K hK => ?_) ?_
                · refine step_push rfl rfl slStep (by show (0 : Nat) < 2; omega) (hG4.out.below bwT) (by simp [Act.eval, Act.put]) (ad := ⟨w4.heap.size, 0, none⟩) (c := 1) (by simp [Act.eval, Act.put]) (cs := [.int .i64 z1, .int .i64 z2]) (y := (z1, z2)) (lx := w4.heap.size) (hx' := w4.heap.size) ?c1 (It.flat (z := true) (w0 := w4) (fp := []) ⟨[_], [_], [], [], rfl, rfl, ⟨rfl, ⟨by omega, by omega⟩, rfl⟩, ⟨rfl, ⟨by omega, by omega⟩, rfl⟩⟩) (by omega) (.inl (by omega)) (by unfold maxLen; omega) (by omega) (by simp; omega) rfl rfl ?_
                  case c1 => intro j c hj; match j, hj with | 0, hj => simp at hj; subst hj; simp [Addr.add, go_sem] | 1, hj => simp at hj; subst hj; simp [Addr.add, go_sem]
                  rintro g5 cap5 w5 hG5 hg5 hat5 hl5 hlt5 hb5
                  have hp5 : Below (w2.heap.size + 1) wb w5 := Below.trans (Below.trans (hp4.mono (by omega)) (show Below (w2.heap.size + 1) w4 _ from bwT)) hb5
                  have hS5 := And.intro (oldc hp5 (by omega) x0) (And.intro (oldc hp5 (by omega) x1) (And.intro (oldc hp5 (by omega) k0) (oldc hp5 (by omega) k1)))
                  have g05 := oldc hp5 (Nat.lt_succ_self _) g0
                  have g15 := oldc hp5 (Nat.lt_succ_self _) g1
                  have gf5 : ∀ o, w5.frozen? ⟨w2.heap.size, o, none⟩ = false := fun o => (hp5.frozen (p := ⟨w2.heap.size, o, none⟩) (Nat.lt_succ_self _)).trans (gf o)
                  have sz5 := hp5.size
                  have HG5 := Lib.hid hG5
                  clear hb5 hg5 hat5 hG5
                  refine hK.out _ _ ?_ (fun hHeld => ?_)
                  · exact kpT
                  clear hK K
                  try simp only [Act.put, List.setIfInBounds_toArray, List.set_cons_zero, List.set_cons_succ]
                  refine tkR 13 (v := ?_) ?_ ?_
                  rotate_left
                  · intro w hSw; (try dsimp only at hSw); go_simp <;> with_reducible rfl
                  try simp only [Act.put, List.setIfInBounds_toArray, List.set_cons_zero, List.set_cons_succ]
                  refine wpAnyH_ready (rs := [14]) (by kernel_rfl) (by simp) ?_
                  refine rdR (fun K hK => ?_) ?_
                  · go_simp
                    refine hK.out _ _ ?_ (fun hHeld => ?_)
                    · exact kpT
                    clear hK K
                    try simp only [Act.put, List.setIfInBounds_toArray, List.set_cons_zero, List.set_cons_succ]
                    refine wpAnyH_done (by kernel_rfl) ?_ _
                    have hN1 := HG5.out
                    rw [HNX.out] at hN1
                    obtain ⟨W6, hW6⟩ : ∃ W : World, W = w5.setCell ⟨w2.heap.size, 1, none⟩ (.slice (some ⟨g5, 0, none⟩) (LB.length + 1) cap5) := ⟨_, rfl⟩
                    have m0 : W6.cell? ⟨w2.heap.size, 0, none⟩ = some (.int .i64 sx) := by subst hW6; simp [go_sem, *]
                    have m1 : W6.cell? ⟨w2.heap.size, 1, none⟩ = some (.slice (some ⟨g5, 0, none⟩) (LB.length + 1) cap5) := by subst hW6; simp [go_sem, *]
                    have mf : ∀ o, W6.frozen? ⟨w2.heap.size, o, none⟩ = false := by subst hW6; intro o; simp [go_sem, *]
                    have ml : w2.heap.size < W6.heap.size := by subst hW6; simp <;> omega
                    have hN6 := Lib.hid (show GL true (w2.heap.size + 1) (w2.heap.size + 1) W6.heap.size W6 83 _ (BL.drop m).reverse by subst hW6; exact (hN1.keep znT znT).top)
                    have hb6 : Below w2.heap.size w2 W6 := by subst hW6; exact ((hbb.mono (Nat.le_refl _)).trans (hp5.mono (Nat.le_succ _))).setCell (Nat.le_refl _) _
                    rw [← hW6]
                    clear hW6 hN1 HG5 HNX hHeld hS5 g05 g15 gf5
                    go_wp2
                    go_roundw
                    case rel => exact ⟨m, _, _, by omega, rfl, by first | rfl | go_num | omega, m0, m1, mf, ml, hN6, hb6⟩
                    case measure => simp [intOf] <;> omega
                  exact AllReadyH.nil
                exact AllReadyH.nil
              exact AllReadyH.nil
            exact AllReadyH.nil
          exact AllReadyH.nil
        exact AllReadyH.nil
      · obtain rfl : i = 0 := by omega
        obtain rfl : q = -1 := by omega
        clear hq
        rw [List.drop_zero] at hG
        have HW := Lib.hid (hG.out.ow (l0 := w2.heap.size + 1) (by omega) (by omega))
        have hne1 : ¬ w2.heap.size = w.heap.size + 1 := by omega
        have hne2 : ¬ w.heap.size + 1 = w2.heap.size := by omega
        have HI := Lib.hid (show I64 sx by unfold I64; omega)
        clear hG hi hi0
        go_wp2
        exact bodyPost_ret (v := .tuple #[.agg #[.int .i64 sx, .slice ao (BL.drop 0).reverse.length cap], .bool true]) (by simp [results, Try.results32, go_sem, *]) rfl ⟨_, rfl, (Ow.kin_mk HI.out (HW.out.keep zmT)).top.mono (by omega) (Nat.le_refl _), bwT⟩
end Go.Proofs.Ytlnhhfebmeekhaa
