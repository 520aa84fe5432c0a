/- Contracts of RelationFor and RelativesOf (impl), of valid families and types. -/
import Derived.Test.YtefbbbhidnnchaaCmr
import Derived.Test.YtefbbbhidnnchaaZ14K
import Derived.Test.YtefbbbhidnnchaaZ14V
import Derived.Test.YtefbbbhidnnchaaZ14I
namespace Go.Proofs.Ytefbbbhidnnchaa
set_option linter.unusedVariables false
set_option linter.unusedSimpArgs false
open Go.RowKit

set_option maxHeartbeats 8000000 in
theorem egoCl_b {z : Bool} {lo hi : Nat} (W : World) (BT BF : Nat) (e : Int) (ao : Option Addr) (cap : Nat) (ps : List Per) (us : List Uni) (h : Rd z lo hi W [.slice ao ps.length cap] ps)
    (t0 : W.cell? ⟨BT, 0, none⟩ = some (.int .i64 e)) (q0 : W.cell? ⟨BF, 0, none⟩ = some (.slice ao ps.length cap)) (a b : Nat) (ha : a < ps.length) :
    Calls Try.prog 89 #[.int .i64 a, .int .i64 b, .pointer (some ⟨BT, 0, none⟩), .pointer (some ⟨BF, 0, none⟩)] W (PostB W (egoR (ps, us) e a b)) := by
  obtain ⟨B, O, nm, sx, fa, mo, bo, di, rfl, hX, x0, x1, x2, x3, x4, x5, -, -, -, -, -, -, -, -, hbl, -⟩ := h.per_at ha
  have haI : (a : Int) < (ps.length : Int) := by omega
  have HQ := Lib.hid (show egoR (ps, us) e a b = (decide (a = b) && (decide (e = 0) || decide (sx = e))) by unfold egoR; rw [show (ps, us).1[a]? = some (nm, sx, fa, mo, bo, di) from hX.out])
  obtain ⟨q, hq⟩ : ∃ q, q = egoR (ps, us) e a b := ⟨_, rfl⟩
  rw [← hq] at HQ ⊢
  clear h hX hq x0 x2 x3 x4 x5
  by_cases hab : a = b
  · have e0 : ((a : Int) == (b : Int)) = true := by rw [hab]; simp
    by_cases he : e = 0
    · have e1 : (e == 0) = true := by simpa using he
      have HT := Lib.hid (show q = true by rw [HQ.out, decide_eq_true hab, decide_eq_true he]; rfl)
      clear hab he HQ
      go_enter Try.func89, Try.ntmps89
      go_upto_region 1 with fail
      refine wp_region_held_drew (S := (fun w' => w'.cell? ⟨BT, 0, none⟩ = some (.int .i64 e))) (by kernel_rfl) ?_ (fun hHeld => ?_)
      · first | exact trivial | ((try dsimp only); go_keep)
      refine tkR 0 (v := ?_) ?_ ?_
      rotate_left
      · intro w hSw; (try dsimp only at hSw); go_simp <;> with_reducible rfl
      try simp only [Act.put, List.setIfInBounds_toArray, List.set_cons_zero, List.set_cons_succ]
      refine tkR 1 (v := ?_) ?_ ?_
      rotate_left
      · intro w hSw; (try dsimp only at hSw); go_simp <;> with_reducible rfl
      try simp only [Act.put, List.setIfInBounds_toArray, List.set_cons_zero, List.set_cons_succ]
      refine tkR 2 (v := ?_) ?_ ?_
      rotate_left
      · intro w hSw; (try dsimp only at hSw); go_simp <;> with_reducible rfl
      try simp only [Act.put, List.setIfInBounds_toArray, List.set_cons_zero, List.set_cons_succ]
      refine tkR 3 (v := ?_) ?_ ?_
      rotate_left
      · intro w hSw; (try dsimp only at hSw); go_simp <;> with_reducible rfl
      try simp only [Act.put, List.setIfInBounds_toArray, List.set_cons_zero, List.set_cons_succ]
      refine tkR 4 (v := ?_) ?_ ?_
      rotate_left
      · intro w hSw; (try dsimp only at hSw); go_simp <;> with_reducible rfl
      try simp only [Act.put, List.setIfInBounds_toArray, List.set_cons_zero, List.set_cons_succ]
      refine tkR 5 (v := ?_) ?_ ?_
      rotate_left
      · intro w hSw; (try dsimp only at hSw); go_simp <;> with_reducible rfl
      try simp only [Act.put, List.setIfInBounds_toArray, List.set_cons_zero, List.set_cons_succ]
      refine tkR 6 (v := ?_) ?_ ?_
      rotate_left
      · intro w hSw; (try dsimp only at hSw); go_simp <;> with_reducible rfl
      try simp only [Act.put, List.setIfInBounds_toArray, List.set_cons_zero, List.set_cons_succ]
      refine tkR 7 (v := ?_) ?_ ?_
      rotate_left
      · intro w hSw; (try dsimp only at hSw); go_simp <;> with_reducible rfl
      try simp only [Act.put, List.setIfInBounds_toArray, List.set_cons_zero, List.set_cons_succ]
      refine skR 8 ?_
      try simp only [Act.put, List.setIfInBounds_toArray, List.set_cons_zero, List.set_cons_succ]
      refine skR 10 ?_
      try simp only [Act.put, List.setIfInBounds_toArray, List.set_cons_zero, List.set_cons_succ]
      refine skR 14 ?_
      try simp only [Act.put, List.setIfInBounds_toArray, List.set_cons_zero, List.set_cons_succ]
      refine skR 9 ?_
      try simp only [Act.put, List.setIfInBounds_toArray, List.set_cons_zero, List.set_cons_succ]
      refine skR 15 ?_
      try simp only [Act.put, List.setIfInBounds_toArray, List.set_cons_zero, List.set_cons_succ]
      refine skR 11 ?_
      try simp only [Act.put, List.setIfInBounds_toArray, List.set_cons_zero, List.set_cons_succ]
      refine skR 12 ?_
      try simp only [Act.put, List.setIfInBounds_toArray, List.set_cons_zero, List.set_cons_succ]
      refine skR 13 ?_
      try simp only [Act.put, List.setIfInBounds_toArray, List.set_cons_zero, List.set_cons_succ]
      refine skR 16 ?_
      try simp only [Act.put, List.setIfInBounds_toArray, List.set_cons_zero, List.set_cons_succ]
      refine tkR 17 (v := ?_) ?_ ?_
      rotate_left
      · intro w hSw; (try dsimp only at hSw); go_simp <;> with_reducible rfl
      try simp only [Act.put, List.setIfInBounds_toArray, List.set_cons_zero, List.set_cons_succ]
      refine tkR 18 (v := ?_) ?_ ?_
      rotate_left
      · intro w hSw; (try dsimp only at hSw); go_simp <;> with_reducible rfl
      try simp only [Act.put, List.setIfInBounds_toArray, List.set_cons_zero, List.set_cons_succ]
      refine tkR 19 (v := ?_) ?_ ?_
      rotate_left
      · intro w hSw; (try dsimp only at hSw); go_simp <;> with_reducible rfl
      try simp only [Act.put, List.setIfInBounds_toArray, List.set_cons_zero, List.set_cons_succ]
      refine wpAnyH_done (by kernel_rfl) ?_ _
      go_wp2_with fail
      go_ret
      exact ⟨ret_bool HT.out.symm, bwT⟩
    · have e1 : (e == 0) = false := by simpa using he
      have e2 : (sx == e) = q := by rw [HQ.out, decide_eq_true hab, decide_eq_false he]; by_cases h : sx = e <;> simp [h]
      clear hab he HQ
      go_enter Try.func89, Try.ntmps89
      go_upto_region 1 with fail
      refine wp_region_held_drew (S := (fun w' => w'.cell? ⟨BT, 0, none⟩ = some (.int .i64 e) ∧ w'.cell? ⟨BF, 0, none⟩ = some (.slice (some ⟨B, O, none⟩) ps.length cap) ∧ w'.cell? ⟨B, O + a * 6 + 1, none⟩ = some (.int .i64 sx))) (by kernel_rfl) ?_ (fun hHeld => ?_)
      · first | exact trivial | ((try dsimp only); go_keep)
      refine tkR 0 (v := ?_) ?_ ?_
      rotate_left
      · intro w hSw; (try dsimp only at hSw); go_simp <;> with_reducible rfl
      try simp only [Act.put, List.setIfInBounds_toArray, List.set_cons_zero, List.set_cons_succ]
      refine tkR 1 (v := ?_) ?_ ?_
      rotate_left
      · intro w hSw; (try dsimp only at hSw); go_simp <;> with_reducible rfl
      try simp only [Act.put, List.setIfInBounds_toArray, List.set_cons_zero, List.set_cons_succ]
      refine tkR 2 (v := ?_) ?_ ?_
      rotate_left
      · intro w hSw; (try dsimp only at hSw); go_simp <;> with_reducible rfl
      try simp only [Act.put, List.setIfInBounds_toArray, List.set_cons_zero, List.set_cons_succ]
      refine tkR 3 (v := ?_) ?_ ?_
      rotate_left
      · intro w hSw; (try dsimp only at hSw); go_simp <;> with_reducible rfl
      try simp only [Act.put, List.setIfInBounds_toArray, List.set_cons_zero, List.set_cons_succ]
      refine tkR 4 (v := ?_) ?_ ?_
      rotate_left
      · intro w hSw; (try dsimp only at hSw); go_simp <;> with_reducible rfl
      try simp only [Act.put, List.setIfInBounds_toArray, List.set_cons_zero, List.set_cons_succ]
      refine tkR 5 (v := ?_) ?_ ?_
      rotate_left
      · intro w hSw; (try dsimp only at hSw); go_simp <;> with_reducible rfl
      try simp only [Act.put, List.setIfInBounds_toArray, List.set_cons_zero, List.set_cons_succ]
      refine tkR 6 (v := ?_) ?_ ?_
      rotate_left
      · intro w hSw; (try dsimp only at hSw); go_simp <;> with_reducible rfl
      try simp only [Act.put, List.setIfInBounds_toArray, List.set_cons_zero, List.set_cons_succ]
      refine tkR 7 (v := ?_) ?_ ?_
      rotate_left
      · intro w hSw; (try dsimp only at hSw); go_simp <;> with_reducible rfl
      try simp only [Act.put, List.setIfInBounds_toArray, List.set_cons_zero, List.set_cons_succ]
      refine tkR 8 (v := ?_) ?_ ?_
      rotate_left
      · intro w hSw; (try dsimp only at hSw); go_simp <;> with_reducible rfl
      try simp only [Act.put, List.setIfInBounds_toArray, List.set_cons_zero, List.set_cons_succ]
      refine tkR 10 (v := ?_) ?_ ?_
      rotate_left
      · intro w hSw; (try dsimp only at hSw); go_simp <;> with_reducible rfl
      try simp only [Act.put, List.setIfInBounds_toArray, List.set_cons_zero, List.set_cons_succ]
      refine tkR 14 (v := ?_) ?_ ?_
      rotate_left
      · intro w hSw; (try dsimp only at hSw); go_simp <;> with_reducible rfl
      try simp only [Act.put, List.setIfInBounds_toArray, List.set_cons_zero, List.set_cons_succ]
      refine tkR 9 (v := ?_) ?_ ?_
      rotate_left
      · intro w hSw; (try dsimp only at hSw); go_simp <;> with_reducible rfl
      try simp only [Act.put, List.setIfInBounds_toArray, List.set_cons_zero, List.set_cons_succ]
      refine tkR 15 (v := ?_) ?_ ?_
      rotate_left
      · intro w hSw; (try dsimp only at hSw); go_simp <;> with_reducible rfl
      try simp only [Act.put, List.setIfInBounds_toArray, List.set_cons_zero, List.set_cons_succ]
      refine tkR 11 (v := ?_) ?_ ?_
      rotate_left
      · intro w hSw; (try dsimp only at hSw); go_simp <;> with_reducible rfl
      try simp only [Act.put, List.setIfInBounds_toArray, List.set_cons_zero, List.set_cons_succ]
      refine tkR 12 (v := ?_) ?_ ?_
      rotate_left
      · intro w hSw; (try dsimp only at hSw); go_simp <;> with_reducible rfl
      try simp only [Act.put, List.setIfInBounds_toArray, List.set_cons_zero, List.set_cons_succ]
      refine tkR 13 (v := ?_) ?_ ?_
      rotate_left
      · intro w hSw; (try dsimp only at hSw); go_simp <;> with_reducible rfl
      try simp only [Act.put, List.setIfInBounds_toArray, List.set_cons_zero, List.set_cons_succ]
      refine tkR 16 (v := ?_) ?_ ?_
      rotate_left
      · intro w hSw; (try dsimp only at hSw); go_simp <;> with_reducible rfl
      try simp only [Act.put, List.setIfInBounds_toArray, List.set_cons_zero, List.set_cons_succ]
      refine tkR 17 (v := ?_) ?_ ?_
      rotate_left
      · intro w hSw; (try dsimp only at hSw); go_simp <;> with_reducible rfl
      try simp only [Act.put, List.setIfInBounds_toArray, List.set_cons_zero, List.set_cons_succ]
      refine tkR 18 (v := ?_) ?_ ?_
      rotate_left
      · intro w hSw; (try dsimp only at hSw); go_simp <;> with_reducible rfl
      try simp only [Act.put, List.setIfInBounds_toArray, List.set_cons_zero, List.set_cons_succ]
      refine tkR 19 (v := ?_) ?_ ?_
      rotate_left
      · intro w hSw; (try dsimp only at hSw); go_simp <;> with_reducible rfl
      try simp only [Act.put, List.setIfInBounds_toArray, List.set_cons_zero, List.set_cons_succ]
      refine wpAnyH_done (by kernel_rfl) ?_ _
      go_wp2_with fail
      go_ret
      exact ⟨ret_bool rfl, bwT⟩
  · have e0 : ((a : Int) == (b : Int)) = false := by simp; omega
    have HT := Lib.hid (show q = false by rw [HQ.out, decide_eq_false hab]; rfl)
    clear hab HQ
    go_enter Try.func89, Try.ntmps89
    go_upto_region 1 with fail
    refine wp_region_held_drew (S := (fun w' => True)) (by kernel_rfl) ?_ (fun hHeld => ?_)
    · first | exact trivial | ((try dsimp only); go_keep)
    refine tkR 0 (v := ?_) ?_ ?_
    rotate_left
    · intro w hSw; (try dsimp only at hSw); go_simp <;> with_reducible rfl
    try simp only [Act.put, List.setIfInBounds_toArray, List.set_cons_zero, List.set_cons_succ]
    refine tkR 1 (v := ?_) ?_ ?_
    rotate_left
    · intro w hSw; (try dsimp only at hSw); go_simp <;> with_reducible rfl
    try simp only [Act.put, List.setIfInBounds_toArray, List.set_cons_zero, List.set_cons_succ]
    refine tkR 2 (v := ?_) ?_ ?_
    rotate_left
    · intro w hSw; (try dsimp only at hSw); go_simp <;> with_reducible rfl
    try simp only [Act.put, List.setIfInBounds_toArray, List.set_cons_zero, List.set_cons_succ]
    refine tkR 3 (v := ?_) ?_ ?_
    rotate_left
    · intro w hSw; (try dsimp only at hSw); go_simp <;> with_reducible rfl
    try simp only [Act.put, List.setIfInBounds_toArray, List.set_cons_zero, List.set_cons_succ]
    refine skR 4 ?_
    try simp only [Act.put, List.setIfInBounds_toArray, List.set_cons_zero, List.set_cons_succ]
    refine skR 5 ?_
    try simp only [Act.put, List.setIfInBounds_toArray, List.set_cons_zero, List.set_cons_succ]
    refine skR 6 ?_
    try simp only [Act.put, List.setIfInBounds_toArray, List.set_cons_zero, List.set_cons_succ]
    refine skR 7 ?_
    try simp only [Act.put, List.setIfInBounds_toArray, List.set_cons_zero, List.set_cons_succ]
    refine skR 8 ?_
    try simp only [Act.put, List.setIfInBounds_toArray, List.set_cons_zero, List.set_cons_succ]
    refine skR 10 ?_
    try simp only [Act.put, List.setIfInBounds_toArray, List.set_cons_zero, List.set_cons_succ]
    refine skR 14 ?_
    try simp only [Act.put, List.setIfInBounds_toArray, List.set_cons_zero, List.set_cons_succ]
    refine skR 9 ?_
    try simp only [Act.put, List.setIfInBounds_toArray, List.set_cons_zero, List.set_cons_succ]
    refine skR 15 ?_
    try simp only [Act.put, List.setIfInBounds_toArray, List.set_cons_zero, List.set_cons_succ]
    refine skR 11 ?_
    try simp only [Act.put, List.setIfInBounds_toArray, List.set_cons_zero, List.set_cons_succ]
    refine skR 12 ?_
    try simp only [Act.put, List.setIfInBounds_toArray, List.set_cons_zero, List.set_cons_succ]
    refine skR 13 ?_
    try simp only [Act.put, List.setIfInBounds_toArray, List.set_cons_zero, List.set_cons_succ]
    refine skR 16 ?_
    try simp only [Act.put, List.setIfInBounds_toArray, List.set_cons_zero, List.set_cons_succ]
    refine skR 17 ?_
    try simp only [Act.put, List.setIfInBounds_toArray, List.set_cons_zero, List.set_cons_succ]
    refine tkR 18 (v := ?_) ?_ ?_
    rotate_left
    · intro w hSw; (try dsimp only at hSw); go_simp <;> with_reducible rfl
    try simp only [Act.put, List.setIfInBounds_toArray, List.set_cons_zero, List.set_cons_succ]
    refine tkR 19 (v := ?_) ?_ ?_
    rotate_left
    · intro w hSw; (try dsimp only at hSw); go_simp <;> with_reducible rfl
    try simp only [Act.put, List.setIfInBounds_toArray, List.set_cons_zero, List.set_cons_succ]
    refine wpAnyH_done (by kernel_rfl) ?_ _
    go_wp2_with fail
    go_ret
    exact ⟨ret_bool HT.out.symm, bwT⟩
def PostRr (w : World) (n : Nat) (L : List (List Int)) (e : Ending) (w' : World) : Prop := ∃ u, e = .returned (.agg #[.int .i64 n, u]) ∧ Rd false 0 w'.heap.size w' [u] L ∧ Below w.heap.size w w'
set_option maxRecDepth 20000 in
set_option maxHeartbeats 8000000 in
theorem relFor_any {z z2 : Bool} {lo hi lo2 hi2 : Nat} (w : World) (v v2 tv : Value) (f : Fam) (h : Rd z lo hi w [v, v2] f) (hf : famB f = true) (e : Int) (l : List Stp) (ht : Rd z2 lo2 hi2 w [.int .i64 e, tv] ((e, l) : Kin)) (hk : isKin (e, l) = true) :
    Calls Try.prog 57 #[.agg #[v, v2], .agg #[.int .i64 e, tv]] w (PostRr w f.1.length (relTo (relF f e l) f.1.length f.1.length)) := by
  obtain ⟨ao, an, cap, rfl, hn, -⟩ := h.fam.1.shape
  subst hn
  obtain ⟨bo, bn, dap, rfl, hn2, -⟩ := h.fam.2.shape
  subst hn2
  obtain ⟨ta, tn, tc, rfl, htn, -⟩ := ht.kin.2.2.shape
  subst htn
  have h40 := (famB_facts hf).1
  have hl8 : l.length ≤ 8 := (isKin_facts hk).2.1
  have HKS := Lib.hid (isKin_facts hk).2.2.2
  have HH := Lib.hid h
  have HT := Lib.hid ht
  have HFB := Lib.hid hf
  have HKB := Lib.hid hk
  clear h ht hf hk
  go_enter Try.func57, Try.ntmps57
  go_wp2_with fail
  refine (isFamI_b _ _ _ f (HH.out.below bwT) true HFB.out.symm).mono ?_
  rintro e1 w1 ⟨rfl, hbw1⟩
  have hpw1 : Below w.heap.size w w1 := Below.after bwT hbw1 szT
  have sw1 := hpw1.size
  have hBw1 : Below w.heap.size w w1 := hpw1
  have l_f : w.heap.size < w1.heap.size := by have := hbw1.size; simp at this; omega
  have q_f0 : w1.cell? ⟨w.heap.size, 0, none⟩ = some (.slice ao f.1.length cap) := oldc hbw1 ltT (by simp [go_sem])
  have q_f1 : w1.cell? ⟨w.heap.size, 1, none⟩ = some (.slice bo f.2.length dap) := oldc hbw1 ltT (by simp [go_sem])
  have l_t : w.heap.size + 1 < w1.heap.size := by have := hbw1.size; simp at this; omega
  have q_t0 : w1.cell? ⟨w.heap.size + 1, 0, none⟩ = some (.int .i64 e) := oldc hbw1 ltT (by simp [go_sem])
  have q_t1 : w1.cell? ⟨w.heap.size + 1, 1, none⟩ = some (.slice ta l.length tc) := oldc hbw1 ltT (by simp [go_sem])
  have l_o : w.heap.size + 1 + 1 < w1.heap.size := by have := hbw1.size; simp at this; omega
  have q_o0 : w1.cell? ⟨w.heap.size + 1 + 1, 0, none⟩ = some (.int .i64 0) := oldc hbw1 ltT (by simp [go_sem])
  have q_o1 : w1.cell? ⟨w.heap.size + 1 + 1, 1, none⟩ = some (.slice none 0 0) := oldc hbw1 ltT (by simp [go_sem])
  have f_o : ∀ o, w1.frozen? ⟨w.heap.size + 1 + 1, o, none⟩ = false := fun o => (hbw1.frozen (p := ⟨w.heap.size + 1 + 1, o, none⟩) ltT).trans (by simp [go_sem])
  clear hbw1 hpw1
  go_wp2_with fail
  refine (isTypeI_b _ _ _ (e, l) (HT.out.below hBw1) true HKB.out.symm).mono ?_
  rintro e2 w2 ⟨rfl, hbw2⟩
  have hpw2 : Below w1.heap.size w1 w2 := Below.after bwT hbw2 szT
  have sw2 := hpw2.size
  have hBw2 : Below w.heap.size w w2 := Below.trans hBw1 (Below.mono hpw2 hBw1.size)
  have q_f0 := oldc hpw2 l_f q_f0
  have q_f1 := oldc hpw2 l_f q_f1
  have q_t0 := oldc hpw2 l_t q_t0
  have q_t1 := oldc hpw2 l_t q_t1
  have q_o0 := oldc hpw2 l_o q_o0
  have q_o1 := oldc hpw2 l_o q_o1
  have f_o : ∀ o, w2.frozen? ⟨w.heap.size + 1 + 1, o, none⟩ = false := fun o => (hpw2.frozen (p := ⟨w.heap.size + 1 + 1, o, none⟩) l_o).trans (f_o o)
  have l_f := Nat.lt_of_lt_of_le l_f sw2
  have l_o := Nat.lt_of_lt_of_le l_o sw2
  have l_t := Nat.lt_of_lt_of_le l_t sw2
  clear hbw2 hpw2
  obtain ⟨W5, hW5⟩ : ∃ W : World, W = w2 := ⟨_, rfl⟩
  subst hW5
  have hB5 : Below w.heap.size w W5 := hBw2
  go_wp2_with fail
  refine (related_any _ f.1.length h40 89 #[.pointer (some ⟨w.heap.size + 1, 0, none⟩), .pointer (some ⟨w.heap.size, 0, none⟩)] (egoR f e) (fun _ _ => by kernel_rfl) (fun W a c hW ha hc => ?cl)).mono ?_
  case cl =>
    exact egoCl_b W (w.heap.size + 1) w.heap.size e ao cap f.1 f.2 (((HH.out.fam).1.below hB5).below hW) (oldc hW l_t q_t0) (oldc hW l_f q_f0) a c ha
  rintro e6 w6 ⟨u, rfl, ho, hb6⟩
  obtain ⟨ua, un, uc, rfl, hun, -⟩ := ho.rd.shape
  rw [relTo_len] at hun
  subst hun
  have HO := Lib.hid (show Rd true W5.heap.size w6.heap.size w6 [.slice ua f.1.length uc] (relTo (relF f e (l.take 0)) f.1.length f.1.length) from ho.rd)
  have s6 := hb6.size
  have s5 := hB5.size
  have hB6 : Below w.heap.size w w6 := hB5.trans (Below.mono hb6 hB5.size)
  have f0 := oldc hb6 l_f q_f0
  have f1 := oldc hb6 l_f q_f1
  have t0 := oldc hb6 l_t q_t0
  have t1 := oldc hb6 l_t q_t1
  have r0 := oldc hb6 l_o q_o0
  have r1 := oldc hb6 l_o q_o1
  have rf : ∀ o, w6.frozen? ⟨w.heap.size + 1 + 1, o, none⟩ = false := fun o => (hb6.frozen (p := ⟨w.heap.size + 1 + 1, o, none⟩) l_o).trans (f_o o)
  have l6 : w.heap.size + 1 + 1 < w6.heap.size := by omega
  have HT6 := Lib.hid (HT.out.kin.2.2.top.below hB6)
  have HH6 := Lib.hid (HH.out.top.below hB6)
  obtain ⟨B5, hB5e⟩ : ∃ B, B = w6.heap.size := ⟨_, rfl⟩
  obtain ⟨W7, hW7⟩ : ∃ W : World, W = w6.alloc (.cells #[.int .i64 f.1.length, .slice ua f.1.length uc] 89) := ⟨_, rfl⟩
  have hb7 : Below B5 w6 W7 := by rw [hW7, hB5e]; exact bwT
  have c0 : W7.cell? ⟨B5, 0, none⟩ = some (.int .i64 f.1.length) := by rw [hW7, hB5e]; simp [go_sem]
  have c1 : W7.cell? ⟨B5, 1, none⟩ = some (.slice ua f.1.length uc) := by rw [hW7, hB5e]; simp [go_sem]
  have cf : ∀ o, W7.frozen? ⟨B5, o, none⟩ = false := fun o => by rw [hW7, hB5e]; simp [go_sem]
  have s7 : B5 < W7.heap.size := by rw [hW7, hB5e]; simp
  have HR7 := Lib.hid (show RdS (fun b => w.heap.size + 1 + 1 < b ∧ b ≠ B5) W7 [.slice ua f.1.length uc] (relTo (relF f e (l.take 0)) f.1.length f.1.length) by
    obtain ⟨fp, a1, a2⟩ := HO.out
    refine ⟨fp, Rep.keep (Rep.weak a1) (fun b hb => hb7.block b (by have := (a2 b hb).2; omega)), fun b hb => ?_⟩
    have h1 := a2 b hb
    have h2 := l_o
    exact ⟨by omega, by omega, by omega⟩)
  go_upto_region 4 with fail
  rw [← hW7, ← hB5e]
  have hB56 : w6.heap.size = B5 := hB5e.symm
  have lf5 : w.heap.size + 1 + 1 < B5 := by omega
  have f0 := oldc hb7 (by omega) f0
  have f1 := oldc hb7 (by omega) f1
  have t0 := oldc hb7 (by omega) t0
  have t1 := oldc hb7 (by omega) t1
  have r0 := oldc hb7 (by omega) r0
  have r1 := oldc hb7 (by omega) r1
  have rf : ∀ o, W7.frozen? ⟨w.heap.size + 1 + 1, o, none⟩ = false := fun o => (hb7.frozen (p := ⟨w.heap.size + 1 + 1, o, none⟩) lf5).trans (rf o)
  have HT7 := Lib.hid (HT6.out.below (hb7.mono (by omega)))
  have HH7 := Lib.hid (HH6.out.below (hb7.mono (by omega)))
  have hB7 : Below w.heap.size w W7 := hB6.trans (Below.mono hb7 (by omega))
  clear hW7 hB5e hB56 HO ho hb6 hb7 HT HH HT6 HH6 HKB hB6 hB5 s5 s6 l6 q_f0 q_f1 q_t0 q_t1 q_o0 q_o1 f_o l_f l_t l_o
  go_wp2
  go_loopw [7, 25] (fun _ s25 wl => ∃ (i : Nat) (ra : Option Addr) (rc : Nat), i ≤ l.length ∧ s25 = .int .i64 i ∧ wl.cell? ⟨B5, 0, none⟩ = some (.int .i64 f.1.length) ∧ wl.cell? ⟨B5, 1, none⟩ = some (.slice ra f.1.length rc) ∧ (∀ o, wl.frozen? ⟨B5, o, none⟩ = false) ∧ Hid (RdS (fun b => w.heap.size + 1 + 1 < b ∧ b ≠ B5) wl [.slice ra f.1.length rc] (relTo (relF f e (l.take i)) f.1.length f.1.length)) ∧ Below B5 W7 wl ∧ B5 < wl.heap.size) (fun _ s25 _ => l.length - (intOf s25).toNat)
  case atStart => exact ⟨0, _, _, Nat.zero_le _, rfl, c0, c1, cf, HR7, Below.refl _ _, s7⟩
  case round =>
    clear HR7 c0 c1 cf
    obtain ⟨wo, hwo⟩ : ∃ y : World, y = wr := ⟨_, rfl⟩
    subst hwo
    obtain ⟨i, ra, rc, hi, rfl, c0, c1, cf, HR, hbo, lo5⟩ := hrel
    have f0 := oldc hbo (by omega) f0
    have f1 := oldc hbo (by omega) f1
    have r0 := oldc hbo (by omega) r0
    have r1 := oldc hbo (by omega) r1
    have rf : ∀ o, wo.frozen? ⟨w.heap.size + 1 + 1, o, none⟩ = false := fun o => (hbo.frozen (p := ⟨w.heap.size + 1 + 1, o, none⟩) lf5).trans (rf o)
    have hBo : Below w.heap.size w wo := hB7.trans (hbo.mono (by omega))
    by_cases hlt : i < l.length
    · have hI : (i : Int) < (l.length : Int) := by omega
      obtain ⟨sb, so, k, g, e1, hs, s0, s1, gk, gg, -, -, hbl, -⟩ := (HT7.out.keep (Zone.mono (Below.zone hbo lo2) (Nat.le_refl _) (by omega))).stp_at hlt
      subst e1
      obtain ⟨hk, hg⟩ := HKS.out (k, g) (List.mem_of_getElem? hs.out)
      dsimp only at hk hg
      have HRS := Lib.hid (relF_snoc (f := f) (e := e) hs.out)
      obtain ⟨R, hR⟩ : ∃ R, R = relF f e (l.take i) := ⟨_, rfl⟩
      rw [← hR] at HR HRS
      clear hs hR
      obtain ⟨BQ, hBQ⟩ : ∃ B, B = wo.heap.size := ⟨_, rfl⟩
      obtain ⟨WB, hWB⟩ : ∃ W : World, W = wo.alloc (.cells #[.int .i64 k, .int .i64 g] 84) := ⟨_, rfl⟩
      have hbB : Below wo.heap.size wo WB := by rw [hWB]; exact bwT
      have g0 : WB.cell? ⟨BQ, 0, none⟩ = some (.int .i64 k) := by rw [hWB, hBQ]; simp [go_sem]
      have g1 : WB.cell? ⟨BQ, 1, none⟩ = some (.int .i64 g) := by rw [hWB, hBQ]; simp [go_sem]
      have lQ : BQ < WB.heap.size := by rw [hWB, hBQ]; simp
      go_upto_region 7 with fail
      rw [← hWB, ← hBQ]
      have f0 := oldc hbB (by omega) f0
      have f1 := oldc hbB (by omega) f1
      have c0 := oldc hbB (by omega) c0
      have c1 := oldc hbB (by omega) c1
      have cf : ∀ o, WB.frozen? ⟨B5, o, none⟩ = false := fun o => (hbB.frozen (p := ⟨B5, o, none⟩) lo5).trans (cf o)
      have HRB := Lib.hid (HR.out.below hbB)
      have HHB := Lib.hid ((HH7.out.keep (Zone.mono (Below.zone hbo lo) (Nat.le_refl _) (by omega))).below hbB)
      have hBB : Below w.heap.size w WB := hBo.trans (hbB.mono hBo.size)
      have hBB5 : Below B5 W7 WB := hbo.trans (hbB.mono (by omega))
      have sB := hbB.size
      have lf : w.heap.size < WB.heap.size := by omega
      have lb : B5 < WB.heap.size := by omega
      have k1 : ¬ w.heap.size = B5 := by omega
      have k2 : ¬ B5 = w.heap.size := by omega
      have k3 : ¬ BQ = B5 := by omega
      have k4 : ¬ B5 = BQ := by omega
      clear hWB hbB HR s0 s1 r0 r1 rf hBQ
      refine wp_region_held_drew (S := (fun w' => w'.cell? ⟨w.heap.size, 0, none⟩ = some (.slice ao f.1.length cap) ∧ w'.cell? ⟨w.heap.size, 1, none⟩ = some (.slice bo f.2.length dap) ∧ w'.cell? ⟨BQ, 0, none⟩ = some (.int .i64 k) ∧ w'.cell? ⟨BQ, 1, none⟩ = some (.int .i64 g))) (by kernel_rfl) ?_ (fun hHeld => ?_)
      · first | exact trivial | ((try dsimp only); go_keep)
      refine tkR 1 (v := ?_) ?_ ?_
      rotate_left
      · intro w hSw; (try dsimp only at hSw); go_simp <;> with_reducible rfl
      try simp only [Act.put, List.setIfInBounds_toArray, List.set_cons_zero, List.set_cons_succ]
      refine tkR 2 (v := ?_) ?_ ?_
      rotate_left
      · intro w hSw; (try dsimp only at hSw); go_simp <;> with_reducible rfl
      try simp only [Act.put, List.setIfInBounds_toArray, List.set_cons_zero, List.set_cons_succ]
      refine wpAnyH_ready (rs := [0, 3]) (by kernel_rfl) (by simp) ?_
      refine rdR (fun K hK => ?_) ?_
      · go_simp
        refine hK.out _ _ ?_ (fun hHeld => ?_)
        · exact kpT
        clear hK K
        try simp only [Act.put, List.setIfInBounds_toArray, List.set_cons_zero, List.set_cons_succ]
        refine wpAnyH_ready (rs := [3]) (by kernel_rfl) (by simp) ?_
        refine rdR (fun K hK => ?_) ?_
        · go_simp
          refine (stepRel_any _ _ _ f (HHB.out.below ?b1) HFB.out k g hk hg).mono ?_
          case b1 => exact bwT
          rintro e8 w8 ⟨u8, rfl, ho8, hb8⟩
          obtain ⟨xa, xn, xc, rfl, hxn, -⟩ := ho8.rd.shape
          rw [relTo_len] at hxn
          subst hxn
          have hp8 : Below WB.heap.size WB w8 := Below.trans (show Below WB.heap.size WB _ from bwT) (hb8.mono szT)
          have hS8 := And.intro (oldc hp8 lf f0) (And.intro (oldc hp8 lf f1) (And.intro (oldc hp8 lQ g0) (oldc hp8 lQ g1)))
          have c0 := oldc hp8 lb c0
          have c1 := oldc hp8 lb c1
          have cf : ∀ o, w8.frozen? ⟨B5, o, none⟩ = false := fun o => (hp8.frozen (p := ⟨B5, o, none⟩) lb).trans (cf o)
          have HX8 := Lib.hid ho8.rd
          have HR8 := Lib.hid (HRB.out.below hp8)
          have s8 := hp8.size
          clear hb8 ho8
          refine hK.out _ _ ?_ (fun hHeld => ?_)
          · exact kpT
          clear hK K
          try simp only [Act.put, List.setIfInBounds_toArray, List.set_cons_zero, List.set_cons_succ]
          refine wpAnyH_ready (rs := [4]) (by kernel_rfl) (by simp) ?_
          refine rdR (fun K hK => ?_) ?_
          · go_simp
            refine (compose_any _ f.1.length h40 _ _ R (ledB f (k, g)) (HR8.out.rd.below ?b2) (HX8.out.below ?b3)).mono ?_
            case b2 => exact bwT
            case b3 => exact bwT
            rintro e9 w9 ⟨u9, rfl, ho9, hb9⟩
            obtain ⟨ya, yn, yc, rfl, hyn, -⟩ := ho9.rd.shape
            rw [relTo_len] at hyn
            subst hyn
            have hq9 : Below w8.heap.size w8 w9 := Below.trans (show Below w8.heap.size w8 _ from bwT) (hb9.mono szT)
            have hp9 : Below WB.heap.size WB w9 := hp8.trans (hq9.mono hp8.size)
            have hS9 := And.intro (oldc hp9 lf f0) (And.intro (oldc hp9 lf f1) (And.intro (oldc hp9 lQ g0) (oldc hp9 lQ g1)))
            obtain ⟨z0, z1, z2, z3⟩ := id hS9
            have lb8 : B5 < w8.heap.size := by omega
            have c0 := oldc hq9 lb8 c0
            have c1 := oldc hq9 lb8 c1
            have cf : ∀ o, w9.frozen? ⟨B5, o, none⟩ = false := fun o => (hq9.frozen (p := ⟨B5, o, none⟩) lb8).trans (cf o)
            have HO9 := Lib.hid (show Ow w8.heap.size w9.heap.size w9 [.slice ya f.1.length yc] (relTo (relF f e (l.take (i + 1))) f.1.length f.1.length) by
              rw [HRS.out]
              exact ho9.mono (by first | exact Nat.le_refl _ | (simp; done) | (simp; omega)) (Nat.le_refl _))
            have s9 := hp9.size
            clear hb9 ho9 hp8 HX8 HR8
            refine hK.out _ _ ?_ (fun hHeld => ?_)
            · exact kpT
            clear hK K
            try simp only [Act.put, List.setIfInBounds_toArray, List.set_cons_zero, List.set_cons_succ]
            refine wpAnyH_ready (rs := [5]) (by kernel_rfl) (by simp) ?_
            refine rdR (fun K hK => ?_) ?_
            · go_simp
              refine hK.out _ _ ?_ (fun hHeld => ?_)
              · exact kpT
              clear hK K
              try simp only [Act.put, List.setIfInBounds_toArray, List.set_cons_zero, List.set_cons_succ]
              refine wpAnyH_done (by kernel_rfl) ?_ _
              have HY := Lib.hid (show RdS (fun b => w.heap.size + 1 + 1 < b ∧ b ≠ B5) ((w9.setCell ⟨B5, 0, none⟩ (.int .i64 f.1.length)).setCell ⟨B5, 1, none⟩ (.slice ya f.1.length yc)) [.slice ya f.1.length yc] (relTo (relF f e (l.take (i + 1))) f.1.length f.1.length) by
                obtain ⟨fp, a1, a2⟩ := HO9.out.rd
                refine ⟨fp, Rep.keep (Rep.weak a1) (fun b hb => ?_), fun b hb => ?_⟩
                · have h1 := a2 b hb
                  rw [Below.heap_setCell _ _ _ _ (by show b ≠ B5; omega), Below.heap_setCell _ _ _ _ (by show b ≠ B5; omega)]
                · have h1 := a2 b hb
                  exact ⟨by simp; omega, by omega, by omega⟩)
              have hB9 : Below B5 W7 ((w9.setCell ⟨B5, 0, none⟩ (.int .i64 f.1.length)).setCell ⟨B5, 1, none⟩ (.slice ya f.1.length yc)) := by
                have : Below B5 W7 w9 := hBB5.trans (hp9.mono (by omega))
                exact bwT
              have l9 : B5 < w9.heap.size := by omega
              clear HO9 hp9 hq9
              go_wp2
              go_roundw
              case rel => exact ⟨i + 1, _, _, by omega, by go_num, by simp [go_sem, *], by simp [go_sem, *], (fun o => by simp [go_sem, *]), HY, hB9, (by simp; omega)⟩
              case measure => simp [intOf]; omega
            exact AllReadyH.nil
          exact AllReadyH.nil
        exact AllReadyH.nil
      refine rdR (fun K hK => ?_) ?_
      · go_simp
        refine (stepRel_any _ _ _ f (HHB.out.below ?b1) HFB.out k g hk hg).mono ?_
        case b1 => exact bwT
        rintro e8 w8 ⟨u8, rfl, ho8, hb8⟩
        obtain ⟨xa, xn, xc, rfl, hxn, -⟩ := ho8.rd.shape
        rw [relTo_len] at hxn
        subst hxn
        have hp8 : Below WB.heap.size WB w8 := Below.trans (show Below WB.heap.size WB _ from bwT) (hb8.mono szT)
        have hS8 := And.intro (oldc hp8 lf f0) (And.intro (oldc hp8 lf f1) (And.intro (oldc hp8 lQ g0) (oldc hp8 lQ g1)))
        have c0 := oldc hp8 lb c0
        have c1 := oldc hp8 lb c1
        have cf : ∀ o, w8.frozen? ⟨B5, o, none⟩ = false := fun o => (hp8.frozen (p := ⟨B5, o, none⟩) lb).trans (cf o)
        have HX8 := Lib.hid ho8.rd
        have HR8 := Lib.hid (HRB.out.below hp8)
        have s8 := hp8.size
        clear hb8 ho8
        refine hK.out _ _ ?_ (fun hHeld => ?_)
        · exact kpT
        clear hK K
        try simp only [Act.put, List.setIfInBounds_toArray, List.set_cons_zero, List.set_cons_succ]
        refine wpAnyH_ready (rs := [0]) (by kernel_rfl) (by simp) ?_
        refine rdR (fun K hK => ?_) ?_
        · go_simp
          refine hK.out _ _ ?_ (fun hHeld => ?_)
          · exact kpT
          clear hK K
          try simp only [Act.put, List.setIfInBounds_toArray, List.set_cons_zero, List.set_cons_succ]
          refine wpAnyH_ready (rs := [4]) (by kernel_rfl) (by simp) ?_
          refine rdR (fun K hK => ?_) ?_
          · go_simp
            refine (compose_any _ f.1.length h40 _ _ R (ledB f (k, g)) (HR8.out.rd.below ?b2) (HX8.out.below ?b3)).mono ?_
            case b2 => exact bwT
            case b3 => exact bwT
            rintro e9 w9 ⟨u9, rfl, ho9, hb9⟩
            obtain ⟨ya, yn, yc, rfl, hyn, -⟩ := ho9.rd.shape
            rw [relTo_len] at hyn
            subst hyn
            have hq9 : Below w8.heap.size w8 w9 := Below.trans (show Below w8.heap.size w8 _ from bwT) (hb9.mono szT)
            have hp9 : Below WB.heap.size WB w9 := hp8.trans (hq9.mono hp8.size)
            have hS9 := And.intro (oldc hp9 lf f0) (And.intro (oldc hp9 lf f1) (And.intro (oldc hp9 lQ g0) (oldc hp9 lQ g1)))
            obtain ⟨z0, z1, z2, z3⟩ := id hS9
            have lb8 : B5 < w8.heap.size := by omega
            have c0 := oldc hq9 lb8 c0
            have c1 := oldc hq9 lb8 c1
            have cf : ∀ o, w9.frozen? ⟨B5, o, none⟩ = false := fun o => (hq9.frozen (p := ⟨B5, o, none⟩) lb8).trans (cf o)
            have HO9 := Lib.hid (show Ow w8.heap.size w9.heap.size w9 [.slice ya f.1.length yc] (relTo (relF f e (l.take (i + 1))) f.1.length f.1.length) by
              rw [HRS.out]
              exact ho9.mono (by first | exact Nat.le_refl _ | (simp; done) | (simp; omega)) (Nat.le_refl _))
            have s9 := hp9.size
            clear hb9 ho9 hp8 HX8 HR8
            refine hK.out _ _ ?_ (fun hHeld => ?_)
            · exact kpT
            clear hK K
            try simp only [Act.put, List.setIfInBounds_toArray, List.set_cons_zero, List.set_cons_succ]
            refine wpAnyH_ready (rs := [5]) (by kernel_rfl) (by simp) ?_
            refine rdR (fun K hK => ?_) ?_
            · go_simp
              refine hK.out _ _ ?_ (fun hHeld => ?_)
              · exact kpT
              clear hK K
              try simp only [Act.put, List.setIfInBounds_toArray, List.set_cons_zero, List.set_cons_succ]
              refine wpAnyH_done (by kernel_rfl) ?_ _
              have HY := Lib.hid (show RdS (fun b => w.heap.size + 1 + 1 < b ∧ b ≠ B5) ((w9.setCell ⟨B5, 0, none⟩ (.int .i64 f.1.length)).setCell ⟨B5, 1, none⟩ (.slice ya f.1.length yc)) [.slice ya f.1.length yc] (relTo (relF f e (l.take (i + 1))) f.1.length f.1.length) by
                obtain ⟨fp, a1, a2⟩ := HO9.out.rd
                refine ⟨fp, Rep.keep (Rep.weak a1) (fun b hb => ?_), fun b hb => ?_⟩
                · have h1 := a2 b hb
                  rw [Below.heap_setCell _ _ _ _ (by show b ≠ B5; omega), Below.heap_setCell _ _ _ _ (by show b ≠ B5; omega)]
                · have h1 := a2 b hb
                  exact ⟨by simp; omega, by omega, by omega⟩)
              have hB9 : Below B5 W7 ((w9.setCell ⟨B5, 0, none⟩ (.int .i64 f.1.length)).setCell ⟨B5, 1, none⟩ (.slice ya f.1.length yc)) := by
                have : Below B5 W7 w9 := hBB5.trans (hp9.mono (by omega))
                exact bwT
              have l9 : B5 < w9.heap.size := by omega
              clear HO9 hp9 hq9
              go_wp2
              go_roundw
              case rel => exact ⟨i + 1, _, _, by omega, by go_num, by simp [go_sem, *], by simp [go_sem, *], (fun o => by simp [go_sem, *]), HY, hB9, (by simp; omega)⟩
              case measure => simp [intOf]; omega
            exact AllReadyH.nil
          exact AllReadyH.nil
        exact AllReadyH.nil
      exact AllReadyH.nil
    · obtain rfl : i = l.length := by omega
      have hI : ¬ (l.length : Int) < (l.length : Int) := by omega
      rw [List.take_length] at HR
      have k1 : ¬ B5 = w.heap.size + 1 + 1 := by omega
      have k2 : ¬ w.heap.size + 1 + 1 = B5 := by omega
      have lw : w.heap.size + 1 + 1 < wo.heap.size := by omega
      have HR2 := Lib.hid (HR.out.keep (w' := (wo.setCell ⟨w.heap.size + 1 + 1, 0, none⟩ (.int .i64 f.1.length)).setCell ⟨w.heap.size + 1 + 1, 1, none⟩ (.slice ra f.1.length rc)) (fun b hb hS => by
        rw [Below.heap_setCell _ _ _ _ (by show b ≠ w.heap.size + 1 + 1; omega), Below.heap_setCell _ _ _ _ (by show b ≠ w.heap.size + 1 + 1; omega)]))
      clear HR
      go_wp2
      refine bodyPost_ret (v := .agg #[.int .i64 f.1.length, .slice ra f.1.length rc]) (by simp [results, go_sem, *]) rfl ?_
      exact ⟨_, rfl, HR2.out.rd, bwT⟩
def PostRow (w : World) (xs : List Int) (e : Ending) (w' : World) : Prop := ∃ u, e = .returned u ∧ Rd false 0 w'.heap.size w' [u] xs ∧ Below w.heap.size w w'
set_option maxRecDepth 20000 in
set_option maxHeartbeats 8000000 in
theorem relativesOf_any {z z2 : Bool} {lo hi lo2 hi2 : Nat} (w : World) (v v2 tv : Value) (f : Fam) (h : Rd z lo hi w [v, v2] f) (hf : famB f = true) (a : Nat) (ha : a < f.1.length) (e : Int) (l : List Stp) (ht : Rd z2 lo2 hi2 w [.int .i64 e, tv] ((e, l) : Kin)) (hk : isKin (e, l) = true) :
    Calls Try.prog 26 #[.agg #[v, v2], .int .i64 a, .agg #[.int .i64 e, tv]] w (PostRow w (rowTo (relF f e l) a f.1.length)) := by
  obtain ⟨ao, an, cap, rfl, hn, -⟩ := h.fam.1.shape
  subst hn
  obtain ⟨bo, bn, dap, rfl, hn2, -⟩ := h.fam.2.shape
  subst hn2
  obtain ⟨ta, tn, tc, rfl, htn, -⟩ := ht.kin.2.2.shape
  subst htn
  have h40 := (famB_facts hf).1
  have haI : (a : Int) < (f.1.length : Int) := by omega
  have haJ : I64 (a : Int) := by unfold I64; omega
  have HH := Lib.hid h
  have HT := Lib.hid ht
  have HFB := Lib.hid hf
  have HKB := Lib.hid hk
  have HIN := Lib.hid (show true = hasB f [(a : Int)] by unfold hasB inB; rw [hf]; simp [ha])
  clear h ht hf hk
  go_enter Try.func26, Try.ntmps26
  go_wp2_with fail
  refine (has_b (z' := true) (lo' := w.heap.size + 1 + 1) (hi' := w.heap.size + 1 + 1 + 1) _ _ _ _ f (HH.out.below bwT) [(a : Int)] (by have := Rd.lit1 ((w.alloc (.cells #[.slice ao f.1.length cap, .slice bo f.2.length dap] 26)).alloc (.cells #[.int .i64 e, .slice ta l.length tc] 49)) 3 (a : Int) haJ; simpa using this) true HIN.out).mono ?_
  rintro e3 w3 ⟨rfl, hbw3⟩
  have hpw3 : Below w.heap.size w w3 := Below.after bwT hbw3 szT
  have sw3 := hpw3.size
  have hBw3 : Below w.heap.size w w3 := hpw3
  have l_f : w.heap.size < w3.heap.size := by have := hbw3.size; simp at this; omega
  have q_f0 : w3.cell? ⟨w.heap.size, 0, none⟩ = some (.slice ao f.1.length cap) := oldc hbw3 ltT (by simp [go_sem])
  have q_f1 : w3.cell? ⟨w.heap.size, 1, none⟩ = some (.slice bo f.2.length dap) := oldc hbw3 ltT (by simp [go_sem])
  have l_t : w.heap.size + 1 < w3.heap.size := by have := hbw3.size; simp at this; omega
  have q_t0 : w3.cell? ⟨w.heap.size + 1, 0, none⟩ = some (.int .i64 e) := oldc hbw3 ltT (by simp [go_sem])
  have q_t1 : w3.cell? ⟨w.heap.size + 1, 1, none⟩ = some (.slice ta l.length tc) := oldc hbw3 ltT (by simp [go_sem])
  clear hbw3 hpw3
  go_wp2_with fail
  refine (isTypeI_b _ _ _ (e, l) (HT.out.below hBw3) true HKB.out.symm).mono ?_
  rintro e4 w4 ⟨rfl, hbw4⟩
  have hpw4 : Below w3.heap.size w3 w4 := Below.after bwT hbw4 szT
  have sw4 := hpw4.size
  have hBw4 : Below w.heap.size w w4 := Below.trans hBw3 (Below.mono hpw4 hBw3.size)
  have q_f0 := oldc hpw4 l_f q_f0
  have q_f1 := oldc hpw4 l_f q_f1
  have q_t0 := oldc hpw4 l_t q_t0
  have q_t1 := oldc hpw4 l_t q_t1
  have l_f := Nat.lt_of_lt_of_le l_f sw4
  have l_t := Nat.lt_of_lt_of_le l_t sw4
  clear hbw4 hpw4
  go_wp2_with fail
  refine (relFor_any _ _ _ _ f (HH.out.below hBw4) HFB.out e l (HT.out.below hBw4) HKB.out).mono ?_
  rintro e5 w5 ⟨u, rfl, hrd, hbw5⟩
  have hpw5 : Below w4.heap.size w4 w5 := Below.after bwT hbw5 szT
  have sw5 := hpw5.size
  have hBw5 : Below w.heap.size w w5 := Below.trans hBw4 (Below.mono hpw5 hBw4.size)
  have q_f0 := oldc hpw5 l_f q_f0
  have q_f1 := oldc hpw5 l_f q_f1
  have q_t0 := oldc hpw5 l_t q_t0
  have q_t1 := oldc hpw5 l_t q_t1
  have l_f := Nat.lt_of_lt_of_le l_f sw5
  have l_t := Nat.lt_of_lt_of_le l_t sw5
  clear hbw5 hpw5
  obtain ⟨ra, rn, rc, rfl, hrn, -⟩ := hrd.shape
  rw [relTo_len] at hrn
  subst hrn
  obtain ⟨gb, gof, row, gv, rfl, hg, g0, hgr, -, -, -⟩ := hrd.ints_at ha
  rw [relTo_at ha] at hg
  obtain rfl := Option.some.inj hg.out
  have HGR := Lib.hid hgr
  have hfd : ∀ W : World, (Instr.field 89 (.agg #[.int .i64 f.1.length, .slice (some ⟨gb, gof, none⟩) f.1.length rc]) 1).run Try.prog W = .ok (.slice (some ⟨gb, gof, none⟩) f.1.length rc) W := fun _ => by kernel_rfl
  clear hrd hg hgr
  go_wp2
  go_ret
  exact ⟨_, rfl, HGR.out, hBw5⟩
end Go.Proofs.Ytefbbbhidnnchaa
