/- Contracts: systems of classes compared, the first one under other names. -/
import Derived.Test.YtlnhhfebmeekhaaAll
import Derived.Test.YtlnhhfebmeekhaaRel2
import Derived.Test.YtlnhhfebmeekhaaZ10C
namespace Go.Proofs.Ytlnhhfebmeekhaa
set_option linter.unusedVariables false
set_option linter.unusedSimpArgs false
open Go.RowKit

def lexC (a b : Cls) : Bool := lexB a.1 b.1 || (decide (a.1 = b.1) && lexB a.2 b.2)
def relC (c : Cls) (p : List Int) : Cls := (relab p c.1, relab p c.2)
def canonGo (c : Cls) : List (List Int) → Cls → Cls
  | [], b => b
  | p :: ps, b => canonGo c ps (if lexC (relC c p) b = true then relC c p else b)
def canonC (c : Cls) : Cls := canonGo c (perms c.1.length c.1.length) (relC c (idL c.1.length))
def canonV (c : Cls) : Bool := isCls c && decide (c.1.length ≤ 5)
def canonR (c : Cls) : Cls := if canonV c = true then canonC c else ([], [])

theorem perms_ok {n : Nat} (hn : n ≤ 5) : (∀ p ∈ perms n n, isPerm p = true) ∧ (perms n n)[0]? = some (idL n) := by
  have : n = 0 ∨ n = 1 ∨ n = 2 ∨ n = 3 ∨ n = 4 ∨ n = 5 := by omega
  rcases this with rfl | rfl | rfl | rfl | rfl | rfl <;> decide +kernel
theorem canonGo_step {c b : Cls} {L : List (List Int)} {i : Nat} {p : List Int} (h : L[i]? = some p) : canonGo c (L.drop i) b = canonGo c (L.drop (i + 1)) (if lexC (relC c p) b = true then relC c p else b) := by
  rw [drop_cons h, canonGo]
theorem canonGo_len {c : Cls} {n : Nat} : ∀ (L : List (List Int)) (b : Cls), (∀ p ∈ L, p.length ≤ n) → b.1.length ≤ n ∧ b.2.length ≤ n → (canonGo c L b).1.length ≤ n ∧ (canonGo c L b).2.length ≤ n
  | [], _, _, h => h
  | p :: L, b, hL, h => by
    rw [canonGo]
    refine canonGo_len L _ (fun q hq => hL q (by simp [hq])) ?_
    split
    · simp only [relC, relab_len]; exact ⟨hL p (by simp), hL p (by simp)⟩
    · exact h
theorem canonR_len (c : Cls) : (canonR c).1.length ≤ 5 ∧ (canonR c).2.length ≤ 5 := by
  unfold canonR; split
  · rename_i h
    simp only [canonV, Bool.and_eq_true, decide_eq_true_eq] at h
    refine canonGo_len _ _ (fun p hp => by rw [perms_mem hp]; exact h.2) ?_
    simp only [relC, relab_len, idL_len]; exact ⟨h.2, h.2⟩
  · simp

section
variable {z z' : Bool} {lo hi lo' hi' : Nat} (w : World) (u1 u2 v1 v2 : Value) (a b : Cls)
set_option maxHeartbeats 1000000 in
theorem lessClasses_b (h : Rd z lo hi w [u1, u2] a) (h' : Rd z' lo' hi' w [v1, v2] b) (r : Bool) (hr : r = lexC a b) :
    Calls Try.prog 44 #[.agg #[u1, u2], .agg #[v1, v2]] w (PostB w r) := by
  obtain ⟨a1, a2⟩ := a
  obtain ⟨b1, b2⟩ := b
  obtain ⟨ha1, ha2⟩ := h.two rfl
  obtain ⟨hb1, hb2⟩ := h'.two rfl
  dsimp only at ha1 ha2 hb1 hb2
  obtain ⟨r1, hlet_r1⟩ : ∃ r, r = decide (a1 = b1) := ⟨_, rfl⟩
  have H1 := Lib.hid hlet_r1
  clear hlet_r1
  obtain ⟨r2, hlet_r2⟩ : ∃ r, r = lexB a1 b1 := ⟨_, rfl⟩
  have H2 := Lib.hid hlet_r2
  clear hlet_r2
  obtain ⟨r3, hlet_r3⟩ : ∃ r, r = lexB a2 b2 := ⟨_, rfl⟩
  have H3 := Lib.hid hlet_r3
  clear hlet_r3
  have HR := Lib.hid (show r = (if r1 = true then r3 else r2) by
    rw [hr, lexC, H1.out, H2.out, H3.out]
    by_cases e : a1 = b1
    · subst e; simp [lexB_self]
    · simp [e])
  clear hr h h'
  go_enter Try.func44, Try.ntmps44
  go_wp2_with fail
  refine (sameInts_b _ _ _ _ _ (ha1.below bwT) (hb1.below bwT) _ H1.out).mono ?_
  rintro e1 w1 ⟨rfl, hbw1⟩
  have hpw1 : Below w.heap.size w w1 := Below.after bwT hbw1 szT
  have sw1 := hpw1.size
  have hBw1 : Below w.heap.size w w1 := hpw1
  have l_a : w.heap.size < w1.heap.size := by have := hbw1.size; simp at this; omega
  have q_a0 : w1.cell? ⟨w.heap.size, 0, none⟩ = some (u1) := oldc hbw1 ltT (by simp [go_sem])
  have q_a1 : w1.cell? ⟨w.heap.size, 1, none⟩ = some (u2) := oldc hbw1 ltT (by simp [go_sem])
  have l_b : w.heap.size + 1 < w1.heap.size := by have := hbw1.size; simp at this; omega
  have q_b0 : w1.cell? ⟨w.heap.size + 1, 0, none⟩ = some (v1) := oldc hbw1 ltT (by simp [go_sem])
  have q_b1 : w1.cell? ⟨w.heap.size + 1, 1, none⟩ = some (v2) := oldc hbw1 ltT (by simp [go_sem])
  clear hbw1 hpw1
  cases r1
  · go_wp2_with fail
    refine (lessInts_b _ _ _ _ _ (ha1.below bwT) (hb1.below bwT) _ H2.out).mono ?_
    rintro e2 w2 ⟨rfl, hbw2⟩
    have hpw2 : Below w1.heap.size w1 w2 := Below.after bwT hbw2 szT
    have sw2 := hpw2.size
    have hBw2 : Below w.heap.size w w2 := Below.trans hBw1 (Below.mono hpw2 hBw1.size)
    have q_a0 := oldc hpw2 l_a q_a0
    have q_a1 := oldc hpw2 l_a q_a1
    have q_b0 := oldc hpw2 l_b q_b0
    have q_b1 := oldc hpw2 l_b q_b1
    have l_a := Nat.lt_of_lt_of_le l_a sw2
    have l_b := Nat.lt_of_lt_of_le l_b sw2
    clear hbw2 hpw2
    go_wp2
    go_ret
    exact ⟨ret_bool (by rw [HR.out]; rfl), hBw2⟩
  go_wp2_with fail
  refine (lessInts_b _ _ _ _ _ (ha2.below bwT) (hb2.below bwT) _ H3.out).mono ?_
  rintro e3 w3 ⟨rfl, hbw3⟩
  have hpw3 : Below w1.heap.size w1 w3 := Below.after bwT hbw3 szT
  have sw3 := hpw3.size
  have hBw3 : Below w.heap.size w w3 := Below.trans hBw1 (Below.mono hpw3 hBw1.size)
  have q_a0 := oldc hpw3 l_a q_a0
  have q_a1 := oldc hpw3 l_a q_a1
  have q_b0 := oldc hpw3 l_b q_b0
  have q_b1 := oldc hpw3 l_b q_b1
  have l_a := Nat.lt_of_lt_of_le l_a sw3
  have l_b := Nat.lt_of_lt_of_le l_b sw3
  clear hbw3 hpw3
  go_wp2
  go_ret
  exact ⟨ret_bool (by rw [HR.out]; rfl), hBw3⟩

set_option maxHeartbeats 1000000 in
theorem equalClasses_b (h : Rd z lo hi w [u1, u2] a) (h' : Rd z' lo' hi' w [v1, v2] b) (r : Bool) (hr : r = decide (a = b)) :
    Calls Try.prog 41 #[.agg #[u1, u2], .agg #[v1, v2]] w (PostB w r) := by
  obtain ⟨a1, a2⟩ := a
  obtain ⟨b1, b2⟩ := b
  obtain ⟨ha1, ha2⟩ := h.two rfl
  obtain ⟨hb1, hb2⟩ := h'.two rfl
  dsimp only at ha1 ha2 hb1 hb2
  obtain ⟨r1, hlet_r1⟩ : ∃ r, r = decide (a1 = b1) := ⟨_, rfl⟩
  have H1 := Lib.hid hlet_r1
  clear hlet_r1
  obtain ⟨r3, hlet_r3⟩ : ∃ r, r = decide (a2 = b2) := ⟨_, rfl⟩
  have H3 := Lib.hid hlet_r3
  clear hlet_r3
  have HR := Lib.hid (show r = (r1 && r3) by rw [hr, H1.out, H3.out]; simp [Prod.mk.injEq])
  clear hr h h'
  go_enter Try.func41, Try.ntmps41
  go_wp2_with fail
  refine (sameInts_b _ _ _ _ _ (ha1.below bwT) (hb1.below bwT) _ H1.out).mono ?_
  rintro e4 w4 ⟨rfl, hbw4⟩
  have hpw4 : Below w.heap.size w w4 := Below.after bwT hbw4 szT
  have sw4 := hpw4.size
  have hBw4 : Below w.heap.size w w4 := hpw4
  have l_a : w.heap.size < w4.heap.size := by have := hbw4.size; simp at this; omega
  have q_a0 : w4.cell? ⟨w.heap.size, 0, none⟩ = some (u1) := oldc hbw4 ltT (by simp [go_sem])
  have q_a1 : w4.cell? ⟨w.heap.size, 1, none⟩ = some (u2) := oldc hbw4 ltT (by simp [go_sem])
  have l_b : w.heap.size + 1 < w4.heap.size := by have := hbw4.size; simp at this; omega
  have q_b0 : w4.cell? ⟨w.heap.size + 1, 0, none⟩ = some (v1) := oldc hbw4 ltT (by simp [go_sem])
  have q_b1 : w4.cell? ⟨w.heap.size + 1, 1, none⟩ = some (v2) := oldc hbw4 ltT (by simp [go_sem])
  clear hbw4 hpw4
  cases r1
  · go_wp2
    go_ret
    exact ⟨ret_bool (by rw [HR.out]; rfl), hBw4⟩
  go_wp2_with fail
  refine (sameInts_b _ _ _ _ _ (ha2.below bwT) (hb2.below bwT) _ H3.out).mono ?_
  rintro e5 w5 ⟨rfl, hbw5⟩
  have hpw5 : Below w4.heap.size w4 w5 := Below.after bwT hbw5 szT
  have sw5 := hpw5.size
  have hBw5 : Below w.heap.size w w5 := Below.trans hBw4 (Below.mono hpw5 hBw4.size)
  have q_a0 := oldc hpw5 l_a q_a0
  have q_a1 := oldc hpw5 l_a q_a1
  have q_b0 := oldc hpw5 l_b q_b0
  have q_b1 := oldc hpw5 l_b q_b1
  have l_a := Nat.lt_of_lt_of_le l_a sw5
  have l_b := Nat.lt_of_lt_of_le l_b sw5
  clear hbw5 hpw5
  go_wp2
  go_ret
  exact ⟨ret_bool (by rw [HR.out]; rfl), hBw5⟩

set_option maxHeartbeats 1000000 in
theorem l6Before_b (h : Rd z lo hi w [u1, u2] a) (h' : Rd z' lo' hi' w [v1, v2] b) (r : Bool) (hr : r = lexC a b) :
    Calls Try.prog 72 #[.agg #[u1, u2], .agg #[v1, v2]] w (PostB w r) := by
  obtain ⟨a1, a2⟩ := a
  obtain ⟨b1, b2⟩ := b
  obtain ⟨ha1, ha2⟩ := h.two rfl
  obtain ⟨hb1, hb2⟩ := h'.two rfl
  dsimp only at ha1 ha2 hb1 hb2
  obtain ⟨r1, hlet_r1⟩ : ∃ r, r = decide (a1 = b1) := ⟨_, rfl⟩
  have H1 := Lib.hid hlet_r1
  clear hlet_r1
  obtain ⟨r2, hlet_r2⟩ : ∃ r, r = lexB a1 b1 := ⟨_, rfl⟩
  have H2 := Lib.hid hlet_r2
  clear hlet_r2
  obtain ⟨r3, hlet_r3⟩ : ∃ r, r = lexB a2 b2 := ⟨_, rfl⟩
  have H3 := Lib.hid hlet_r3
  clear hlet_r3
  have HR := Lib.hid (show r = (r2 || (r1 && r3)) by rw [hr, lexC, H1.out, H2.out, H3.out])
  clear hr h h'
  go_enter Try.func72, Try.ntmps72
  go_wp2_with fail
  refine (l6Less_b _ _ _ _ _ (ha1.below bwT) (hb1.below bwT) _ H2.out).mono ?_
  rintro e6 w6 ⟨rfl, hbw6⟩
  have hpw6 : Below w.heap.size w w6 := Below.after bwT hbw6 szT
  have sw6 := hpw6.size
  have hBw6 : Below w.heap.size w w6 := hpw6
  have l_a : w.heap.size < w6.heap.size := by have := hbw6.size; simp at this; omega
  have q_a0 : w6.cell? ⟨w.heap.size, 0, none⟩ = some (u1) := oldc hbw6 ltT (by simp [go_sem])
  have q_a1 : w6.cell? ⟨w.heap.size, 1, none⟩ = some (u2) := oldc hbw6 ltT (by simp [go_sem])
  have l_b : w.heap.size + 1 < w6.heap.size := by have := hbw6.size; simp at this; omega
  have q_b0 : w6.cell? ⟨w.heap.size + 1, 0, none⟩ = some (v1) := oldc hbw6 ltT (by simp [go_sem])
  have q_b1 : w6.cell? ⟨w.heap.size + 1, 1, none⟩ = some (v2) := oldc hbw6 ltT (by simp [go_sem])
  clear hbw6 hpw6
  cases r2
  · go_wp2_with fail
    refine (l6Equal_b _ _ _ _ _ (ha1.below bwT) (hb1.below bwT) _ H1.out).mono ?_
    rintro e7 w7 ⟨rfl, hbw7⟩
    have hpw7 : Below w6.heap.size w6 w7 := Below.after bwT hbw7 szT
    have sw7 := hpw7.size
    have hBw7 : Below w.heap.size w w7 := Below.trans hBw6 (Below.mono hpw7 hBw6.size)
    have q_a0 := oldc hpw7 l_a q_a0
    have q_a1 := oldc hpw7 l_a q_a1
    have q_b0 := oldc hpw7 l_b q_b0
    have q_b1 := oldc hpw7 l_b q_b1
    have l_a := Nat.lt_of_lt_of_le l_a sw7
    have l_b := Nat.lt_of_lt_of_le l_b sw7
    clear hbw7 hpw7
    cases r1
    · go_wp2
      go_ret
      exact ⟨ret_bool (by rw [HR.out]; rfl), hBw7⟩
    go_wp2_with fail
    refine (l6Less_b _ _ _ _ _ (ha2.below bwT) (hb2.below bwT) _ H3.out).mono ?_
    rintro e8 w8 ⟨rfl, hbw8⟩
    have hpw8 : Below w7.heap.size w7 w8 := Below.after bwT hbw8 szT
    have sw8 := hpw8.size
    have hBw8 : Below w.heap.size w w8 := Below.trans hBw7 (Below.mono hpw8 hBw7.size)
    have q_a0 := oldc hpw8 l_a q_a0
    have q_a1 := oldc hpw8 l_a q_a1
    have q_b0 := oldc hpw8 l_b q_b0
    have q_b1 := oldc hpw8 l_b q_b1
    have l_a := Nat.lt_of_lt_of_le l_a sw8
    have l_b := Nat.lt_of_lt_of_le l_b sw8
    clear hbw8 hpw8
    go_wp2
    go_ret
    exact ⟨ret_bool (by rw [HR.out]; rfl), hBw8⟩
  go_wp2
  go_ret
  exact ⟨ret_bool (by rw [HR.out]; rfl), hBw6⟩
end

end Go.Proofs.Ytlnhhfebmeekhaa
