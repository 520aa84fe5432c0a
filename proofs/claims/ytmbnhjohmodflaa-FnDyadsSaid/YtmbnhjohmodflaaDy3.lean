/- Contracts of the functions on dyads, third part: dyads made; the laws' helpers. -/
import Derived.Test.YtmbnhjohmodflaaDy2
namespace Go.Proofs.Ytmbnhjohmodflaa
set_option linter.unusedVariables false
set_option linter.unusedSimpArgs false
open Go.RowKit

theorem redN_end : ∀ (k : Nat) (n e : Int), e ≤ k → ¬ (0 < (redN k n e).2 ∧ (redN k n e).1 % 2 = 0)
  | 0, n, e, h => fun h2 => by simp only [redN] at h2; omega
  | k + 1, n, e, h => by
    rw [redN]
    by_cases c : 0 < e ∧ n % 2 = 0
    · rw [if_pos c]; exact redN_end k _ _ (by omega)
    · rw [if_neg c]; exact c
theorem red_vld {n e : Int} (h0 : 0 ≤ n) (h1 : n ≤ 1073741824) (h2 : 0 ≤ e) (h3 : e ≤ 30) : vldB (red n e).1 (red n e).2 = true := by
  have a := red_bd n e h0
  have b := redN_end e.toNat n e (by omega)
  have c := a.2.2.2 h2
  unfold red at *
  simp [vldB]
  omega

def dofV (n e : Int) : Bool := decide (0 ≤ n ∧ n ≤ 1073741824) && decide (0 ≤ e ∧ e ≤ 30)
def dofD (n e : Int) : Int × Int := if dofV n e = true then red n e else (0, 0)

set_option maxHeartbeats 1000000 in
theorem dyadOfS_any (n e : Int) (w : World) :
    Calls Try.prog 12 #[.int .i64 n, .int .i64 e] w (PostDB w (dofD n e) (dofV n e)) := by
  obtain ⟨r1, hr1⟩ : ∃ r, r = decide ((0 : Int) ≤ n ∧ n ≤ 1073741824) := ⟨_, rfl⟩
  obtain ⟨r2, hr2⟩ : ∃ r, r = decide ((0 : Int) ≤ e ∧ e ≤ 30) := ⟨_, rfl⟩
  have H1 := Lib.hid hr1
  have H2 := Lib.hid hr2
  have hv : dofV n e = (r1 && r2) := by rw [dofV, hr1, hr2]
  have HD := Lib.hid (show dofD n e = if (r1 && r2) = true then red n e else (0, 0) by rw [dofD, hv])
  rw [hv]
  clear hr1 hr2 hv
  cases r1
  · go_enter Try.func12, Try.ntmps12
    go_wp2_with fail
    refine (l1In_b _ _ _ _ _ H1.out).mono ?_
    rintro e1 w1 ⟨rfl, hb1⟩
    have hB1 : Below w.heap.size w w1 := Below.after (by repeat' (first | (with_reducible exact Below.refl _ _) | (with_reducible assumption) | (with_reducible refine Below.alloc ?_ (by first | omega | (simp; omega) | simp) _) | (with_reducible refine Below.setCell ?_ (by first | omega | (simp; omega) | simp) _) | (with_reducible refine Below.drew ?_) | (with_reducible refine below_drewN ?_ _))) hb1 (by first | omega | (simp only [World.size_alloc, World.size_setCell, World.size_drew] at *; omega) | (simp; omega) | simp); have s1 := hb1.size; try simp only [World.size_alloc, World.size_setCell, World.size_drew] at s1
    have q0 : w1.cell? ⟨w.heap.size, 0, none⟩ = some (.int .i64 0) := oldc hb1 (by first | omega | (simp; omega) | (simp; done)) (by simp [go_sem])
    have q1 : w1.cell? ⟨w.heap.size, 1, none⟩ = some (.int .i64 0) := oldc hb1 (by first | omega | (simp; omega) | (simp; done)) (by simp [go_sem])
    have hf1 : ∀ o, w1.frozen? ⟨w.heap.size, o, none⟩ = false := fun o => (hb1.frozen (p := ⟨w.heap.size, o, none⟩) (by first | omega | (simp; omega) | (simp; done))).trans (by simp [go_sem])
    clear hb1
    go_wp2
    exact bodyPost_ret (v := .tuple #[.agg #[.int .i64 (dofD n e).1, .int .i64 (dofD n e).2], .bool false]) (by rw [HD.out]; simp [results, go_sem, q0, q1]) rfl ⟨rfl, (by repeat' (first | (with_reducible exact Below.refl _ _) | (with_reducible assumption) | (with_reducible refine Below.alloc ?_ (by first | omega | (simp; omega) | simp) _) | (with_reducible refine Below.setCell ?_ (by first | omega | (simp; omega) | simp) _) | (with_reducible refine Below.drew ?_) | (with_reducible refine below_drewN ?_ _)))⟩
  · cases r2
    · go_enter Try.func12, Try.ntmps12
      go_wp2_with fail
      refine (l1In_b _ _ _ _ _ H1.out).mono ?_
      rintro e1 w1 ⟨rfl, hb1⟩
      have hB1 : Below w.heap.size w w1 := Below.after (by repeat' (first | (with_reducible exact Below.refl _ _) | (with_reducible assumption) | (with_reducible refine Below.alloc ?_ (by first | omega | (simp; omega) | simp) _) | (with_reducible refine Below.setCell ?_ (by first | omega | (simp; omega) | simp) _) | (with_reducible refine Below.drew ?_) | (with_reducible refine below_drewN ?_ _))) hb1 (by first | omega | (simp only [World.size_alloc, World.size_setCell, World.size_drew] at *; omega) | (simp; omega) | simp); have s1 := hb1.size; try simp only [World.size_alloc, World.size_setCell, World.size_drew] at s1
      have q0 : w1.cell? ⟨w.heap.size, 0, none⟩ = some (.int .i64 0) := oldc hb1 (by first | omega | (simp; omega) | (simp; done)) (by simp [go_sem])
      have q1 : w1.cell? ⟨w.heap.size, 1, none⟩ = some (.int .i64 0) := oldc hb1 (by first | omega | (simp; omega) | (simp; done)) (by simp [go_sem])
      have l0 : w.heap.size < w1.heap.size := by omega
      have hf1 : ∀ o, w1.frozen? ⟨w.heap.size, o, none⟩ = false := fun o => (hb1.frozen (p := ⟨w.heap.size, o, none⟩) (by first | omega | (simp; omega) | (simp; done))).trans (by simp [go_sem])
      clear hb1
      go_wp2_with fail
      refine (l1In_b _ _ _ _ _ H2.out).mono ?_
      rintro e2 w2 ⟨rfl, hb2⟩
      have hB2 : Below w.heap.size w w2 := hB1.trans (hb2.mono (by omega))
      have q0 := oldc hb2 l0 q0
      have q1 := oldc hb2 l0 q1
      have hf2 : ∀ o, w2.frozen? ⟨w.heap.size, o, none⟩ = false := fun o => (hb2.frozen (p := ⟨w.heap.size, o, none⟩) l0).trans (hf1 o)
      clear hb2
      go_wp2
      exact bodyPost_ret (v := .tuple #[.agg #[.int .i64 (dofD n e).1, .int .i64 (dofD n e).2], .bool false]) (by rw [HD.out]; simp [results, go_sem, q0, q1]) rfl ⟨rfl, (by repeat' (first | (with_reducible exact Below.refl _ _) | (with_reducible assumption) | (with_reducible refine Below.alloc ?_ (by first | omega | (simp; omega) | simp) _) | (with_reducible refine Below.setCell ?_ (by first | omega | (simp; omega) | simp) _) | (with_reducible refine Below.drew ?_) | (with_reducible refine below_drewN ?_ _)))⟩
    · have k1 := of_decide_eq_true H1.out.symm
      have k2 := of_decide_eq_true H2.out.symm
      obtain ⟨k1, k1'⟩ := k1
      obtain ⟨k2, k2'⟩ := k2
      go_enter Try.func12, Try.ntmps12
      go_wp2_with fail
      refine (l1In_b _ _ _ _ _ H1.out).mono ?_
      rintro e1 w1 ⟨rfl, hb1⟩
      have hB1 : Below w.heap.size w w1 := Below.after (by repeat' (first | (with_reducible exact Below.refl _ _) | (with_reducible assumption) | (with_reducible refine Below.alloc ?_ (by first | omega | (simp; omega) | simp) _) | (with_reducible refine Below.setCell ?_ (by first | omega | (simp; omega) | simp) _) | (with_reducible refine Below.drew ?_) | (with_reducible refine below_drewN ?_ _))) hb1 (by first | omega | (simp only [World.size_alloc, World.size_setCell, World.size_drew] at *; omega) | (simp; omega) | simp); have s1 := hb1.size; try simp only [World.size_alloc, World.size_setCell, World.size_drew] at s1
      have q0 : w1.cell? ⟨w.heap.size, 0, none⟩ = some (.int .i64 0) := oldc hb1 (by first | omega | (simp; omega) | (simp; done)) (by simp [go_sem])
      have q1 : w1.cell? ⟨w.heap.size, 1, none⟩ = some (.int .i64 0) := oldc hb1 (by first | omega | (simp; omega) | (simp; done)) (by simp [go_sem])
      have l0 : w.heap.size < w1.heap.size := by omega
      have hf1 : ∀ o, w1.frozen? ⟨w.heap.size, o, none⟩ = false := fun o => (hb1.frozen (p := ⟨w.heap.size, o, none⟩) (by first | omega | (simp; omega) | (simp; done))).trans (by simp [go_sem])
      clear hb1
      go_wp2_with fail
      refine (l1In_b _ _ _ _ _ H2.out).mono ?_
      rintro e2 w2 ⟨rfl, hb2⟩
      have hB2 : Below w.heap.size w w2 := hB1.trans (hb2.mono (by omega))
      have q0 := oldc hb2 l0 q0
      have q1 := oldc hb2 l0 q1
      have s2 := hb2.size
      have l2 : w.heap.size < w2.heap.size := by omega
      have hf2 : ∀ o, w2.frozen? ⟨w.heap.size, o, none⟩ = false := fun o => (hb2.frozen (p := ⟨w.heap.size, o, none⟩) l0).trans (hf1 o)
      clear hb2
      go_wp2_with fail
      refine (l8Reduce_any _ _ _ (by omega) (by omega) (by omega) (by omega)).mono ?_
      rintro e3 w3 ⟨rfl, hb3⟩
      have hB3 : Below w.heap.size w w3 := hB2.trans (hb3.mono (by omega))
      have q0 := oldc hb3 l2 q0
      have q1 := oldc hb3 l2 q1
      have hf3 : ∀ o, w3.frozen? ⟨w.heap.size, o, none⟩ = false := fun o => (hb3.frozen (p := ⟨w.heap.size, o, none⟩) l2).trans (hf2 o)
      clear hb3
      go_wp2
      exact bodyPost_ret (v := .tuple #[.agg #[.int .i64 (dofD n e).1, .int .i64 (dofD n e).2], .bool true]) (by rw [HD.out]; simp [results, go_sem, q0, q1]) rfl ⟨rfl, (by repeat' (first | (with_reducible exact Below.refl _ _) | (with_reducible assumption) | (with_reducible refine Below.alloc ?_ (by first | omega | (simp; omega) | simp) _) | (with_reducible refine Below.setCell ?_ (by first | omega | (simp; omega) | simp) _) | (with_reducible refine Below.drew ?_) | (with_reducible refine below_drewN ?_ _)))⟩

set_option maxHeartbeats 1000000 in
theorem dyadOfI_any (n e : Int) (w : World) :
    Calls Try.prog 9 #[.int .i64 n, .int .i64 e] w (PostDB w (dofD n e) (dofV n e)) := by
  by_cases c1 : 0 ≤ n
  · by_cases c2 : n ≤ 1073741824
    · by_cases c3 : 0 ≤ e
      · by_cases c4 : e ≤ 30
        · have hv : dofV n e = true := by simp [dofV, c1, c2, c3, c4]
          have HD := Lib.hid (show dofD n e = red n e by rw [dofD, if_pos hv])
          rw [hv]
          have HV := Lib.hid (show true = vldB (dofD n e).1 (dofD n e).2 by rw [HD.out, red_vld c1 c2 c3 c4])
          clear hv
          go_enter Try.func9, Try.ntmps9
          go_wp2_with fail
          refine (dyadOf_b _ _ _ c1 (by omega) (by omega) (by omega) _ HD.out _ HV.out).mono ?_
          rintro e1 w1 ⟨rfl, hb1⟩
          have hB1 : Below w.heap.size w w1 := Below.after (by repeat' (first | (with_reducible exact Below.refl _ _) | (with_reducible assumption) | (with_reducible refine Below.alloc ?_ (by first | omega | (simp; omega) | simp) _) | (with_reducible refine Below.setCell ?_ (by first | omega | (simp; omega) | simp) _) | (with_reducible refine Below.drew ?_) | (with_reducible refine below_drewN ?_ _))) hb1 (by first | omega | (simp only [World.size_alloc, World.size_setCell, World.size_drew] at *; omega) | (simp; omega) | simp); have s1 := hb1.size; try simp only [World.size_alloc, World.size_setCell, World.size_drew] at s1
          have q0 : w1.cell? ⟨w.heap.size, 0, none⟩ = some (.int .i64 0) := oldc hb1 (by first | omega | (simp; omega) | (simp; done)) (by simp [go_sem])
          have q1 : w1.cell? ⟨w.heap.size, 1, none⟩ = some (.int .i64 0) := oldc hb1 (by first | omega | (simp; omega) | (simp; done)) (by simp [go_sem])
          have hf1 : ∀ o, w1.frozen? ⟨w.heap.size, o, none⟩ = false := fun o => (hb1.frozen (p := ⟨w.heap.size, o, none⟩) (by first | omega | (simp; omega) | (simp; done))).trans (by simp [go_sem])
          clear hb1
          go_wp2
          exact bodyPost_ret (v := .tuple #[.agg #[.int .i64 (dofD n e).1, .int .i64 (dofD n e).2], .bool true]) (by simp [results, go_sem, q0, q1]) rfl ⟨rfl, (by repeat' (first | (with_reducible exact Below.refl _ _) | (with_reducible assumption) | (with_reducible refine Below.alloc ?_ (by first | omega | (simp; omega) | simp) _) | (with_reducible refine Below.setCell ?_ (by first | omega | (simp; omega) | simp) _) | (with_reducible refine Below.drew ?_) | (with_reducible refine below_drewN ?_ _)))⟩
        · have hv : dofV n e = false := by simp [dofV, c4]
          have HD := Lib.hid (show dofD n e = (0, 0) by rw [dofD, hv]; rfl)
          rw [hv]
          clear hv
          go_enter Try.func9, Try.ntmps9
          go_wp2
          exact bodyPost_ret (v := .tuple #[.agg #[.int .i64 (dofD n e).1, .int .i64 (dofD n e).2], .bool false]) (by rw [HD.out]; simp [results, go_sem]) rfl ⟨rfl, (by repeat' (first | (with_reducible exact Below.refl _ _) | (with_reducible assumption) | (with_reducible refine Below.alloc ?_ (by first | omega | (simp; omega) | simp) _) | (with_reducible refine Below.setCell ?_ (by first | omega | (simp; omega) | simp) _) | (with_reducible refine Below.drew ?_) | (with_reducible refine below_drewN ?_ _)))⟩
      · have hv : dofV n e = false := by simp [dofV, c3]
        have HD := Lib.hid (show dofD n e = (0, 0) by rw [dofD, hv]; rfl)
        rw [hv]
        clear hv
        go_enter Try.func9, Try.ntmps9
        go_wp2
        exact bodyPost_ret (v := .tuple #[.agg #[.int .i64 (dofD n e).1, .int .i64 (dofD n e).2], .bool false]) (by rw [HD.out]; simp [results, go_sem]) rfl ⟨rfl, (by repeat' (first | (with_reducible exact Below.refl _ _) | (with_reducible assumption) | (with_reducible refine Below.alloc ?_ (by first | omega | (simp; omega) | simp) _) | (with_reducible refine Below.setCell ?_ (by first | omega | (simp; omega) | simp) _) | (with_reducible refine Below.drew ?_) | (with_reducible refine below_drewN ?_ _)))⟩
    · have hv : dofV n e = false := by simp [dofV, c2]
      have HD := Lib.hid (show dofD n e = (0, 0) by rw [dofD, hv]; rfl)
      rw [hv]
      clear hv
      go_enter Try.func9, Try.ntmps9
      go_wp2
      exact bodyPost_ret (v := .tuple #[.agg #[.int .i64 (dofD n e).1, .int .i64 (dofD n e).2], .bool false]) (by rw [HD.out]; simp [results, go_sem]) rfl ⟨rfl, (by repeat' (first | (with_reducible exact Below.refl _ _) | (with_reducible assumption) | (with_reducible refine Below.alloc ?_ (by first | omega | (simp; omega) | simp) _) | (with_reducible refine Below.setCell ?_ (by first | omega | (simp; omega) | simp) _) | (with_reducible refine Below.drew ?_) | (with_reducible refine below_drewN ?_ _)))⟩
  · have hv : dofV n e = false := by simp [dofV, c1]
    have HD := Lib.hid (show dofD n e = (0, 0) by rw [dofD, hv]; rfl)
    rw [hv]
    clear hv
    go_enter Try.func9, Try.ntmps9
    go_wp2
    exact bodyPost_ret (v := .tuple #[.agg #[.int .i64 (dofD n e).1, .int .i64 (dofD n e).2], .bool false]) (by rw [HD.out]; simp [results, go_sem]) rfl ⟨rfl, (by repeat' (first | (with_reducible exact Below.refl _ _) | (with_reducible assumption) | (with_reducible refine Below.alloc ?_ (by first | omega | (simp; omega) | simp) _) | (with_reducible refine Below.setCell ?_ (by first | omega | (simp; omega) | simp) _) | (with_reducible refine Below.drew ?_) | (with_reducible refine below_drewN ?_ _)))⟩

theorem eqDyad_same (n e : Int) (w : World) :
    Calls Try.prog 13 #[.agg #[.int .i64 n, .int .i64 e], .agg #[.int .i64 n, .int .i64 e]] w (PostB w true) := by
  have h1 : (n != n) = false := by simp
  have h2 : (e != e) = false := by simp
  go_enter Try.func13, Try.ntmps13
  go_wp2
  go_ret
  exact ⟨rfl, (by repeat' (first | (with_reducible exact Below.refl _ _) | (with_reducible assumption) | (with_reducible refine Below.alloc ?_ (by first | omega | (simp; omega) | simp) _) | (with_reducible refine Below.setCell ?_ (by first | omega | (simp; omega) | simp) _) | (with_reducible refine Below.drew ?_) | (with_reducible refine below_drewN ?_ _)))⟩
theorem toDyad_any (n e : Int) (w : World) :
    Calls Try.prog 19 #[.agg #[.int .i64 n, .int .i64 e]] w (PostD w (n, e)) := by
  go_enter Try.func19, Try.ntmps19
  go_wp2
  exact bodyPost_ret (v := .agg #[.int .i64 n, .int .i64 e]) (by simp [results, go_sem]) rfl ⟨rfl, (by repeat' (first | (with_reducible exact Below.refl _ _) | (with_reducible assumption) | (with_reducible refine Below.alloc ?_ (by first | omega | (simp; omega) | simp) _) | (with_reducible refine Below.setCell ?_ (by first | omega | (simp; omega) | simp) _) | (with_reducible refine Below.drew ?_) | (with_reducible refine below_drewN ?_ _)))⟩
end Go.Proofs.Ytmbnhjohmodflaa
