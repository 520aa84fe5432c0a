/- Contracts of the functions on dyads, second part: sums. -/
import Derived.Test.YtmbnhjohmodflaaDy
namespace Go.Proofs.Ytmbnhjohmodflaa
set_option linter.unusedVariables false
set_option linter.unusedSimpArgs false
open Go.RowKit

theorem vldB_of {n e : Int} (h : vldB n e = true) : 0 ≤ n ∧ n ≤ 1073741824 ∧ 0 ≤ e ∧ e ≤ 30 := by simp [vldB] at h; omega

theorem addR_bd {an ae bn be : Int} (ha : vldB an ae = true) (hb : vldB bn be = true) : 0 ≤ sumN an ae bn be ∧ sumN an ae bn be ≤ 2305843009213693952 := by
  have h1 := vldB_of ha
  have h2 := vldB_of hb
  have m1 := mulp_bd h1.1 h1.2.1 (k := (be - ae).toNat) (by omega)
  have m2 := mulp_bd h2.1 h2.2.1 (k := (ae - be).toNat) (by omega)
  unfold sumN
  omega

set_option maxHeartbeats 2000000 in
theorem l8Add_any (an ae bn be : Int) (w : World) (ha : vldB an ae = true) (hb : vldB bn be = true) :
    Calls Try.prog 35 #[.agg #[.int .i64 an, .int .i64 ae], .agg #[.int .i64 bn, .int .i64 be]] w (PostD w (addR an ae bn be)) := by
  obtain ⟨a1, a2, a3, a4⟩ := vldB_of ha
  obtain ⟨b1, b2, b3, b4⟩ := vldB_of hb
  have HS := Lib.hid (addR_bd ha hb)
  clear ha hb
  go_enter Try.func35, Try.ntmps35
  go_wp2
  go_loopg [5] ((be - ae).toNat + 1) (fun g _ wr => ∃ k : Nat, k ≤ (be - ae).toNat ∧ g = (be - ae).toNat + 1 - k ∧ wr = ((w.alloc (.cells #[.int .i64 (an * 2 ^ k), .int .i64 (ae + k)] 25)).alloc (.cells #[.int .i64 (bn), .int .i64 (be)] 25)).alloc (.cells #[.int .i64 0, .int .i64 0] 25))
  case atStart => exact ⟨0, Nat.zero_le _, by omega, by simp⟩
  case round =>
    obtain ⟨k, hk, hg, rfl⟩ := hrel
    have HG := Lib.hid hg
    clear hg
    have m1 := mulp_bd a1 a2 (k := k) (by omega)
    by_cases hc : ae + k < be
    · have m2 := mulp_bd a1 a2 (k := k + 1) (by omega)
      have HP := Lib.hid (pow_step an k)
      have m4 : 0 ≤ 2 * (an * 2 ^ k) ∧ 2 * (an * 2 ^ k) ≤ 1152921504606846976 := by rw [HP.out]; exact m2
      obtain ⟨m5, m6⟩ := m4
      have HK : Hid (k + 1 ≤ (be - ae).toNat) := show k + 1 ≤ (be - ae).toNat by omega
      clear m2 hk
      go_wp2
      go_roundg ((be - ae).toNat + 1 - (k + 1))
      case rel => exact ⟨k + 1, HK.out, rfl, by rw [← HP.out]; have e : ae + ((k + 1 : Nat) : Int) = ae + k + 1 := by omega
                                                rw [e]⟩
      case measure => have := HG.out; have := HK.out; omega
    · have hk' : k = (be - ae).toNat := by omega
      subst hk'
      clear HG hk m1
      obtain ⟨A, hA⟩ : ∃ A, A = an * 2 ^ (be - ae).toNat := ⟨_, rfl⟩
      obtain ⟨E, hE⟩ : ∃ E, E = ae + ((be - ae).toNat : Int) := ⟨_, rfl⟩
      have HA := Lib.hid hA
      have HE := Lib.hid hE
      rw [← hA, ← hE]
      have hA2 := mulp_bd a1 a2 (k := (be - ae).toNat) (by omega)
      rw [← hA] at hA2
      have hE1 : 0 ≤ E ∧ E ≤ 60 ∧ be ≤ E := by omega
      obtain ⟨hE1, hE2, hE3⟩ := hE1
      obtain ⟨hA3, hA4⟩ := hA2
      have HME := Lib.hid (show max ae be = E by omega)
      have HKE := Lib.hid (show (E - be).toNat = (ae - be).toNat by omega)
      clear hA hE hc
      go_wp2
      go_loopg [17] ((E - be).toNat + 1) (fun g _ wr => ∃ k : Nat, k ≤ (E - be).toNat ∧ g = (E - be).toNat + 1 - k ∧ wr = ((w.alloc (.cells #[.int .i64 (A), .int .i64 (E)] 25)).alloc (.cells #[.int .i64 (bn * 2 ^ k), .int .i64 (be + k)] 25)).alloc (.cells #[.int .i64 0, .int .i64 0] 25))
      case atStart => exact ⟨0, Nat.zero_le _, by omega, by simp⟩
      case round =>
        obtain ⟨k, hk, hg, rfl⟩ := hrel
        have HG := Lib.hid hg
        clear hg
        have hk30 : k ≤ 30 := by have := HKE.out; omega
        have m1 := mulp_bd b1 b2 (k := k) hk30
        by_cases hc : be + k < E
        · have m2 := mulp_bd b1 b2 (k := k + 1) (by have := HKE.out; omega)
          have HP := Lib.hid (pow_step bn k)
          have m4 : 0 ≤ 2 * (bn * 2 ^ k) ∧ 2 * (bn * 2 ^ k) ≤ 1152921504606846976 := by rw [HP.out]; exact m2
          obtain ⟨m5, m6⟩ := m4
          have HK : Hid (k + 1 ≤ (E - be).toNat) := show k + 1 ≤ (E - be).toNat by omega
          clear m2 hk
          go_wp2
          go_roundg ((E - be).toNat + 1 - (k + 1))
          case rel => exact ⟨k + 1, HK.out, rfl, by rw [← HP.out]; have e : be + ((k + 1 : Nat) : Int) = be + k + 1 := by omega
                                                    rw [e]⟩
          case measure => have := HG.out; have := HK.out; omega
        · have hk' : k = (E - be).toNat := by omega
          subst hk'
          have HSUM := Lib.hid (show sumN an ae bn be = A + bn * 2 ^ (E - be).toNat by rw [sumN, HA.out, HKE.out])
          have hS := HS.out
          rw [HSUM.out] at hS
          obtain ⟨hS1, hS2⟩ := hS
          have HR := Lib.hid (show addR an ae bn be = red (A + bn * 2 ^ (E - be).toNat) E by rw [addR, HSUM.out, HME.out])
          clear HG hk HKE hk30
          go_wp2_with fail
          refine (l8Reduce_any _ _ _ (by omega) (by omega) (by omega) (by omega)).mono ?_
          rintro e w1 ⟨rfl, hb1⟩
          have hB1 : Below w.heap.size w w1 := Below.after (by repeat' (first | (with_reducible exact Below.refl _ _) | (with_reducible assumption) | (with_reducible refine Below.alloc ?_ (by first | omega | (simp; omega) | simp) _) | (with_reducible refine Below.setCell ?_ (by first | omega | (simp; omega) | simp) _) | (with_reducible refine Below.drew ?_) | (with_reducible refine below_drewN ?_ _))) hb1 (by first | omega | (simp only [World.size_alloc, World.size_setCell, World.size_drew] at *; omega) | (simp; omega) | simp); have s1 := hb1.size; try simp only [World.size_alloc, World.size_setCell, World.size_drew] at s1
          have q0 : w1.cell? ⟨w.heap.size + 1 + 1, 0, none⟩ = some (.int .i64 0) := oldc hb1 (by first | omega | (simp; omega) | (simp; done)) (by simp [go_sem])
          have q1 : w1.cell? ⟨w.heap.size + 1 + 1, 1, none⟩ = some (.int .i64 0) := oldc hb1 (by first | omega | (simp; omega) | (simp; done)) (by simp [go_sem])
          obtain ⟨hc1, hf1⟩ := bcell hb1
          have l2 : w.heap.size + 1 + 1 < w1.heap.size := by omega
          simp only [World.size_alloc] at hf1
          go_wp2
          exact bodyPost_ret (v := .agg #[.int .i64 (addR an ae bn be).1, .int .i64 (addR an ae bn be).2]) (by rw [HR.out]; simp [results, go_sem, q0, q1]) rfl ⟨rfl, (by repeat' (first | (with_reducible exact Below.refl _ _) | (with_reducible assumption) | (with_reducible refine Below.alloc ?_ (by first | omega | (simp; omega) | simp) _) | (with_reducible refine Below.setCell ?_ (by first | omega | (simp; omega) | simp) _) | (with_reducible refine Below.drew ?_) | (with_reducible refine below_drewN ?_ _)))⟩

/-- What the sum of two dyads comes to: the sum, if both are dyads and it is one; else nothing. -/
def addV (an ae bn be : Int) : Bool := vldB an ae && vldB bn be && vldB (addR an ae bn be).1 (addR an ae bn be).2
def addD (an ae bn be : Int) : Int × Int := if addV an ae bn be = true then addR an ae bn be else (0, 0)

set_option maxHeartbeats 2000000 in
theorem addS_any (an ae bn be : Int) (w : World) :
    Calls Try.prog 18 #[.agg #[.int .i64 an, .int .i64 ae], .agg #[.int .i64 bn, .int .i64 be]] w (PostDB w (addD an ae bn be) (addV an ae bn be)) := by
  obtain ⟨r1, hr1⟩ : ∃ r, r = vldB an ae := ⟨_, rfl⟩
  obtain ⟨r2, hr2⟩ : ∃ r, r = vldB bn be := ⟨_, rfl⟩
  obtain ⟨r3, hr3⟩ : ∃ r, r = vldB (addR an ae bn be).1 (addR an ae bn be).2 := ⟨_, rfl⟩
  have H1 := Lib.hid hr1
  have H2 := Lib.hid hr2
  have H3 := Lib.hid hr3
  have hv : addV an ae bn be = (r1 && r2 && r3) := by rw [addV, hr1, hr2, hr3]
  have HD := Lib.hid (show addD an ae bn be = if (r1 && r2 && r3) = true then addR an ae bn be else (0, 0) by rw [addD, hv])
  rw [hv]
  clear hr1 hr2 hr3 hv
  cases r1
  · go_enter Try.func18, Try.ntmps18
    go_wp2_with fail
    refine (l8Valid_b _ _ _ _ H1.out).mono ?_
    rintro e w1 ⟨rfl, hb1⟩
    have hB1 : Below w.heap.size w w1 := Below.after (by repeat' (first | (with_reducible exact Below.refl _ _) | (with_reducible assumption) | (with_reducible refine Below.alloc ?_ (by first | omega | (simp; omega) | simp) _) | (with_reducible refine Below.setCell ?_ (by first | omega | (simp; omega) | simp) _) | (with_reducible refine Below.drew ?_) | (with_reducible refine below_drewN ?_ _))) hb1 (by first | omega | (simp only [World.size_alloc, World.size_setCell, World.size_drew] at *; omega) | (simp; omega) | simp); have s1 := hb1.size; try simp only [World.size_alloc, World.size_setCell, World.size_drew] at s1
    have q0 : w1.cell? ⟨w.heap.size + 1 + 1, 0, none⟩ = some (.int .i64 0) := oldc hb1 (by first | omega | (simp; omega) | (simp; done)) (by simp [go_sem])
    have q1 : w1.cell? ⟨w.heap.size + 1 + 1, 1, none⟩ = some (.int .i64 0) := oldc hb1 (by first | omega | (simp; omega) | (simp; done)) (by simp [go_sem])
    obtain ⟨hc1, hf1⟩ := bcell hb1
    have l2 : w.heap.size + 1 + 1 < w1.heap.size := by omega
    simp only [World.size_alloc] at hf1
    go_wp2
    exact bodyPost_ret (v := .tuple #[.agg #[.int .i64 (addD an ae bn be).1, .int .i64 (addD an ae bn be).2], .bool false]) (by rw [HD.out]; simp [results, go_sem, q0, q1]) rfl ⟨rfl, (by repeat' (first | (with_reducible exact Below.refl _ _) | (with_reducible assumption) | (with_reducible refine Below.alloc ?_ (by first | omega | (simp; omega) | simp) _) | (with_reducible refine Below.setCell ?_ (by first | omega | (simp; omega) | simp) _) | (with_reducible refine Below.drew ?_) | (with_reducible refine below_drewN ?_ _)))⟩
  · cases r2
    · go_enter Try.func18, Try.ntmps18
      go_wp2_with fail
      refine (l8Valid_b _ _ _ _ H1.out).mono ?_
      rintro e w1 ⟨rfl, hb1⟩
      have hB1 : Below w.heap.size w w1 := Below.after (by repeat' (first | (with_reducible exact Below.refl _ _) | (with_reducible assumption) | (with_reducible refine Below.alloc ?_ (by first | omega | (simp; omega) | simp) _) | (with_reducible refine Below.setCell ?_ (by first | omega | (simp; omega) | simp) _) | (with_reducible refine Below.drew ?_) | (with_reducible refine below_drewN ?_ _))) hb1 (by first | omega | (simp only [World.size_alloc, World.size_setCell, World.size_drew] at *; omega) | (simp; omega) | simp); have s1 := hb1.size; try simp only [World.size_alloc, World.size_setCell, World.size_drew] at s1
      have q0 : w1.cell? ⟨w.heap.size + 1 + 1, 0, none⟩ = some (.int .i64 0) := oldc hb1 (by first | omega | (simp; omega) | (simp; done)) (by simp [go_sem])
      have q1 : w1.cell? ⟨w.heap.size + 1 + 1, 1, none⟩ = some (.int .i64 0) := oldc hb1 (by first | omega | (simp; omega) | (simp; done)) (by simp [go_sem])
      have q2 : w1.cell? ⟨w.heap.size + 1, 0, none⟩ = some (.int .i64 bn) := oldc hb1 (by first | omega | (simp; omega) | (simp; done)) (by simp [go_sem])
      have q3 : w1.cell? ⟨w.heap.size + 1, 1, none⟩ = some (.int .i64 be) := oldc hb1 (by first | omega | (simp; omega) | (simp; done)) (by simp [go_sem])
      have l2 : w.heap.size + 1 + 1 < w1.heap.size := by omega
      have hf1 : ∀ o, w1.frozen? ⟨w.heap.size + 1 + 1, o, none⟩ = false := fun o => (hb1.frozen (p := ⟨w.heap.size + 1 + 1, o, none⟩) (by simp [go_sem])).trans (by simp [go_sem])
      clear hb1
      go_wp2_with fail
      refine (l8Valid_b _ _ _ _ H2.out).mono ?_
      rintro e w2 ⟨rfl, hb2⟩
      have hB2 : Below w.heap.size w w2 := hB1.trans (hb2.mono (by omega))
      have q0 := oldc hb2 l2 q0
      have q1 := oldc hb2 l2 q1
      have hf2 : ∀ o, w2.frozen? ⟨w.heap.size + 1 + 1, o, none⟩ = false := fun o => (hb2.frozen (p := ⟨w.heap.size + 1 + 1, o, none⟩) l2).trans (hf1 o)
      go_wp2
      exact bodyPost_ret (v := .tuple #[.agg #[.int .i64 (addD an ae bn be).1, .int .i64 (addD an ae bn be).2], .bool false]) (by rw [HD.out]; simp [results, go_sem, q0, q1]) rfl ⟨rfl, (by repeat' (first | (with_reducible exact Below.refl _ _) | (with_reducible assumption) | (with_reducible refine Below.alloc ?_ (by first | omega | (simp; omega) | simp) _) | (with_reducible refine Below.setCell ?_ (by first | omega | (simp; omega) | simp) _) | (with_reducible refine Below.drew ?_) | (with_reducible refine below_drewN ?_ _)))⟩
    · go_enter Try.func18, Try.ntmps18
      go_wp2_with fail
      refine (l8Valid_b _ _ _ _ H1.out).mono ?_
      rintro e w1 ⟨rfl, hb1⟩
      have hB1 : Below w.heap.size w w1 := Below.after (by repeat' (first | (with_reducible exact Below.refl _ _) | (with_reducible assumption) | (with_reducible refine Below.alloc ?_ (by first | omega | (simp; omega) | simp) _) | (with_reducible refine Below.setCell ?_ (by first | omega | (simp; omega) | simp) _) | (with_reducible refine Below.drew ?_) | (with_reducible refine below_drewN ?_ _))) hb1 (by first | omega | (simp only [World.size_alloc, World.size_setCell, World.size_drew] at *; omega) | (simp; omega) | simp); have s1 := hb1.size; try simp only [World.size_alloc, World.size_setCell, World.size_drew] at s1
      have q0 : w1.cell? ⟨w.heap.size + 1 + 1, 0, none⟩ = some (.int .i64 0) := oldc hb1 (by first | omega | (simp; omega) | (simp; done)) (by simp [go_sem])
      have q1 : w1.cell? ⟨w.heap.size + 1 + 1, 1, none⟩ = some (.int .i64 0) := oldc hb1 (by first | omega | (simp; omega) | (simp; done)) (by simp [go_sem])
      have q2 : w1.cell? ⟨w.heap.size + 1, 0, none⟩ = some (.int .i64 bn) := oldc hb1 (by first | omega | (simp; omega) | (simp; done)) (by simp [go_sem])
      have q3 : w1.cell? ⟨w.heap.size + 1, 1, none⟩ = some (.int .i64 be) := oldc hb1 (by first | omega | (simp; omega) | (simp; done)) (by simp [go_sem])
      have q4 : w1.cell? ⟨w.heap.size, 0, none⟩ = some (.int .i64 an) := oldc hb1 (by first | omega | (simp; omega) | (simp; done)) (by simp [go_sem])
      have q5 : w1.cell? ⟨w.heap.size, 1, none⟩ = some (.int .i64 ae) := oldc hb1 (by first | omega | (simp; omega) | (simp; done)) (by simp [go_sem])
      have l0 : w.heap.size < w1.heap.size := by omega
      have l1 : w.heap.size + 1 < w1.heap.size := by omega
      have l2 : w.heap.size + 1 + 1 < w1.heap.size := by omega
      have hf1 : ∀ o, w1.frozen? ⟨w.heap.size + 1 + 1, o, none⟩ = false := fun o => (hb1.frozen (p := ⟨w.heap.size + 1 + 1, o, none⟩) (by simp [go_sem])).trans (by simp [go_sem])
      clear hb1
      go_wp2_with fail
      refine (l8Valid_b _ _ _ _ H2.out).mono ?_
      rintro e w2 ⟨rfl, hb2⟩
      have hB2 : Below w.heap.size w w2 := hB1.trans (hb2.mono (by omega))
      have q0 := oldc hb2 l2 q0
      have q1 := oldc hb2 l2 q1
      have q2 := oldc hb2 l1 q2
      have q3 := oldc hb2 l1 q3
      have q4 := oldc hb2 l0 q4
      have q5 := oldc hb2 l0 q5
      have s2 := hb2.size
      have l2 : w.heap.size + 1 + 1 < w2.heap.size := by omega
      have hf2 : ∀ o, w2.frozen? ⟨w.heap.size + 1 + 1, o, none⟩ = false := fun o => (hb2.frozen (p := ⟨w.heap.size + 1 + 1, o, none⟩) (by omega)).trans (hf1 o)
      clear hb2 hf1
      go_wp2_with fail
      refine (l8Add_any _ _ _ _ _ H1.out.symm H2.out.symm).mono ?_
      rintro e w3 ⟨rfl, hb3⟩
      have hB3 : Below w.heap.size w w3 := hB2.trans (hb3.mono (by omega))
      have q0 := oldc hb3 l2 q0
      have q1 := oldc hb3 l2 q1
      have s3 := hb3.size
      have l3 : w.heap.size + 1 + 1 < w3.heap.size := by omega
      have hf3 : ∀ o, w3.frozen? ⟨w.heap.size + 1 + 1, o, none⟩ = false := fun o => (hb3.frozen (p := ⟨w.heap.size + 1 + 1, o, none⟩) (by omega)).trans (hf2 o)
      clear hb3 hf2
      go_wp2_with fail
      refine (l8Valid_b _ _ _ _ H3.out).mono ?_
      rintro e w4 ⟨rfl, hb4⟩
      have hp4 : Below w3.heap.size w3 w4 := Below.after (by repeat' (first | (with_reducible exact Below.refl _ _) | (with_reducible assumption) | (with_reducible refine Below.alloc ?_ (by first | omega | (simp; omega) | simp) _) | (with_reducible refine Below.setCell ?_ (by first | omega | (simp; omega) | simp) _) | (with_reducible refine Below.drew ?_) | (with_reducible refine below_drewN ?_ _))) hb4 (by first | omega | (simp only [World.size_alloc, World.size_setCell, World.size_drew] at *; omega) | (simp; omega) | simp)
      have hB4 : Below w.heap.size w w4 := hB3.trans (hp4.mono (by omega))
      have q0 := oldc hp4 l3 q0
      have q1 := oldc hp4 l3 q1
      have p0 : w4.cell? ⟨w3.heap.size, 0, none⟩ = some (.int .i64 (addR an ae bn be).1) := oldc hb4 (by first | omega | (simp; omega) | (simp; done)) (by simp [go_sem])
      have p1 : w4.cell? ⟨w3.heap.size, 1, none⟩ = some (.int .i64 (addR an ae bn be).2) := oldc hb4 (by first | omega | (simp; omega) | (simp; done)) (by simp [go_sem])
      have hf4 : ∀ o, w4.frozen? ⟨w.heap.size + 1 + 1, o, none⟩ = false := fun o => (hp4.frozen (p := ⟨w.heap.size + 1 + 1, o, none⟩) l3).trans (hf3 o)
      clear hb4 hp4 hf3
      cases r3
      · go_wp2
        exact bodyPost_ret (v := .tuple #[.agg #[.int .i64 (addD an ae bn be).1, .int .i64 (addD an ae bn be).2], .bool false]) (by rw [HD.out]; simp [results, go_sem, q0, q1]) rfl ⟨rfl, (by repeat' (first | (with_reducible exact Below.refl _ _) | (with_reducible assumption) | (with_reducible refine Below.alloc ?_ (by first | omega | (simp; omega) | simp) _) | (with_reducible refine Below.setCell ?_ (by first | omega | (simp; omega) | simp) _) | (with_reducible refine Below.drew ?_) | (with_reducible refine below_drewN ?_ _)))⟩
      · go_wp2
        exact bodyPost_ret (v := .tuple #[.agg #[.int .i64 (addD an ae bn be).1, .int .i64 (addD an ae bn be).2], .bool true]) (by rw [HD.out]; simp [results, go_sem, q0, q1]) rfl ⟨rfl, (by repeat' (first | (with_reducible exact Below.refl _ _) | (with_reducible assumption) | (with_reducible refine Below.alloc ?_ (by first | omega | (simp; omega) | simp) _) | (with_reducible refine Below.setCell ?_ (by first | omega | (simp; omega) | simp) _) | (with_reducible refine Below.drew ?_) | (with_reducible refine below_drewN ?_ _)))⟩

theorem dyadOf_b (n e : Int) (w : World) (h0 : 0 ≤ n) (h1 : n ≤ 9223372036854775807) (he : -9223372036854775808 ≤ e) (he' : e ≤ 9223372036854775807) (d : Int × Int) (hd : d = red n e) (r : Bool) (hr : r = vldB d.1 d.2) :
    Calls Try.prog 29 #[.int .i64 n, .int .i64 e] w (PostDB w d r) := by subst hd; subst hr; exact dyadOf_any n e w h0 h1 he he'

set_option maxHeartbeats 2000000 in
theorem addI_any (an ae bn be : Int) (w : World) :
    Calls Try.prog 11 #[.agg #[.int .i64 an, .int .i64 ae], .agg #[.int .i64 bn, .int .i64 be]] w (PostDB w (addD an ae bn be) (addV an ae bn be)) := by
  obtain ⟨r1, hr1⟩ : ∃ r, r = vldB an ae := ⟨_, rfl⟩
  obtain ⟨r2, hr2⟩ : ∃ r, r = vldB bn be := ⟨_, rfl⟩
  obtain ⟨r3, hr3⟩ : ∃ r, r = vldB (addR an ae bn be).1 (addR an ae bn be).2 := ⟨_, rfl⟩
  have H1 := Lib.hid hr1
  have H2 := Lib.hid hr2
  have H3 := Lib.hid hr3
  have hv : addV an ae bn be = (r1 && r2 && r3) := by rw [addV, hr1, hr2, hr3]
  have HD := Lib.hid (show addD an ae bn be = if (r1 && r2 && r3) = true then addR an ae bn be else (0, 0) by rw [addD, hv])
  rw [hv]
  clear hr1 hr2 hr3 hv
  cases r1
  · go_enter Try.func11, Try.ntmps11
    go_wp2_with fail
    refine (isDyad_b _ _ _ _ H1.out).mono ?_
    rintro e w1 ⟨rfl, hb1⟩
    have hB1 : Below w.heap.size w w1 := Below.after (by repeat' (first | (with_reducible exact Below.refl _ _) | (with_reducible assumption) | (with_reducible refine Below.alloc ?_ (by first | omega | (simp; omega) | simp) _) | (with_reducible refine Below.setCell ?_ (by first | omega | (simp; omega) | simp) _) | (with_reducible refine Below.drew ?_) | (with_reducible refine below_drewN ?_ _))) hb1 (by first | omega | (simp only [World.size_alloc, World.size_setCell, World.size_drew] at *; omega) | (simp; omega) | simp); have s1 := hb1.size; try simp only [World.size_alloc, World.size_setCell, World.size_drew] at s1
    have q0 : w1.cell? ⟨w.heap.size + 1 + 1, 0, none⟩ = some (.int .i64 0) := oldc hb1 (by first | omega | (simp; omega) | (simp; done)) (by simp [go_sem])
    have q1 : w1.cell? ⟨w.heap.size + 1 + 1, 1, none⟩ = some (.int .i64 0) := oldc hb1 (by first | omega | (simp; omega) | (simp; done)) (by simp [go_sem])
    have l2 : w.heap.size + 1 + 1 < w1.heap.size := by omega
    have hf1 : ∀ o, w1.frozen? ⟨w.heap.size + 1 + 1, o, none⟩ = false := fun o => (hb1.frozen (p := ⟨w.heap.size + 1 + 1, o, none⟩) (by simp [go_sem])).trans (by simp [go_sem])
    clear hb1
    go_wp2
    exact bodyPost_ret (v := .tuple #[.agg #[.int .i64 (addD an ae bn be).1, .int .i64 (addD an ae bn be).2], .bool false]) (by rw [HD.out]; simp [results, go_sem, q0, q1]) rfl ⟨rfl, (by repeat' (first | (with_reducible exact Below.refl _ _) | (with_reducible assumption) | (with_reducible refine Below.alloc ?_ (by first | omega | (simp; omega) | simp) _) | (with_reducible refine Below.setCell ?_ (by first | omega | (simp; omega) | simp) _) | (with_reducible refine Below.drew ?_) | (with_reducible refine below_drewN ?_ _)))⟩
  · cases r2
    · go_enter Try.func11, Try.ntmps11
      go_wp2_with fail
      refine (isDyad_b _ _ _ _ H1.out).mono ?_
      rintro e w1 ⟨rfl, hb1⟩
      have hB1 : Below w.heap.size w w1 := Below.after (by repeat' (first | (with_reducible exact Below.refl _ _) | (with_reducible assumption) | (with_reducible refine Below.alloc ?_ (by first | omega | (simp; omega) | simp) _) | (with_reducible refine Below.setCell ?_ (by first | omega | (simp; omega) | simp) _) | (with_reducible refine Below.drew ?_) | (with_reducible refine below_drewN ?_ _))) hb1 (by first | omega | (simp only [World.size_alloc, World.size_setCell, World.size_drew] at *; omega) | (simp; omega) | simp); have s1 := hb1.size; try simp only [World.size_alloc, World.size_setCell, World.size_drew] at s1
      have q0 : w1.cell? ⟨w.heap.size + 1 + 1, 0, none⟩ = some (.int .i64 0) := oldc hb1 (by first | omega | (simp; omega) | (simp; done)) (by simp [go_sem])
      have q1 : w1.cell? ⟨w.heap.size + 1 + 1, 1, none⟩ = some (.int .i64 0) := oldc hb1 (by first | omega | (simp; omega) | (simp; done)) (by simp [go_sem])
      have q2 : w1.cell? ⟨w.heap.size + 1, 0, none⟩ = some (.int .i64 bn) := oldc hb1 (by first | omega | (simp; omega) | (simp; done)) (by simp [go_sem])
      have q3 : w1.cell? ⟨w.heap.size + 1, 1, none⟩ = some (.int .i64 be) := oldc hb1 (by first | omega | (simp; omega) | (simp; done)) (by simp [go_sem])
      have l2 : w.heap.size + 1 + 1 < w1.heap.size := by omega
      have hf1 : ∀ o, w1.frozen? ⟨w.heap.size + 1 + 1, o, none⟩ = false := fun o => (hb1.frozen (p := ⟨w.heap.size + 1 + 1, o, none⟩) (by simp [go_sem])).trans (by simp [go_sem])
      clear hb1
      go_wp2_with fail
      refine (isDyad_b _ _ _ _ H2.out).mono ?_
      rintro e w2 ⟨rfl, hb2⟩
      have hB2 : Below w.heap.size w w2 := hB1.trans (hb2.mono (by omega))
      have q0 := oldc hb2 l2 q0
      have q1 := oldc hb2 l2 q1
      have hf2 : ∀ o, w2.frozen? ⟨w.heap.size + 1 + 1, o, none⟩ = false := fun o => (hb2.frozen (p := ⟨w.heap.size + 1 + 1, o, none⟩) l2).trans (hf1 o)
      go_wp2
      exact bodyPost_ret (v := .tuple #[.agg #[.int .i64 (addD an ae bn be).1, .int .i64 (addD an ae bn be).2], .bool false]) (by rw [HD.out]; simp [results, go_sem, q0, q1]) rfl ⟨rfl, (by repeat' (first | (with_reducible exact Below.refl _ _) | (with_reducible assumption) | (with_reducible refine Below.alloc ?_ (by first | omega | (simp; omega) | simp) _) | (with_reducible refine Below.setCell ?_ (by first | omega | (simp; omega) | simp) _) | (with_reducible refine Below.drew ?_) | (with_reducible refine below_drewN ?_ _)))⟩
    · go_enter Try.func11, Try.ntmps11
      go_wp2_with fail
      refine (isDyad_b _ _ _ _ H1.out).mono ?_
      rintro e w1 ⟨rfl, hb1⟩
      have hB1 : Below w.heap.size w w1 := Below.after (by repeat' (first | (with_reducible exact Below.refl _ _) | (with_reducible assumption) | (with_reducible refine Below.alloc ?_ (by first | omega | (simp; omega) | simp) _) | (with_reducible refine Below.setCell ?_ (by first | omega | (simp; omega) | simp) _) | (with_reducible refine Below.drew ?_) | (with_reducible refine below_drewN ?_ _))) hb1 (by first | omega | (simp only [World.size_alloc, World.size_setCell, World.size_drew] at *; omega) | (simp; omega) | simp); have s1 := hb1.size; try simp only [World.size_alloc, World.size_setCell, World.size_drew] at s1
      have q0 : w1.cell? ⟨w.heap.size + 1 + 1, 0, none⟩ = some (.int .i64 0) := oldc hb1 (by first | omega | (simp; omega) | (simp; done)) (by simp [go_sem])
      have q1 : w1.cell? ⟨w.heap.size + 1 + 1, 1, none⟩ = some (.int .i64 0) := oldc hb1 (by first | omega | (simp; omega) | (simp; done)) (by simp [go_sem])
      have q2 : w1.cell? ⟨w.heap.size + 1, 0, none⟩ = some (.int .i64 bn) := oldc hb1 (by first | omega | (simp; omega) | (simp; done)) (by simp [go_sem])
      have q3 : w1.cell? ⟨w.heap.size + 1, 1, none⟩ = some (.int .i64 be) := oldc hb1 (by first | omega | (simp; omega) | (simp; done)) (by simp [go_sem])
      have q4 : w1.cell? ⟨w.heap.size, 0, none⟩ = some (.int .i64 an) := oldc hb1 (by first | omega | (simp; omega) | (simp; done)) (by simp [go_sem])
      have q5 : w1.cell? ⟨w.heap.size, 1, none⟩ = some (.int .i64 ae) := oldc hb1 (by first | omega | (simp; omega) | (simp; done)) (by simp [go_sem])
      have l0 : w.heap.size < w1.heap.size := by omega
      have l1 : w.heap.size + 1 < w1.heap.size := by omega
      have l2 : w.heap.size + 1 + 1 < w1.heap.size := by omega
      have hf1 : ∀ o, w1.frozen? ⟨w.heap.size + 1 + 1, o, none⟩ = false := fun o => (hb1.frozen (p := ⟨w.heap.size + 1 + 1, o, none⟩) (by simp [go_sem])).trans (by simp [go_sem])
      clear hb1
      go_wp2_with fail
      refine (isDyad_b _ _ _ _ H2.out).mono ?_
      rintro e w2 ⟨rfl, hb2⟩
      have hB2 : Below w.heap.size w w2 := hB1.trans (hb2.mono (by omega))
      have q0 := oldc hb2 l2 q0
      have q1 := oldc hb2 l2 q1
      have q2 := oldc hb2 l1 q2
      have q3 := oldc hb2 l1 q3
      have q4 := oldc hb2 l0 q4
      have q5 := oldc hb2 l0 q5
      have s2 := hb2.size
      have l2 : w.heap.size + 1 + 1 < w2.heap.size := by omega
      have hf2 : ∀ o, w2.frozen? ⟨w.heap.size + 1 + 1, o, none⟩ = false := fun o => (hb2.frozen (p := ⟨w.heap.size + 1 + 1, o, none⟩) (by omega)).trans (hf1 o)
      clear hb2 hf1
      obtain ⟨a1, a2, a3, a4⟩ := vldB_of H1.out.symm
      obtain ⟨b1, b2, b3, b4⟩ := vldB_of H2.out.symm
      have HS := Lib.hid (addR_bd H1.out.symm H2.out.symm)
      have n1 : ¬ w.heap.size = w2.heap.size := by omega
      have n2 : ¬ w2.heap.size = w.heap.size := by omega
      have n3 : ¬ w.heap.size + 1 = w2.heap.size := by omega
      have n4 : ¬ w2.heap.size = w.heap.size + 1 := by omega
      have n5 : ¬ w.heap.size + 1 + 1 = w2.heap.size := by omega
      have n6 : ¬ w2.heap.size = w.heap.size + 1 + 1 := by omega
      by_cases hm : ae < be
      · skip
        have hk0 : 0 ≤ be - ae := by omega
        have hw1 : IntKind.i64.wrap (be - ae) = be - ae := IntWalk.i64_in _ (by omega)
        have hw0 : IntKind.i64.wrap 0 = 0 := IntWalk.i64_in _ (by omega)
        have HX := Lib.hid (show IntKind.i64.wrap (IntKind.i64.wrap (an * 2 ^ (be - ae).toNat) + IntKind.i64.wrap bn) = sumN an ae bn be by
          have e0 : (ae - be).toNat = 0 := by omega
          have m1 := mulp_bd a1 a2 (k := (be - ae).toNat) (by omega)
          rw [sumN, e0, Int.pow_zero, Int.mul_one, IntWalk.i64_in (an * 2 ^ (be - ae).toNat) (by omega), IntWalk.i64_in bn (by omega), IntWalk.i64_in _ (by omega)])
        have HM := Lib.hid (show addR an ae bn be = red (sumN an ae bn be) be by rw [addR, show max ae be = be by omega])
        go_wp2_with fail
        go_region_held3 (fun w' => w'.cell? ⟨w.heap.size, 0, none⟩ = some (.int .i64 an) ∧ w'.cell? ⟨w.heap.size, 1, none⟩ = some (.int .i64 ae) ∧ w'.cell? ⟨w.heap.size + 1, 0, none⟩ = some (.int .i64 bn) ∧ w'.cell? ⟨w.heap.size + 1, 1, none⟩ = some (.int .i64 be)) (go_keep) (first | (go_at_call 29; rw [HX.out]; (with_reducible refine (dyadOf_b _ be ((w2.alloc (.cells #[.int .i64 0, .int .i64 0] 25)).drew) HS.out.1 (Int.le_trans HS.out.2 (by decide)) (by omega) (by omega) _ HM.out _ H3.out).mono ?_); rintro e w3 ⟨rfl, hb3⟩; have hp3 : Below w2.heap.size w2 w3 := Below.after (by repeat' (first | (with_reducible exact Below.refl _ _) | (with_reducible assumption) | (with_reducible refine Below.alloc ?_ (by first | omega | (simp; omega) | simp) _) | (with_reducible refine Below.setCell ?_ (by first | omega | (simp; omega) | simp) _) | (with_reducible refine Below.drew ?_) | (with_reducible refine below_drewN ?_ _))) hb3 (by first | omega | (simp only [World.size_alloc, World.size_setCell, World.size_drew] at *; omega) | (simp; omega) | simp); have q6 : w3.cell? ⟨w2.heap.size, 0, none⟩ = some (.int .i64 0) := oldc hb3 (by first | omega | (simp; omega) | (simp; done)) (by simp [go_sem]); have q7 : w3.cell? ⟨w2.heap.size, 1, none⟩ = some (.int .i64 0) := oldc hb3 (by first | omega | (simp; omega) | (simp; done)) (by simp [go_sem]); have q8 : ∀ o, w3.frozen? ⟨w2.heap.size, o, none⟩ = false := fun o => (hb3.frozen (p := ⟨w2.heap.size, o, none⟩) (by first | omega | (simp; omega) | (simp; done))).trans (by simp [go_sem]); have q9 : w.heap.size < w2.heap.size := Nat.lt_of_succ_lt (Nat.lt_of_succ_lt l2); have hB3 := Below.trans hB2 (Below.mono hp3 hB2.size); have q0 := oldc hp3 l2 q0; have q1 := oldc hp3 l2 q1; have q2 := oldc hp3 (Nat.lt_of_succ_lt l2) q2; have q3 := oldc hp3 (Nat.lt_of_succ_lt l2) q3; have q4 := oldc hp3 (Nat.lt_of_succ_lt (Nat.lt_of_succ_lt l2)) q4; have q5 := oldc hp3 (Nat.lt_of_succ_lt (Nat.lt_of_succ_lt l2)) q5; have hf3 : ∀ o, w3.frozen? ⟨w.heap.size + 1 + 1, o, none⟩ = false := fun o => (hp3.frozen (p := ⟨w.heap.size + 1 + 1, o, none⟩) l2).trans (hf2 o); have l3 : w.heap.size + 1 + 1 < w3.heap.size := Nat.lt_of_lt_of_le l2 hp3.size) | (go_at_call 29; rw [HX.out]; (with_reducible refine (dyadOf_b _ be (w2.drew) HS.out.1 (Int.le_trans HS.out.2 (by decide)) (by omega) (by omega) _ HM.out _ H3.out).mono ?_); rintro e w3 ⟨rfl, hb3⟩; have hp3 : Below w2.heap.size w2 w3 := Below.after (by repeat' (first | (with_reducible exact Below.refl _ _) | (with_reducible assumption) | (with_reducible refine Below.alloc ?_ (by first | omega | (simp; omega) | simp) _) | (with_reducible refine Below.setCell ?_ (by first | omega | (simp; omega) | simp) _) | (with_reducible refine Below.drew ?_) | (with_reducible refine below_drewN ?_ _))) hb3 (by first | omega | (simp only [World.size_alloc, World.size_setCell, World.size_drew] at *; omega) | (simp; omega) | simp); have q9 : w.heap.size < w2.heap.size := Nat.lt_of_succ_lt (Nat.lt_of_succ_lt l2); have hB3 := Below.trans hB2 (Below.mono hp3 hB2.size); have q0 := oldc hp3 l2 q0; have q1 := oldc hp3 l2 q1; have q2 := oldc hp3 (Nat.lt_of_succ_lt l2) q2; have q3 := oldc hp3 (Nat.lt_of_succ_lt l2) q3; have q4 := oldc hp3 (Nat.lt_of_succ_lt (Nat.lt_of_succ_lt l2)) q4; have q5 := oldc hp3 (Nat.lt_of_succ_lt (Nat.lt_of_succ_lt l2)) q5; have hf3 : ∀ o, w3.frozen? ⟨w.heap.size + 1 + 1, o, none⟩ = false := fun o => (hp3.frozen (p := ⟨w.heap.size + 1 + 1, o, none⟩) l2).trans (hf2 o); have l3 : w.heap.size + 1 + 1 < w3.heap.size := Nat.lt_of_lt_of_le l2 hp3.size))
        clear hw1 hw0
        all_goals
          cases r3
        all_goals
          go_wp2
        all_goals first
          | exact bodyPost_ret (v := .tuple #[.agg #[.int .i64 (addD an ae bn be).1, .int .i64 (addD an ae bn be).2], .bool false]) (by rw [HD.out]; simp [results, go_sem, q0, q1, l3]) rfl ⟨rfl, (by repeat' (first | (with_reducible exact Below.refl _ _) | (with_reducible assumption) | (with_reducible refine Below.alloc ?_ (by first | omega | (simp; omega) | simp) _) | (with_reducible refine Below.setCell ?_ (by first | omega | (simp; omega) | simp) _) | (with_reducible refine Below.drew ?_) | (with_reducible refine below_drewN ?_ _)))⟩
          | exact bodyPost_ret (v := .tuple #[.agg #[.int .i64 (addD an ae bn be).1, .int .i64 (addD an ae bn be).2], .bool true]) (by rw [HD.out]; simp [results, go_sem, q0, q1, l3]) rfl ⟨rfl, (by repeat' (first | (with_reducible exact Below.refl _ _) | (with_reducible assumption) | (with_reducible refine Below.alloc ?_ (by first | omega | (simp; omega) | simp) _) | (with_reducible refine Below.setCell ?_ (by first | omega | (simp; omega) | simp) _) | (with_reducible refine Below.drew ?_) | (with_reducible refine below_drewN ?_ _)))⟩
      · skip
        have hk0 : 0 ≤ ae - be := by omega
        have hw1 : IntKind.i64.wrap (ae - be) = ae - be := IntWalk.i64_in _ (by omega)
        have hw0 : IntKind.i64.wrap 0 = 0 := IntWalk.i64_in _ (by omega)
        have HX := Lib.hid (show IntKind.i64.wrap (IntKind.i64.wrap an + IntKind.i64.wrap (bn * 2 ^ (ae - be).toNat)) = sumN an ae bn be by
          have e0 : (be - ae).toNat = 0 := by omega
          have m1 := mulp_bd b1 b2 (k := (ae - be).toNat) (by omega)
          rw [sumN, e0, Int.pow_zero, Int.mul_one, IntWalk.i64_in (bn * 2 ^ (ae - be).toNat) (by omega), IntWalk.i64_in an (by omega), IntWalk.i64_in _ (by omega)])
        have HM := Lib.hid (show addR an ae bn be = red (sumN an ae bn be) ae by rw [addR, show max ae be = ae by omega])
        go_wp2_with fail
        go_region_held3 (fun w' => w'.cell? ⟨w.heap.size, 0, none⟩ = some (.int .i64 an) ∧ w'.cell? ⟨w.heap.size, 1, none⟩ = some (.int .i64 ae) ∧ w'.cell? ⟨w.heap.size + 1, 0, none⟩ = some (.int .i64 bn) ∧ w'.cell? ⟨w.heap.size + 1, 1, none⟩ = some (.int .i64 be)) (go_keep) (first | (go_at_call 29; rw [HX.out]; (with_reducible refine (dyadOf_b _ ae ((w2.alloc (.cells #[.int .i64 0, .int .i64 0] 25)).drew) HS.out.1 (Int.le_trans HS.out.2 (by decide)) (by omega) (by omega) _ HM.out _ H3.out).mono ?_); rintro e w3 ⟨rfl, hb3⟩; have hp3 : Below w2.heap.size w2 w3 := Below.after (by repeat' (first | (with_reducible exact Below.refl _ _) | (with_reducible assumption) | (with_reducible refine Below.alloc ?_ (by first | omega | (simp; omega) | simp) _) | (with_reducible refine Below.setCell ?_ (by first | omega | (simp; omega) | simp) _) | (with_reducible refine Below.drew ?_) | (with_reducible refine below_drewN ?_ _))) hb3 (by first | omega | (simp only [World.size_alloc, World.size_setCell, World.size_drew] at *; omega) | (simp; omega) | simp); have q6 : w3.cell? ⟨w2.heap.size, 0, none⟩ = some (.int .i64 0) := oldc hb3 (by first | omega | (simp; omega) | (simp; done)) (by simp [go_sem]); have q7 : w3.cell? ⟨w2.heap.size, 1, none⟩ = some (.int .i64 0) := oldc hb3 (by first | omega | (simp; omega) | (simp; done)) (by simp [go_sem]); have q8 : ∀ o, w3.frozen? ⟨w2.heap.size, o, none⟩ = false := fun o => (hb3.frozen (p := ⟨w2.heap.size, o, none⟩) (by first | omega | (simp; omega) | (simp; done))).trans (by simp [go_sem]); have q9 : w.heap.size < w2.heap.size := Nat.lt_of_succ_lt (Nat.lt_of_succ_lt l2); have hB3 := Below.trans hB2 (Below.mono hp3 hB2.size); have q0 := oldc hp3 l2 q0; have q1 := oldc hp3 l2 q1; have q2 := oldc hp3 (Nat.lt_of_succ_lt l2) q2; have q3 := oldc hp3 (Nat.lt_of_succ_lt l2) q3; have q4 := oldc hp3 (Nat.lt_of_succ_lt (Nat.lt_of_succ_lt l2)) q4; have q5 := oldc hp3 (Nat.lt_of_succ_lt (Nat.lt_of_succ_lt l2)) q5; have hf3 : ∀ o, w3.frozen? ⟨w.heap.size + 1 + 1, o, none⟩ = false := fun o => (hp3.frozen (p := ⟨w.heap.size + 1 + 1, o, none⟩) l2).trans (hf2 o); have l3 : w.heap.size + 1 + 1 < w3.heap.size := Nat.lt_of_lt_of_le l2 hp3.size) | (go_at_call 29; rw [HX.out]; (with_reducible refine (dyadOf_b _ ae (w2.drew) HS.out.1 (Int.le_trans HS.out.2 (by decide)) (by omega) (by omega) _ HM.out _ H3.out).mono ?_); rintro e w3 ⟨rfl, hb3⟩; have hp3 : Below w2.heap.size w2 w3 := Below.after (by repeat' (first | (with_reducible exact Below.refl _ _) | (with_reducible assumption) | (with_reducible refine Below.alloc ?_ (by first | omega | (simp; omega) | simp) _) | (with_reducible refine Below.setCell ?_ (by first | omega | (simp; omega) | simp) _) | (with_reducible refine Below.drew ?_) | (with_reducible refine below_drewN ?_ _))) hb3 (by first | omega | (simp only [World.size_alloc, World.size_setCell, World.size_drew] at *; omega) | (simp; omega) | simp); have q9 : w.heap.size < w2.heap.size := Nat.lt_of_succ_lt (Nat.lt_of_succ_lt l2); have hB3 := Below.trans hB2 (Below.mono hp3 hB2.size); have q0 := oldc hp3 l2 q0; have q1 := oldc hp3 l2 q1; have q2 := oldc hp3 (Nat.lt_of_succ_lt l2) q2; have q3 := oldc hp3 (Nat.lt_of_succ_lt l2) q3; have q4 := oldc hp3 (Nat.lt_of_succ_lt (Nat.lt_of_succ_lt l2)) q4; have q5 := oldc hp3 (Nat.lt_of_succ_lt (Nat.lt_of_succ_lt l2)) q5; have hf3 : ∀ o, w3.frozen? ⟨w.heap.size + 1 + 1, o, none⟩ = false := fun o => (hp3.frozen (p := ⟨w.heap.size + 1 + 1, o, none⟩) l2).trans (hf2 o); have l3 : w.heap.size + 1 + 1 < w3.heap.size := Nat.lt_of_lt_of_le l2 hp3.size))
        clear hw1 hw0
        all_goals
          cases r3
        all_goals
          go_wp2
        all_goals first
          | exact bodyPost_ret (v := .tuple #[.agg #[.int .i64 (addD an ae bn be).1, .int .i64 (addD an ae bn be).2], .bool false]) (by rw [HD.out]; simp [results, go_sem, q0, q1, l3]) rfl ⟨rfl, (by repeat' (first | (with_reducible exact Below.refl _ _) | (with_reducible assumption) | (with_reducible refine Below.alloc ?_ (by first | omega | (simp; omega) | simp) _) | (with_reducible refine Below.setCell ?_ (by first | omega | (simp; omega) | simp) _) | (with_reducible refine Below.drew ?_) | (with_reducible refine below_drewN ?_ _)))⟩
          | exact bodyPost_ret (v := .tuple #[.agg #[.int .i64 (addD an ae bn be).1, .int .i64 (addD an ae bn be).2], .bool true]) (by rw [HD.out]; simp [results, go_sem, q0, q1, l3]) rfl ⟨rfl, (by repeat' (first | (with_reducible exact Below.refl _ _) | (with_reducible assumption) | (with_reducible refine Below.alloc ?_ (by first | omega | (simp; omega) | simp) _) | (with_reducible refine Below.setCell ?_ (by first | omega | (simp; omega) | simp) _) | (with_reducible refine Below.drew ?_) | (with_reducible refine below_drewN ?_ _)))⟩
end Go.Proofs.Ytmbnhjohmodflaa
