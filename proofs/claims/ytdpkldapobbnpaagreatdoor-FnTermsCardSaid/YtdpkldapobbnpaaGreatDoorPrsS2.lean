/- Contracts: how the reference reads types and rules. -/
import Derived.Test.YtdpkldapobbnpaaGreatDoorPrsS
namespace Go.Proofs.YtdpkldapobbnpaaGreatDoor
set_option linter.unusedVariables false
set_option linter.unusedSimpArgs false
open Go.RowKit
theorem cutE_len (l : Bs) : (cutE l).2.length ≤ l.length := by
 unfold cutE
 split
 ·simp
 ·split
  ·simp
  ·exact Nat.le_refl _
theorem cutE_rng (l : Bs) : 0 ≤ (cutE l).1 ∧ (cutE l).1 ≤ 2 := by
 unfold cutE
 split
 ·simp
 ·split
  ·simp
  ·simp
theorem nil_kin (lo hi : Nat) (w : World) : Ow lo hi w [.int .i64 0, .slice none 0 0] ((0, []) : Kin) := Ow.kin_mk (by unfold I64; omega) (Ow.nil _ _ _)
theorem formatS_x {z : Bool} {lo hi : Nat} (w : World) (a b : Value) (t : Kin) (h : Rd z lo hi w [a, b] t) (K : ByteArray) (hK : K = kinTxt t) : Calls Tryz.prog 40 #[.agg #[a, b]] w (PostV w (.string K)) := by
 subst hK
 exact formatS_any w a b t h
set_option maxRecDepth 20000 in
set_option maxHeartbeats 4000000 in
theorem parseTypeS_any (w : World) (s : ByteArray) (hs : s.size ≤ maxLen) (O : Option Kin) (hO : O = typeS s.data.toList) :
  Calls Tryz.prog 21 #[.string s] w (PostOw2B w (O.getD (0, [])) O.isSome) := by
 obtain ⟨e, he⟩ : ∃ e, e = (cutE s.data.toList).1 := ⟨_, rfl⟩
 obtain ⟨r, hr⟩ : ∃ r, r = txt (cutE s.data.toList).2 := ⟨_, rfl⟩
 have hrs : r.size ≤ maxLen := by rw [hr, size_txt]; have := cutE_len s.data.toList; rw [← Lib.size_eq] at this; omega
 have her := cutE_rng s.data.toList
 rw [← he] at her
 obtain ⟨X, hX⟩ : ∃ X, X = readS r.data.toList := ⟨_, rfl⟩
 have hX2 : X = readS (cutE s.data.toList).2 := by rw [hX, hr, list_txt]
 obtain ⟨r1, hlet_r1⟩ : ∃ r, r = isKin (e, X) := ⟨_, rfl⟩
 have H1 := Lib.hid hlet_r1
 clear hlet_r1
 obtain ⟨K, hK⟩ : ∃ K, K = kinTxt (e, X) := ⟨_, rfl⟩
 have HO := Lib.hid (show O = if r1 = true ∧ K = s then some (e, X) else none by rw [hO, typeS, ← hX2, ← he, ← H1.out, ← hK, txt_list])
 have HE := Lib.hid he
 have HR := Lib.hid hr
 have HX := Lib.hid hX
 have HK := Lib.hid hK
 clear hO hX2 he hr hX hK
 have HI := Lib.hid (show I64 e by unfold I64; omega)
 go_enter Tryz.func21, Tryz.ntmps21
 go_wp2_with fail
 refine (cutS_any _ s hs e r HE.out HR.out).mono ?_
 rintro e1 w1 ⟨rfl, hbw1⟩
 have hpw1 : Below w.heap.size w w1 := Below.after bwT hbw1 szT
 have sw1 := hpw1.size
 have hBw1 : Below w.heap.size w w1 := hpw1
 have l_r : w.heap.size < w1.heap.size := by have := hbw1.size; simp at this; omega
 have q_r0 : w1.cell? ⟨w.heap.size, 0, none⟩ = some (.int .i64 0) := oldc hbw1 ltT (by simp [go_sem])
 have q_r1 : w1.cell? ⟨w.heap.size, 1, none⟩ = some (.slice none 0 0) := oldc hbw1 ltT (by simp [go_sem])
 have f_r : ∀ o, w1.frozen? ⟨w.heap.size, o, none⟩ = false := fun o => (hbw1.frozen (p := ⟨w.heap.size, o, none⟩) ltT).trans (by simp [go_sem])
 clear hbw1 hpw1
 have hl1 : w.heap.size < (w1).heap.size := l_r
 go_wp2_with fail
 refine (readS_any _ r hrs X HX.out).mono ?_
 rintro e2 w2 ⟨xv, rfl, hox, hbw2⟩
 have hpw2 : Below w1.heap.size w1 w2 := Below.after bwT hbw2 szT
 have sw2 := hpw2.size
 have hBw2 : Below w.heap.size w w2 := Below.trans hBw1 (Below.mono hpw2 hBw1.size)
 replace q_r0 := oldc hpw2 l_r q_r0
 replace q_r1 := oldc hpw2 l_r q_r1
 replace f_r : ∀ o, w2.frozen? ⟨w.heap.size, o, none⟩ = false := fun o => (hpw2.frozen (p := ⟨w.heap.size, o, none⟩) l_r).trans (f_r o)
 replace l_r := Nat.lt_of_lt_of_le l_r sw2
 clear hbw2 hpw2
 obtain ⟨xao, xn, xcap, rfl, hxn, -⟩ := hox.rd.shape
 subst hxn
 go_wp2_with fail
 refine (isTypeS_b _ _ _ (e, X) (Rd.kin_mk HI.out (hox.rd.below bwT)) r1 H1.out).mono ?_
 rintro e3 w3 ⟨rfl, hbw3⟩
 have hpw3 : Below w2.heap.size w2 w3 := Below.after bwT hbw3 szT
 have sw3 := hpw3.size
 have hBw3 : Below w.heap.size w w3 := Below.trans hBw2 (Below.mono hpw3 hBw2.size)
 replace q_r0 := oldc hpw3 l_r q_r0
 replace q_r1 := oldc hpw3 l_r q_r1
 replace f_r : ∀ o, w3.frozen? ⟨w.heap.size, o, none⟩ = false := fun o => (hpw3.frozen (p := ⟨w.heap.size, o, none⟩) l_r).trans (f_r o)
 replace l_r := Nat.lt_of_lt_of_le l_r sw3
 have l_t : w2.heap.size < w3.heap.size := by have := hbw3.size; simp at this; omega
 have q_t0 : w3.cell? ⟨w2.heap.size, 0, none⟩ = some (.int .i64 e) := oldc hbw3 ltT (by simp [go_sem])
 have q_t1 : w3.cell? ⟨w2.heap.size, 1, none⟩ = some (.slice xao X.length xcap) := oldc hbw3 ltT (by simp [go_sem])
 replace hox := Ow.below hox hpw3
 clear hbw3 hpw3
 cases r1
 ·obtain rfl : O = none := HO.out
  clear HO
  go_wp2
  exact bodyPost_ret (v := .tuple #[.agg #[.int .i64 0, .slice none 0 0], .bool false]) (by simp [results, go_sem, *]) rfl ⟨_, _, rfl, nil_kin _ _ _, bwT⟩
 go_wp2_with fail
 refine (formatS_x _ _ _ (e, X) (Rd.kin_mk HI.out (hox.rd.below bwT)) K HK.out).mono ?_
 rintro e4 w4 ⟨rfl, hbw4⟩
 have hpw4 : Below w3.heap.size w3 w4 := Below.after bwT hbw4 szT
 have sw4 := hpw4.size
 have hBw4 : Below w.heap.size w w4 := Below.trans hBw3 (Below.mono hpw4 hBw3.size)
 replace q_r0 := oldc hpw4 l_r q_r0
 replace q_r1 := oldc hpw4 l_r q_r1
 replace q_t0 := oldc hpw4 l_t q_t0
 replace q_t1 := oldc hpw4 l_t q_t1
 replace f_r : ∀ o, w4.frozen? ⟨w.heap.size, o, none⟩ = false := fun o => (hpw4.frozen (p := ⟨w.heap.size, o, none⟩) l_r).trans (f_r o)
 replace l_r := Nat.lt_of_lt_of_le l_r sw4
 replace l_t := Nat.lt_of_lt_of_le l_t sw4
 replace hox := Ow.below hox hpw4
 clear hbw4 hpw4
 by_cases hks : K = s
 ·subst hks
  obtain rfl : O = some (e, X) := by have := HO.out; rw [this]; simp
  have q0 : (K.toList == K.toList) = true := by simp
  have HOX := Lib.hid (Ow.kin_mk HI.out hox)
  clear HO
  go_wp2
  exact bodyPost_ret (v := .tuple #[.agg #[.int .i64 e, .slice xao X.length xcap], .bool true]) (by simp [results, go_sem, *]) rfl ⟨_, _, rfl, (HOX.out.keep zmT).mono (by omega) (by simp; omega), bwT⟩
 ·obtain rfl : O = none := by have := HO.out; rw [this]; exact if_neg (fun h => hks h.2)
  have q0 : (K.toList == s.toList) = false := by rw [text_eq, decide_eq_false hks]
  clear HO hks
  go_wp2
  exact bodyPost_ret (v := .tuple #[.agg #[.int .i64 0, .slice none 0 0], .bool false]) (by simp [results, go_sem, *]) rfl ⟨_, _, rfl, nil_kin _ _ _, bwT⟩
end Go.Proofs.YtdpkldapobbnpaaGreatDoor
