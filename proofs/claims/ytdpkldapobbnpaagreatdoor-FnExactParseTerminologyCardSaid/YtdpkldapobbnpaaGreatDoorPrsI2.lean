/- Contracts: how the program reads types and rules. Written by prsi2_gen.py. -/
import Derived.Test.YtdpkldapobbnpaaGreatDoorPrsI
import Derived.Test.YtdpkldapobbnpaaGreatDoorPrsS3
namespace Go.Proofs.YtdpkldapobbnpaaGreatDoor
set_option linter.unusedVariables false
set_option linter.unusedSimpArgs false
open Go.RowKit

theorem cut_len (s p : Bs) : (Lib.cut s p).1.length ≤ s.length ∧ (Lib.cut s p).2.1.length ≤ s.length := by
  unfold Lib.cut
  split
  · constructor
    · simp; omega
    · simp
  · exact ⟨Nat.le_refl _, Nat.zero_le _⟩
theorem trimSuf1 {l : Bs} (h : Lib.hasSuffix l [36] = true) : Lib.trimSuffix l [36] = l.dropLast := by
  rw [Lib.trimSuffix, if_pos h, List.dropLast_eq_take]; rfl
theorem trimPre1 {l : Bs} (h : Lib.hasPrefix l [94] = true) : Lib.trimPrefix l [94] = l.drop 1 := by
  rw [Lib.trimPrefix, if_pos h]; rfl
theorem trimSuf_len (l p : Bs) : (Lib.trimSuffix l p).length ≤ l.length := by
  unfold Lib.trimSuffix
  split
  · simp
  · exact Nat.le_refl _
theorem trimPre_len (l p : Bs) : (Lib.trimPrefix l p).length ≤ l.length := by
  unfold Lib.trimPrefix
  split
  · simp
  · exact Nat.le_refl _

set_option maxRecDepth 20000 in
set_option maxHeartbeats 4000000 in
theorem parseTypeI_any (w : World) (s : ByteArray) (hs : s.size ≤ 1099511627776) (O : Option Kin) (hO : O = typeI s.data.toList) :
    Calls Tryz.prog 27 #[.string s] w (PostOw2B w (O.getD (0, [])) O.isSome) := by
  obtain ⟨e, he⟩ : ∃ e, e = (cutE s.data.toList).1 := ⟨_, rfl⟩
  obtain ⟨r, hr⟩ : ∃ r, r = txt (cutE s.data.toList).2 := ⟨_, rfl⟩
  have hrs : r.size ≤ 1099511627776 := by rw [hr, size_txt]; have := cutE_len s.data.toList; rw [← Lib.size_eq] at this; omega
  have her := cutE_rng s.data.toList
  rw [← he] at her
  have hrl : r.data.toList = (cutE s.data.toList).2 := by rw [hr, list_txt]
  have HO := Lib.hid (show O = if r.data.toList = [46] then some (e, []) else (readI r.data.toList).bind fun st => if st ≠ [] ∧ isKin (e, st) = true then some (e, st) else none by rw [hO, typeI, he, hrl])
  have HE := Lib.hid he
  have HR := Lib.hid hr
  have HI := Lib.hid (show I64 e by unfold I64; omega)
  clear hO he hr hrl
  go_enter Tryz.func27, Tryz.ntmps27
  go_wp2_with fail
  refine (cutEgoI_any _ s e r HE.out HR.out).mono ?_
  rintro e1 w1 ⟨rfl, hbw1⟩
  have hpw1 : Below w.heap.size w w1 := Below.after bwT hbw1 szT
  have sw1 := hpw1.size
  have hBw1 : Below w.heap.size w w1 := hpw1
  have l_r : w.heap.size < w1.heap.size := by have := hbw1.size; simp at this; omega
  have q_r0 : w1.cell? ⟨w.heap.size, 0, none⟩ = some (.int .i64 0) := oldc hbw1 ltT (by simp [go_sem])
  have q_r1 : w1.cell? ⟨w.heap.size, 1, none⟩ = some (.slice none 0 0) := oldc hbw1 ltT (by simp [go_sem])
  have f_r : ∀ o, w1.frozen? ⟨w.heap.size, o, none⟩ = false := fun o => (hbw1.frozen (p := ⟨w.heap.size, o, none⟩) ltT).trans (by simp [go_sem])
  clear hbw1 hpw1
  have hd := dot_eq r
  by_cases h46 : r.data.toList = [46]
  · obtain rfl : O = some (e, []) := by rw [HO.out, if_pos h46]
    rw [decide_eq_true h46] at hd
    clear HO h46
    go_wp2
    exact bodyPost_ret (v := .tuple #[.agg #[.int .i64 e, .slice none 0 0], .bool true]) (by simp [results, go_sem, *]) rfl ⟨_, _, rfl, Ow.kin_mk HI.out (Ow.nil _ _ _), bwT⟩
  rw [decide_eq_false h46] at hd
  obtain ⟨T, hT⟩ : ∃ T, T = readI r.data.toList := ⟨_, rfl⟩
  have HO2 := Lib.hid (show O = T.bind fun st => if st ≠ [] ∧ isKin (e, st) = true then some (e, st) else none by rw [HO.out, if_neg h46, hT])
  have HT := Lib.hid hT
  clear HO h46 hT
  have hl1 : w.heap.size < (w1).heap.size := l_r
  go_wp2_with fail
  refine (readI_any _ r hrs T HT.out).mono ?_
  rintro e2 w2 ⟨xv, rfl, hox, hbw2⟩
  have hpw2 : Below w1.heap.size w1 w2 := Below.after bwT hbw2 szT
  have sw2 := hpw2.size
  have hBw2 : Below w.heap.size w w2 := Below.trans hBw1 (Below.mono hpw2 hBw1.size)
  replace q_r0 := oldc hpw2 l_r q_r0
  replace q_r1 := oldc hpw2 l_r q_r1
  replace f_r : ∀ o, w2.frozen? ⟨w.heap.size, o, none⟩ = false := fun o => (hpw2.frozen (p := ⟨w.heap.size, o, none⟩) l_r).trans (f_r o)
  replace l_r := Nat.lt_of_lt_of_le l_r sw2
  clear hbw2 hpw2
  obtain ⟨xao, xn, xcap, rfl, hxn, -⟩ := hox.rd.shape
  rcases T with _ | st
  · obtain rfl : O = none := HO2.out
    clear HO2 hox
    go_wp2
    exact bodyPost_ret (v := .tuple #[.agg #[.int .i64 0, .slice none 0 0], .bool false]) (by simp [results, go_sem, *]) rfl ⟨_, _, rfl, nil_kin _ _ _, bwT⟩
  have hxn2 : st.length = xn := hxn
  subst hxn2
  clear hxn
  have hox : Ow _ _ _ _ st := hox
  by_cases h0 : st = []
  · obtain rfl : O = none := by rw [HO2.out]; show (if _ then _ else _) = none; exact if_neg (fun h => h.1 h0)
    have hz : ((st.length : Int) == 0) = true := by rw [h0]; rfl
    clear HO2 hox h0
    go_wp2
    exact bodyPost_ret (v := .tuple #[.agg #[.int .i64 0, .slice none 0 0], .bool false]) (by simp [results, go_sem, *]) rfl ⟨_, _, rfl, nil_kin _ _ _, bwT⟩
  have hz : ((st.length : Int) == 0) = false := by
    rw [beq_eq_false_iff_ne]; intro h; exact h0 (List.eq_nil_of_length_eq_zero (by omega))
  obtain ⟨r1, hlet_r1⟩ : ∃ r, r = isKin (e, st) := ⟨_, rfl⟩
  have H1 := Lib.hid hlet_r1
  clear hlet_r1
  have HO3 := Lib.hid (show O = if r1 = true then some (e, st) else none by
    rw [HO2.out, H1.out]
    show (if _ then _ else _) = _
    by_cases hh : isKin (e, st) = true
    · rw [if_pos ⟨h0, hh⟩, if_pos hh]
    · rw [if_neg (fun h => hh h.2), if_neg hh])
  clear HO2 h0
  go_wp2_with fail
  refine (isTypeI_b _ _ _ (e, st) (Rd.kin_mk HI.out (hox.rd.below bwT)) r1 H1.out).mono ?_
  rintro e3 w3 ⟨rfl, hbw3⟩
  have hpw3 : Below w2.heap.size w2 w3 := Below.after bwT hbw3 szT
  have sw3 := hpw3.size
  have hBw3 : Below w.heap.size w w3 := Below.trans hBw2 (Below.mono hpw3 hBw2.size)
  replace q_r0 := oldc hpw3 l_r q_r0
  replace q_r1 := oldc hpw3 l_r q_r1
  replace f_r : ∀ o, w3.frozen? ⟨w.heap.size, o, none⟩ = false := fun o => (hpw3.frozen (p := ⟨w.heap.size, o, none⟩) l_r).trans (f_r o)
  replace l_r := Nat.lt_of_lt_of_le l_r sw3
  have l_t : w2.heap.size < w3.heap.size := by have := hbw3.size; simp at this; omega
  have q_t0 : w3.cell? ⟨w2.heap.size, 0, none⟩ = some (.int .i64 e) := oldc hbw3 ltT (by simp [go_sem])
  have q_t1 : w3.cell? ⟨w2.heap.size, 1, none⟩ = some (.slice xao st.length xcap) := oldc hbw3 ltT (by simp [go_sem])
  replace hox := Ow.below hox hpw3
  clear hbw3 hpw3
  cases r1
  · obtain rfl : O = none := HO3.out
    clear HO3 hox
    go_wp2
    exact bodyPost_ret (v := .tuple #[.agg #[.int .i64 0, .slice none 0 0], .bool false]) (by simp [results, go_sem, *]) rfl ⟨_, _, rfl, nil_kin _ _ _, bwT⟩
  · obtain rfl : O = some (e, st) := HO3.out
    have HOX := Lib.hid (Ow.kin_mk HI.out hox)
    clear HO3
    go_wp2
    exact bodyPost_ret (v := .tuple #[.agg #[.int .i64 e, .slice xao st.length xcap], .bool true]) (by simp [results, go_sem, *]) rfl ⟨_, _, rfl, (HOX.out.keep zmT).mono (by omega) (by simp; omega), bwT⟩
theorem formatRuleI_x {z : Bool} {lo hi : Nat} (w : World) (u0 u1 u2 u3 u4 : Value) (r : Rul) (h : Rd z lo hi w [u0, u1, u2, u3, u4] r) (R : ByteArray) (hR : R = ruleTxt r) : Calls Tryz.prog 37 #[.agg #[u0, u1, u2, u3, u4]] w (PostV w (.string R)) := formatRuleI_any w u0 u1 u2 u3 u4 r h R hR
set_option maxRecDepth 20000 in
set_option maxHeartbeats 16000000 in
theorem parseRuleI_any (w : World) (m : Int) (hm : w.cell? ⟨0, 0, none⟩ = some (.int .i64 m)) (hgl : 0 < w.heap.size) (s : ByteArray) (hs : s.size ≤ 1048576) (O : Option Rul) (hO : O = ruleI s.data.toList) :
    Calls Tryz.prog 25 #[.string s] w (PostRB w O) := by
  obtain ⟨A1, hA1⟩ : ∃ x, x = txt (Lib.cut s.data.toList [58, 32]).1 := ⟨_, rfl⟩
  obtain ⟨A2, hA2⟩ : ∃ x, x = txt (Lib.cut s.data.toList [58, 32]).2.1 := ⟨_, rfl⟩
  obtain ⟨c1, hc1⟩ : ∃ x, x = (Lib.cut s.data.toList [58, 32]).2.2 := ⟨_, rfl⟩
  have a2l : A2.data.toList = (Lib.cut s.data.toList [58, 32]).2.1 := by rw [hA2, list_txt]
  obtain ⟨B1, hB1⟩ : ∃ x, x = txt (Lib.cut A2.data.toList [32, 45, 62, 32]).1 := ⟨_, rfl⟩
  obtain ⟨B2, hB2⟩ : ∃ x, x = txt (Lib.cut A2.data.toList [32, 45, 62, 32]).2.1 := ⟨_, rfl⟩
  obtain ⟨c2, hc2⟩ : ∃ x, x = (Lib.cut A2.data.toList [32, 45, 62, 32]).2.2 := ⟨_, rfl⟩
  have HO := Lib.hid (show O = if c1 = true ∧ c2 = true then ruleI3 s.data.toList A1.data.toList B1.data.toList B2.data.toList else none by
    rw [hO, ruleI]; rw [hc1, hc2, hA1, hB1, hB2, list_txt, list_txt, list_txt, a2l])
  have sA1 : A1.size ≤ s.size := by rw [hA1, size_txt]; have := (cut_len s.data.toList [58, 32]).1; rw [← Lib.size_eq] at this; exact this
  have sA2 : A2.size ≤ s.size := by rw [hA2, size_txt]; have := (cut_len s.data.toList [58, 32]).2; rw [← Lib.size_eq] at this; exact this
  have sB1 : B1.size ≤ A2.size := by rw [hB1, size_txt]; have := (cut_len A2.data.toList [32, 45, 62, 32]).1; rw [← Lib.size_eq] at this; exact this
  have sB2 : B2.size ≤ A2.size := by rw [hB2, size_txt]; have := (cut_len A2.data.toList [32, 45, 62, 32]).2; rw [← Lib.size_eq] at this; exact this
  have HA1 := Lib.hid hA1
  have HA2 := Lib.hid hA2
  have HC1 := Lib.hid hc1
  have HB1 := Lib.hid hB1
  have HB2 := Lib.hid hB2
  have HC2 := Lib.hid hc2
  clear hO hA1 hA2 hc1 a2l hB1 hB2 hc2
  go_enter Tryz.func25, Tryz.ntmps25
  go_wp2_with fail
  refine (cut_any _ m (oldc bwT hgl hm) s ⟨#[58, 32]⟩ A1 A2 hs c1 HA1.out HA2.out HC1.out).mono ?_
  rintro e4 w4 ⟨rfl, hbw4⟩
  have hpw4 : Below w.heap.size w w4 := Below.after bwT hbw4 szT
  have sw4 := hpw4.size
  have hBw4 : Below w.heap.size w w4 := hpw4
  have l_r : w.heap.size < w4.heap.size := by have := hbw4.size; simp at this; omega
  have q_r0 : w4.cell? ⟨w.heap.size, 0, none⟩ = some (.string ⟨#[]⟩) := oldc hbw4 ltT (by simp [go_sem])
  have q_r1 : w4.cell? ⟨w.heap.size, 1, none⟩ = some (.int .i64 0) := oldc hbw4 ltT (by simp [go_sem])
  have q_r2 : w4.cell? ⟨w.heap.size, 2, none⟩ = some (.int .i64 0) := oldc hbw4 ltT (by simp [go_sem])
  have q_r3 : w4.cell? ⟨w.heap.size, 3, none⟩ = some (.slice none 0 0) := oldc hbw4 ltT (by simp [go_sem])
  have q_r4 : w4.cell? ⟨w.heap.size, 4, none⟩ = some (.slice none 0 0) := oldc hbw4 ltT (by simp [go_sem])
  have f_r : ∀ o, w4.frozen? ⟨w.heap.size, o, none⟩ = false := fun o => (hbw4.frozen (p := ⟨w.heap.size, o, none⟩) ltT).trans (by simp [go_sem])
  clear hbw4 hpw4
  go_wp2_with fail
  refine (cut_any _ m (oldc bwT hgl hm) A2 ⟨#[32, 45, 62, 32]⟩ B1 B2 (by omega) c2 HB1.out HB2.out HC2.out).mono ?_
  rintro e5 w5 ⟨rfl, hbw5⟩
  have hpw5 : Below w4.heap.size w4 w5 := Below.after bwT hbw5 szT
  have sw5 := hpw5.size
  have hBw5 : Below w.heap.size w w5 := Below.trans hBw4 (Below.mono hpw5 hBw4.size)
  replace q_r0 := oldc hpw5 l_r q_r0
  replace q_r1 := oldc hpw5 l_r q_r1
  replace q_r2 := oldc hpw5 l_r q_r2
  replace q_r3 := oldc hpw5 l_r q_r3
  replace q_r4 := oldc hpw5 l_r q_r4
  replace f_r : ∀ o, w5.frozen? ⟨w.heap.size, o, none⟩ = false := fun o => (hpw5.frozen (p := ⟨w.heap.size, o, none⟩) l_r).trans (f_r o)
  replace l_r := Nat.lt_of_lt_of_le l_r sw5
  clear hbw5 hpw5
  cases c1
  · obtain rfl : O = none := by rw [HO.out]; simp
    clear HO
    go_wp2
    exact bodyPost_ret (v := .tuple #[.agg #[.string ⟨#[]⟩, .int .i64 0, .int .i64 0, .slice none 0 0, .slice none 0 0], .bool false]) (by simp [results, go_sem, *]) rfl ⟨_, _, _, _, _, rfl, nil_rul _ _ _, bwT⟩
  cases c2
  · obtain rfl : O = none := by rw [HO.out]; simp
    clear HO
    go_wp2
    exact bodyPost_ret (v := .tuple #[.agg #[.string ⟨#[]⟩, .int .i64 0, .int .i64 0, .slice none 0 0, .slice none 0 0], .bool false]) (by simp [results, go_sem, *]) rfl ⟨_, _, _, _, _, rfl, nil_rul _ _ _, bwT⟩
  obtain ⟨W3, hW3⟩ : ∃ W : World, W = w5 := ⟨_, rfl⟩
  subst hW3
  have hB3 : Below w.heap.size w W3 := hBw5
  have s3 := hB3.size
  have p_r0 := q_r0
  have p_r1 := q_r1
  have p_r2 := q_r2
  have p_r3 := q_r3
  have p_r4 := q_r4
  have g_r := f_r
  clear q_r0 q_r1 q_r2 q_r3 q_r4 f_r
  obtain ⟨e, he⟩ : ∃ e, e = (cutE B1.data.toList).1 := ⟨_, rfl⟩
  obtain ⟨u, hu⟩ : ∃ u, u = txt (cutE B1.data.toList).2 := ⟨_, rfl⟩
  have hus : u.size ≤ B1.size := by rw [hu, size_txt]; have := cutE_len B1.data.toList; rw [← Lib.size_eq] at this; exact this
  have hul : u.data.toList = (cutE B1.data.toList).2 := by rw [hu, list_txt]
  have her := cutE_rng B1.data.toList
  rw [← he] at her
  have HI := Lib.hid (show I64 e by unfold I64; omega)
  have HO5 := Lib.hid (show O = (ruleI1 u.data.toList).bind fun p => (readI p.2).bind fun f => (if B2.data.toList = [46] then some [] else readI B2.data.toList).bind fun t => if isRule ((A1, e, p.1, f, t) : Rul) = true ∧ ruleTxt ((A1, e, p.1, f, t) : Rul) = s then some ((A1, e, p.1, f, t) : Rul) else none by
    rw [HO.out, if_pos ⟨rfl, rfl⟩, ruleI3, hul, he, txt_list, txt_list])
  have HE := Lib.hid he
  have HU := Lib.hid hu
  clear he hu hul HO HA1 HA2 HB1 HB2 HC1 HC2
  go_wp2_with fail
  refine (cutEgoI_any _ B1 e u HE.out HU.out).mono ?_
  rintro e4 w4 ⟨rfl, hb4⟩
  have hB4 : Below W3.heap.size W3 w4 := Below.trans (show Below W3.heap.size W3 _ from bwT) (hb4.mono (by simp))
  have s34 := hB4.size
  have l_g4 : W3.heap.size < w4.heap.size := by have := hb4.size; simp at this; omega
  have y0 : w4.cell? ⟨W3.heap.size, 0, none⟩ = some (.string A1) := oldc hb4 ltT (by simp [go_sem, *])
  have y1 : w4.cell? ⟨W3.heap.size, 1, none⟩ = some (.int .i64 0) := oldc hb4 ltT (by simp [go_sem, *])
  have y2 : w4.cell? ⟨W3.heap.size, 2, none⟩ = some (.int .i64 0) := oldc hb4 ltT (by simp [go_sem, *])
  have y3 : w4.cell? ⟨W3.heap.size, 3, none⟩ = some (.slice none 0 0) := oldc hb4 ltT (by simp [go_sem, *])
  have y4 : w4.cell? ⟨W3.heap.size, 4, none⟩ = some (.slice none 0 0) := oldc hb4 ltT (by simp [go_sem, *])
  have yf : ∀ o, w4.frozen? ⟨W3.heap.size, o, none⟩ = false := fun o => (hb4.frozen (p := ⟨W3.heap.size, o, none⟩) (by simp)).trans (by simp [go_sem])
  obtain ⟨ux1, hux1⟩ : ∃ x, x = txt (Lib.trimPrefix u.data.toList [94]) := ⟨_, rfl⟩
  obtain ⟨b94, hlet_b94⟩ : ∃ r, r = Lib.hasPrefix u.data.toList [94] := ⟨_, rfl⟩
  have HB94 := Lib.hid hlet_b94
  clear hlet_b94
  have HUX1 := Lib.hid hux1
  have sux1 : ux1.size ≤ u.size := by rw [hux1, size_txt]; have := trimPre_len u.data.toList [94]; rw [← Lib.size_eq] at this; exact this
  have HV94 := Lib.hid (show b94 = true → ux1.data.toList = u.data.toList.drop 1 by intro h; rw [hux1, list_txt, trimPre1 (by rw [← HB94.out]; exact h)])
  clear hb4 hux1 HE HU
  go_wp2_with fail
  refine (cutPre_any _ u ⟨#[94]⟩ ux1 b94 HUX1.out HB94.out).mono ?_
  rintro e5 w5 ⟨rfl, hw5⟩
  have hB5 : Below W3.heap.size W3 w5 := by rw [hw5]; exact bwT
  have l_g5 : W3.heap.size < w5.heap.size := by rw [hw5]; simp; omega
  have z0 : w5.cell? ⟨W3.heap.size, 0, none⟩ = some (.string A1) := by rw [hw5]; simp [go_sem, *]
  have z1 : w5.cell? ⟨W3.heap.size, 1, none⟩ = some (.int .i64 e) := by rw [hw5]; simp [go_sem, *]
  have z2 : w5.cell? ⟨W3.heap.size, 2, none⟩ = some (.int .i64 0) := by rw [hw5]; simp [go_sem, *]
  have z3 : w5.cell? ⟨W3.heap.size, 3, none⟩ = some (.slice none 0 0) := by rw [hw5]; simp [go_sem, *]
  have z4 : w5.cell? ⟨W3.heap.size, 4, none⟩ = some (.slice none 0 0) := by rw [hw5]; simp [go_sem, *]
  have zf : ∀ o, w5.frozen? ⟨W3.heap.size, o, none⟩ = false := fun o => by rw [hw5]; simp [go_sem, *]
  clear hw5 y0 y1 y2 y3 y4 yf l_g4 s34 hB4 HUX1
  go_upto_if 49 with fail
  go_cut [7] (fun s7 wx => ∃ (p : Int) (v : ByteArray), s7 = .string v ∧ Hid ((b94 = true → p = 1 ∧ v = ux1) ∧ (b94 = false → p = 0 ∧ v = u)) ∧ v.size ≤ u.size ∧ (0 ≤ p ∧ p ≤ 2) ∧ wx.cell? ⟨W3.heap.size, 0, none⟩ = some (.string A1) ∧ wx.cell? ⟨W3.heap.size, 1, none⟩ = some (.int .i64 e) ∧ wx.cell? ⟨W3.heap.size, 2, none⟩ = some (.int .i64 p) ∧ wx.cell? ⟨W3.heap.size, 3, none⟩ = some (.slice none 0 0) ∧ wx.cell? ⟨W3.heap.size, 4, none⟩ = some (.slice none 0 0) ∧ (∀ o, wx.frozen? ⟨W3.heap.size, o, none⟩ = false) ∧ W3.heap.size < wx.heap.size ∧ Below W3.heap.size W3 wx)
  case first =>
    cases b94
    · go_wp2_with fail
      go_meet
      exact ⟨0, u, rfl, Lib.hid (by simp), Nat.le_refl _, by omega, by simp [go_sem, *], by simp [go_sem, *], by simp [go_sem, *], by simp [go_sem, *], by simp [go_sem, *], (fun o => by simp [go_sem, *]), (by first | omega | (simp; omega)), bwT⟩
    · go_wp2_with fail
      go_meet
      exact ⟨1, ux1, rfl, Lib.hid (by simp), sux1, by omega, by simp [go_sem, *], by simp [go_sem, *], by simp [go_sem, *], by simp [go_sem, *], by simp [go_sem, *], (fun o => by simp [go_sem, *]), (by first | omega | (simp; omega)), bwT⟩
  case rest =>
    clear z0 z1 z2 z3 z4 zf l_g5 hB5
    obtain ⟨p, v, rfl, hpv, hvs, hp, y0, y1, y2, y3, y4, yf, l_g, hBA⟩ := hcut
    obtain ⟨WA, hWA⟩ : ∃ W : World, W = wc := ⟨_, rfl⟩
    subst hWA
    obtain ⟨v1, hv1⟩ : ∃ x, x = txt (Lib.trimSuffix v.data.toList [36]) := ⟨_, rfl⟩
    obtain ⟨b36, hlet_b36⟩ : ∃ r, r = Lib.hasSuffix v.data.toList [36] := ⟨_, rfl⟩
    have HB36 := Lib.hid hlet_b36
    clear hlet_b36
    have HV1 := Lib.hid hv1
    have sv1 : v1.size ≤ v.size := by rw [hv1, size_txt]; have := trimSuf_len v.data.toList [36]; rw [← Lib.size_eq] at this; exact this
    have HV36 := Lib.hid (show b36 = true → v1.data.toList = v.data.toList.dropLast by intro h; rw [hv1, list_txt, trimSuf1 (by rw [← HB36.out]; exact h)])
    clear hv1
    go_wp2_with fail
    refine (cutSuf_any _ v ⟨#[36]⟩ v1 (by unfold maxLen; omega) b36 HV1.out HB36.out).mono ?_
    rintro e6 w6 ⟨rfl, hw6⟩
    obtain rfl := hw6
    go_upto_if 57 with fail
    go_cut [7] (fun s7 wx => ∃ (p2 : Int) (v2 : ByteArray), s7 = .string v2 ∧ Hid (ruleI1 u.data.toList = some (p2, v2.data.toList)) ∧ v2.size ≤ u.size ∧ (0 ≤ p2 ∧ p2 ≤ 2) ∧ wx.cell? ⟨W3.heap.size, 0, none⟩ = some (.string A1) ∧ wx.cell? ⟨W3.heap.size, 1, none⟩ = some (.int .i64 e) ∧ wx.cell? ⟨W3.heap.size, 2, none⟩ = some (.int .i64 p2) ∧ wx.cell? ⟨W3.heap.size, 3, none⟩ = some (.slice none 0 0) ∧ wx.cell? ⟨W3.heap.size, 4, none⟩ = some (.slice none 0 0) ∧ (∀ o, wx.frozen? ⟨W3.heap.size, o, none⟩ = false) ∧ W3.heap.size < wx.heap.size ∧ Below W3.heap.size W3 wx)
    case first =>
      cases b36
      · have HR1 := Lib.hid (show ruleI1 u.data.toList = some (p, v.data.toList) by
          rw [ruleI1, ← HB94.out]
          cases b94
          · obtain ⟨rfl, rfl⟩ := hpv.out.2 rfl
            rw [if_neg (by decide), ← HB36.out]; rfl
          · obtain ⟨rfl, rfl⟩ := hpv.out.1 rfl
            rw [if_pos rfl, ← HV94.out rfl, ← HB36.out]; rfl)
        clear HV1 HB36 HV36 HV94 hpv HB94
        go_wp2_with fail
        go_meet
        exact ⟨p, v, rfl, HR1, hvs, hp, by simp [go_sem, *], by simp [go_sem, *], by simp [go_sem, *], by simp [go_sem, *], by simp [go_sem, *], (fun o => by simp [go_sem, *]), (by first | omega | (simp; omega)), bwT⟩
      · cases b94
        · obtain ⟨rfl, rfl⟩ := hpv.out.2 rfl
          have HR1 := Lib.hid (show ruleI1 v.data.toList = some (2, v1.data.toList) by
            rw [ruleI1, ← HB94.out, if_neg (by decide), ← HB36.out, if_pos rfl, HV36.out rfl])
          clear HV1 HB36 HV36 HV94 hpv HB94
          go_wp2_with fail
          go_meet
          exact ⟨2, v1, rfl, HR1, by omega, by omega, by simp [go_sem, *], by simp [go_sem, *], by simp [go_sem, *], by simp [go_sem, *], by simp [go_sem, *], (fun o => by simp [go_sem, *]), (by first | omega | (simp; omega)), bwT⟩
        · obtain ⟨rfl, rfl⟩ := hpv.out.1 rfl
          obtain rfl : O = none := by
            rw [HO5.out, show ruleI1 u.data.toList = none by rw [ruleI1, ← HB94.out, if_pos rfl, ← HV94.out rfl, ← HB36.out, if_pos rfl]]; rfl
          clear HV1 HB36 HV36 HV94 hpv HB94 HO5
          have q_r0 := oldc hBA l_r p_r0
          have q_r1 := oldc hBA l_r p_r1
          have q_r2 := oldc hBA l_r p_r2
          have q_r3 := oldc hBA l_r p_r3
          have q_r4 := oldc hBA l_r p_r4
          have f_r : ∀ o, w6.frozen? ⟨w.heap.size, o, none⟩ = false := fun o => (hBA.frozen (p := ⟨w.heap.size, o, none⟩) l_r).trans (g_r o)
          have hBw : Below w.heap.size w _ := hB3.trans (hBA.mono s3)
          go_wp2_with fail
          exact bodyPost_ret (v := .tuple #[.agg #[.string ⟨#[]⟩, .int .i64 0, .int .i64 0, .slice none 0 0, .slice none 0 0], .bool false]) (by simp [results, go_sem, *]) rfl ⟨_, _, _, _, _, rfl, nil_rul _ _ _, bwT⟩
    case rest =>
      clear y0 y1 y2 y3 y4 yf l_g hBA HV1 HB36 HV36 HV94 hpv HB94 sv1 hvs hp
      obtain ⟨p2, v2, rfl, HR1, hvs, hp, y0, y1, y2, y3, y4, yf, l_g, hBB⟩ := hcut
      obtain ⟨WB, hWB⟩ : ∃ W : World, W = wc := ⟨_, rfl⟩
      subst hWB
      obtain ⟨F, hF⟩ : ∃ F, F = readI v2.data.toList := ⟨_, rfl⟩
      have HO6 := Lib.hid (show O = F.bind fun f => (if B2.data.toList = [46] then some [] else readI B2.data.toList).bind fun t => if isRule ((A1, e, p2, f, t) : Rul) = true ∧ ruleTxt ((A1, e, p2, f, t) : Rul) = s then some ((A1, e, p2, f, t) : Rul) else none by
        rw [HO5.out, HR1.out, hF]; rfl)
      have HF := Lib.hid hF
      obtain ⟨bF, hlet_bF⟩ : ∃ r, r = F.isSome := ⟨_, rfl⟩
      have HBF := Lib.hid hlet_bF
      clear hlet_bF
      clear hF HO5 HR1
      have sBB := hBB.size
      go_wp2_with fail
      refine (readI_any _ v2 (by omega) F HF.out).mono ?_
      rw [← HBF.out]
      rintro e7 w7 ⟨fv, rfl, hof, hb7⟩
      have s7 := hb7.size
      obtain ⟨fao, fn, fcap, rfl, -⟩ := hof.rd.shape
      have z0 := oldc hb7 l_g y0
      have z1 := oldc hb7 l_g y1
      have z2 := oldc hb7 l_g y2
      have z3 := oldc hb7 l_g y3
      have z4 := oldc hb7 l_g y4
      have zf : ∀ o, w7.frozen? ⟨W3.heap.size, o, none⟩ = false := fun o => (hb7.frozen (p := ⟨W3.heap.size, o, none⟩) l_g).trans (yf o)
      have hB7 : Below W3.heap.size W3 w7 := hBB.trans (hb7.mono sBB)
      have l_g7 : W3.heap.size < w7.heap.size := by omega
      have HOF := Lib.hid hof
      clear hb7 hof y0 y1 y2 y3 y4 yf HF
      have hd := dot_eq B2
      obtain ⟨d46, hlet_d46⟩ : ∃ r, r = decide (B2.data.toList = [46]) := ⟨_, rfl⟩
      have HD := Lib.hid hlet_d46
      clear hlet_d46
      rw [← HD.out] at hd
      obtain ⟨T, hT⟩ : ∃ T, T = if B2.data.toList = [46] then some [] else readI B2.data.toList := ⟨_, rfl⟩
      rw [← hT] at HO6
      have HT := Lib.hid hT
      obtain ⟨bT, hlet_bT⟩ : ∃ r, r = T.isSome := ⟨_, rfl⟩
      have HBT := Lib.hid hlet_bT
      clear hlet_bT
      clear hT
      go_upto_if 71 with fail
      go_cut [16] (fun s16 wx => ∃ (tv : Value), s16 = .bool bT ∧ wx.cell? ⟨W3.heap.size, 0, none⟩ = some (.string A1) ∧ wx.cell? ⟨W3.heap.size, 1, none⟩ = some (.int .i64 e) ∧ wx.cell? ⟨W3.heap.size, 2, none⟩ = some (.int .i64 p2) ∧ wx.cell? ⟨W3.heap.size, 3, none⟩ = some (.slice fao fn fcap) ∧ wx.cell? ⟨W3.heap.size, 4, none⟩ = some tv ∧ (∀ o, wx.frozen? ⟨W3.heap.size, o, none⟩ = false) ∧ W3.heap.size < wx.heap.size ∧ w7.heap.size ≤ wx.heap.size ∧ Hid (Ow WB.heap.size w7.heap.size wx [.slice fao fn fcap] (F.getD [])) ∧ Hid (Ow w7.heap.size wx.heap.size wx [tv] (T.getD [])) ∧ Below W3.heap.size W3 wx)
      case first =>
        cases d46
        · have HT8 := Lib.hid (show T = readI B2.data.toList by rw [HT.out, if_neg (of_decide_eq_false HD.out.symm)])
          clear HT HD
          go_wp2_with fail
          refine (readI_any _ B2 (by omega) T HT8.out).mono ?_
          rw [← HBT.out]
          rintro e8 w8 ⟨tv, rfl, hot, hb8⟩
          have s8 := hb8.size
          simp only [World.size_setCell] at s8
          obtain ⟨tao, tn, tcap, rfl, -⟩ := hot.rd.shape
          have x0 : w8.cell? ⟨W3.heap.size, 0, none⟩ = some (.string A1) := oldc hb8 ltT (by simp [go_sem, *])
          have x1 : w8.cell? ⟨W3.heap.size, 1, none⟩ = some (.int .i64 e) := oldc hb8 ltT (by simp [go_sem, *])
          have x2 : w8.cell? ⟨W3.heap.size, 2, none⟩ = some (.int .i64 p2) := oldc hb8 ltT (by simp [go_sem, *])
          have x3 : w8.cell? ⟨W3.heap.size, 3, none⟩ = some (.slice fao fn fcap) := oldc hb8 ltT (by simp [go_sem, *])
          have x4 : w8.cell? ⟨W3.heap.size, 4, none⟩ = some (.slice none 0 0) := oldc hb8 ltT (by simp [go_sem, *])
          have xf : ∀ o, w8.frozen? ⟨W3.heap.size, o, none⟩ = false := fun o => (hb8.frozen (p := ⟨W3.heap.size, o, none⟩) (by simp; omega)).trans (by simp [go_sem, *])
          have hB8 : Below W3.heap.size W3 w8 := Below.trans (show Below W3.heap.size W3 (w7.setCell ⟨W3.heap.size, 3, none⟩ (.slice fao fn fcap)) from bwT) (hb8.mono (by simp; omega))
          have HOT := Lib.hid hot
          have HOF8 := Lib.hid ((HOF.out.keep (show Zone WB.heap.size w7.heap.size w7 (w7.setCell ⟨W3.heap.size, 3, none⟩ (.slice fao fn fcap)) from zmT)).below hb8)
          clear hot hb8 z0 z1 z2 z3 z4 zf HOF
          go_wp2_with fail
          go_meet
          exact ⟨_, rfl, by simp [go_sem, *], by simp [go_sem, *], by simp [go_sem, *], by simp [go_sem, *], by simp [go_sem, *], (fun o => by simp [go_sem, *]), (by first | omega | (simp; omega)), (by first | omega | (simp; omega)), Lib.hid (HOF8.out.keep zmT), Lib.hid ((HOT.out.keep zmT).mono (by simp) (by simp)), bwT⟩
        · obtain rfl : T = some [] := by rw [HT.out, if_pos (of_decide_eq_true HD.out.symm)]
          obtain rfl : bT = true := HBT.out
          clear HT HD
          go_wp2_with fail
          go_meet
          exact ⟨_, rfl, by simp [go_sem, *], by simp [go_sem, *], by simp [go_sem, *], by simp [go_sem, *], by simp [go_sem, *], (fun o => by simp [go_sem, *]), (by simp; omega), (by simp), Lib.hid (HOF.out.keep zmT), Lib.hid (Ow.nil _ _ _), bwT⟩
      case rest =>
        clear z0 z1 z2 z3 z4 zf HOF HT HD hd
        obtain ⟨tv, rfl, y0, y1, y2, y3, y4, yf, l_g, s7c, HOF, HOT, hBC⟩ := hcut
        obtain ⟨WC, hWC⟩ : ∃ W : World, W = wc := ⟨_, rfl⟩
        subst hWC
        obtain ⟨tao, tn, tcap, rfl, -⟩ := HOT.out.rd.shape
        have hBw : Below w.heap.size w WC := hB3.trans (hBC.mono s3)
        have q_r0 := oldc hBC l_r p_r0
        have q_r1 := oldc hBC l_r p_r1
        have q_r2 := oldc hBC l_r p_r2
        have q_r3 := oldc hBC l_r p_r3
        have q_r4 := oldc hBC l_r p_r4
        have f_r : ∀ o, WC.frozen? ⟨w.heap.size, o, none⟩ = false := fun o => (hBC.frozen (p := ⟨w.heap.size, o, none⟩) l_r).trans (g_r o)
        go_upto_region 20 with fail
        go_cut [94] (fun s94 wx => ∃ bad : Bool, s94 = .bool bad ∧ Hid (bad = true → O = none) ∧ Hid (bad = false → ∃ f t, O = some ((A1, e, p2, f, t) : Rul) ∧ Ow W3.heap.size wx.heap.size wx [.string A1, .int .i64 e, .int .i64 p2, .slice fao fn fcap, .slice tao tn tcap] ((A1, e, p2, f, t) : Rul)) ∧ Below WC.heap.size WC wx)
        case first =>
          cases bF
          · obtain rfl : F = none := by have := HBF.out; cases F; rfl; cases this
            obtain rfl : O = none := HO6.out
            clear HO6 HOF HOT HBT HBF
            go_wp2_with fail
            go_meet
            exact ⟨true, rfl, Lib.hid (fun _ => by first | rfl | trivial), Lib.hid (fun h => by cases h), bwT⟩
          obtain ⟨f, rfl⟩ : ∃ f, F = some f := by have := HBF.out; cases F; cases this; exact ⟨_, rfl⟩
          cases bT
          · obtain rfl : T = none := by have := HBT.out; cases T; rfl; cases this
            obtain rfl : O = none := HO6.out
            clear HO6 HOF HOT HBT HBF
            go_wp2_with fail
            go_meet
            exact ⟨true, rfl, Lib.hid (fun _ => by first | rfl | trivial), Lib.hid (fun h => by cases h), bwT⟩
          obtain ⟨t, rfl⟩ : ∃ t, T = some t := by have := HBT.out; cases T; cases this; exact ⟨_, rfl⟩
          clear HBT HBF
          obtain ⟨r1, hr1⟩ : ∃ r, r = isRule ((A1, e, p2, f, t) : Rul) := ⟨_, rfl⟩
          obtain ⟨K, hK⟩ : ∃ K, K = ruleTxt ((A1, e, p2, f, t) : Rul) := ⟨_, rfl⟩
          have HO7 := Lib.hid (show O = if r1 = true ∧ K = s then some ((A1, e, p2, f, t) : Rul) else none by rw [HO6.out, hr1, hK]; rfl)
          have H1 := Lib.hid hr1
          have HK := Lib.hid hK
          have HRU := Lib.hid (show Ow W3.heap.size WC.heap.size WC [.string A1, .int .i64 e, .int .i64 p2, .slice fao fn fcap, .slice tao tn tcap] ((A1, e, p2, f, t) : Rul) from
            Ow.rul_mk (by unfold maxLen; omega) HI.out (by unfold I64; omega) HOF.out HOT.out (.inl (Nat.le_refl _)) (by omega) (by omega) s7c (Nat.le_refl _))
          clear hr1 hK HO6 HOF HOT q_r0 q_r1 q_r2 q_r3 q_r4 f_r
          go_wp2_with fail
          refine (isRuleI_b _ _ _ _ _ _ (A1, e, p2, f, t) HRU.out.rd r1 H1.out).mono ?_
          rintro e8 w8 ⟨rfl, hb8⟩
          have s8 := hb8.size
          replace y0 := oldc hb8 l_g y0
          replace y1 := oldc hb8 l_g y1
          replace y2 := oldc hb8 l_g y2
          replace y3 := oldc hb8 l_g y3
          replace y4 := oldc hb8 l_g y4
          replace yf : ∀ o, w8.frozen? ⟨W3.heap.size, o, none⟩ = false := fun o => (hb8.frozen (p := ⟨W3.heap.size, o, none⟩) l_g).trans (yf o)
          have HRU8 := Lib.hid (HRU.out.below hb8)
          have l_g8 : W3.heap.size < w8.heap.size := by omega
          cases r1
          · obtain rfl : O = none := by have := HO7.out; rw [this]; simp
            clear HO7 HRU8 HRU
            go_wp2_with fail
            go_meet
            exact ⟨true, rfl, Lib.hid (fun _ => by first | rfl | trivial), Lib.hid (fun h => by cases h), bwT⟩
          go_wp2_with fail
          refine (formatRuleI_x _ _ _ _ _ _ (A1, e, p2, f, t) HRU8.out.rd K HK.out).mono ?_
          rintro e9 w9 ⟨rfl, hb9⟩
          have hb89 : Below WC.heap.size WC w9 := hb8.trans (hb9.mono s8)
          have HRU9 := Lib.hid ((HRU8.out.below hb9).top)
          clear hb9 HRU8 HRU hb8 y0 y1 y2 y3 y4 yf
          by_cases hks : K = s
          · subst hks
            have HOK := Lib.hid (show O = some ((A1, e, p2, f, t) : Rul) by have := HO7.out; rw [this]; simp)
            have q0 : (K.toList == K.toList) = true := by simp
            clear HO7
            go_wp2_with fail
            go_meet
            exact ⟨false, rfl, Lib.hid (fun h => by cases h), Lib.hid (fun _ => ⟨f, t, HOK.out, HRU9.out⟩), bwT⟩
          · obtain rfl : O = none := by have := HO7.out; rw [this]; exact if_neg (fun h => hks h.2)
            have q0 : (K.toList == s.toList) = false := by rw [text_eq, decide_eq_false hks]
            clear HO7 hks HRU9
            go_wp2_with fail
            go_meet
            exact ⟨true, rfl, Lib.hid (fun _ => by first | rfl | trivial), Lib.hid (fun h => by cases h), bwT⟩
        case rest =>
          obtain ⟨bad, rfl, HBd, HGd, hbx⟩ := hcut
          obtain ⟨WD, hWD⟩ : ∃ W : World, W = wc := ⟨_, rfl⟩
          subst hWD
          have sD := hbx.size
          have hBD : Below w.heap.size w WD := hBw.trans (hbx.mono (by omega))
          replace y0 := oldc hbx l_g y0
          replace y1 := oldc hbx l_g y1
          replace y2 := oldc hbx l_g y2
          replace y3 := oldc hbx l_g y3
          replace y4 := oldc hbx l_g y4
          replace yf : ∀ o, WD.frozen? ⟨W3.heap.size, o, none⟩ = false := fun o => (hbx.frozen (p := ⟨W3.heap.size, o, none⟩) l_g).trans (yf o)
          replace q_r0 := oldc hbx (show w.heap.size < _ by omega) q_r0
          replace q_r1 := oldc hbx (show w.heap.size < _ by omega) q_r1
          replace q_r2 := oldc hbx (show w.heap.size < _ by omega) q_r2
          replace q_r3 := oldc hbx (show w.heap.size < _ by omega) q_r3
          replace q_r4 := oldc hbx (show w.heap.size < _ by omega) q_r4
          replace f_r : ∀ o, WD.frozen? ⟨w.heap.size, o, none⟩ = false := fun o => (hbx.frozen (p := ⟨w.heap.size, o, none⟩) (by show w.heap.size < _; omega)).trans (f_r o)
          clear HO6 HOF HOT HBT HBF hbx
          cases bad
          · obtain ⟨f, t, rfl, hru⟩ := HGd.out rfl
            have HRU9 := Lib.hid hru
            clear hru HBd HGd
            go_wp2
            exact bodyPost_ret (v := .tuple #[.agg #[.string A1, .int .i64 e, .int .i64 p2, .slice fao fn fcap, .slice tao tn tcap], .bool true]) (by simp [results, go_sem, *]) rfl ⟨_, _, _, _, _, rfl, (HRU9.out.keep zmT).mono (by omega) (by simp), bwT⟩
          · obtain rfl : O = none := HBd.out rfl
            clear HBd HGd y0 y1 y2 y3 y4 yf
            go_wp2
            exact bodyPost_ret (v := .tuple #[.agg #[.string ⟨#[]⟩, .int .i64 0, .int .i64 0, .slice none 0 0, .slice none 0 0], .bool false]) (by simp [results, go_sem, *]) rfl ⟨_, _, _, _, _, rfl, nil_rul _ _ _, bwT⟩
end Go.Proofs.YtdpkldapobbnpaaGreatDoor
