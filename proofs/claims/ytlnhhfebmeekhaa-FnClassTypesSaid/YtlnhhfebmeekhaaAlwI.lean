/- Contracts of AllowsType (impl) and sexOf. Written by alw_gen.py. -/
import Derived.Test.YtlnhhfebmeekhaaTPmI
import Derived.Test.YtlnhhfebmeekhaaLex
namespace Go.Proofs.Ytlnhhfebmeekhaa
set_option linter.unusedVariables false
set_option linter.unusedSimpArgs false
open Go.RowKit

def allowB (c : Cls) (t : Kin) : Bool := tpV c t && (decide (typePm c t = c.1) && (decide (egoOf t = 1) && decide (sexOf t = 2)))
set_option maxHeartbeats 1000000 in
theorem sexOfI_any {z : Bool} {lo hi : Nat} (w : World) (a b : Value) (t : Kin) (h : Rd z lo hi w [a, b] t) (ht : isKin t = true) (R : Int) (hR : R = sexOf t) : Calls Try.prog 68 #[.agg #[a, b]] w (PostI w R) := by
  obtain ⟨rfl, hI, hb⟩ := h.kin
  have HK := Lib.hid (isKin_facts ht)
  have HR := Lib.hid hR
  clear h hR ht
  obtain ⟨ao, n, cap, rfl, hn, hnc, hcm, hnone⟩ := hb.shape
  subst hn
  unfold maxLen at *
  clear hnone
  obtain ⟨L, hL⟩ : ∃ L, L = t.2.length := ⟨_, rfl⟩
  rw [← hL]
  rw [← hL] at hnc hb
  by_cases h0 : L = 0
  · have HF := Lib.hid (show R = t.1 by rw [HR.out, sexOf, List.getLast?_eq_getElem?, List.getElem?_eq_none (by omega)])
    subst h0
    clear HK HR hb hL
    go_enter Try.func68, Try.ntmps68
    go_wp2
    go_ret
    exact ⟨ret_int HF.out.symm, bwT⟩
  · obtain ⟨m, hm⟩ : ∃ m, L = m + 1 := ⟨L - 1, by omega⟩
    obtain ⟨sb, soff, ki, ag, rfl, hx, c0, c1, -, -, -, -, sbl, -⟩ := hb.stp_at (i := m) (show m < L by omega)
    have hki := (HK.out.2.2.2 _ (List.mem_of_getElem? hx.out)).1
    have HX := Lib.hid (show R = stSex ki by rw [HR.out, sexOf, List.getLast?_eq_getElem?, ← hL, hm, Nat.add_sub_cancel, hx.out])
    have n0 : ((L : Int) == 0) = false := by simp; omega
    have q2 : (L : Int) - 1 = (m : Int) := by omega
    have q : wrap64 (m : Int) = (m : Int) := IntWalk.wrap64_in _ (by omega)
    have hml : (m : Int) < (L : Int) := by omega
    dsimp only at hki
    clear HK HR hb hx hm h0 hL
    go_enter Try.func68, Try.ntmps68
    go_wp2_with fail
    refine (stepSexI_any _ ki hki).mono ?_
    rintro e1 w1 ⟨rfl, hbw1⟩
    have hpw1 : Below w.heap.size w w1 := Below.after bwT hbw1 szT
    have sw1 := hpw1.size
    have hBw1 : Below w.heap.size w w1 := hpw1
    have l_t : w.heap.size < w1.heap.size := by have := hbw1.size; simp at this; omega
    have q_t0 : w1.cell? ⟨w.heap.size, 0, none⟩ = some (.int .i64 t.1) := oldc hbw1 ltT (by simp [go_sem])
    have q_t1 : w1.cell? ⟨w.heap.size, 1, none⟩ = some (.slice (some ⟨sb, soff, none⟩) L cap) := oldc hbw1 ltT (by simp [go_sem])
    clear hbw1 hpw1
    rw [← HX.out]
    go_wp2
    go_ret
    exact ⟨rfl, hBw1⟩
set_option maxRecDepth 20000 in
set_option maxHeartbeats 4000000 in
theorem allowsI_b {z z1 : Bool} {lo hi lo1 hi1 : Nat} (w : World) (u v a b : Value) (c : Cls) (t : Kin) (h : Rd z lo hi w [u, v] c) (h' : Rd z1 lo1 hi1 w [a, b] t) (hl1 : c.1.length ≤ 1048576) (r : Bool) (hr : r = allowB c t) : Calls Try.prog 59 #[.agg #[u, v], .agg #[a, b]] w (PostB w r) := by
  obtain ⟨hw, hq⟩ := h.two rfl
  obtain ⟨bo, n3, dap, rfl, hn3, hnc3, hcm3, hnone3⟩ := hw.shape
  obtain ⟨bo2, n4, dap2, rfl, hn4, hnc4, hcm4, hnone4⟩ := hq.shape
  subst hn3 hn4
  obtain ⟨rfl, hI, hb⟩ := h'.kin
  obtain ⟨ao, n, cap, rfl, hn, hnc, hcm, hnone⟩ := hb.shape
  subst hn
  obtain ⟨V, hlet_V⟩ : ∃ r, r = tpV c t := ⟨_, rfl⟩
  have H1 := Lib.hid hlet_V
  clear hlet_V
  have HR := Lib.hid (show r = (V && (decide (typePm c t = c.1) && (decide (egoOf t = 1) && decide (sexOf t = 2)))) by rw [hr, allowB, H1.out])
  clear hr hnone hnone3 hnone4 hq hb
  go_enter Try.func59, Try.ntmps59
  go_wp2_with fail
  refine (typePmI_any _ _ _ _ _ c t (h.below bwT) (h'.below bwT) hl1 V H1.out).mono ?_
  rintro e2 w2 ⟨up, rfl, ho, hbw2⟩
  have hpw2 : Below w.heap.size w w2 := Below.after bwT hbw2 szT
  have sw2 := hpw2.size
  have hBw2 : Below w.heap.size w w2 := hpw2
  have l_c : w.heap.size < w2.heap.size := by have := hbw2.size; simp at this; omega
  have q_c0 : w2.cell? ⟨w.heap.size, 0, none⟩ = some (.slice bo c.1.length dap) := oldc hbw2 ltT (by simp [go_sem])
  have q_c1 : w2.cell? ⟨w.heap.size, 1, none⟩ = some (.slice bo2 c.2.length dap2) := oldc hbw2 ltT (by simp [go_sem])
  have l_t : w.heap.size + 1 < w2.heap.size := by have := hbw2.size; simp at this; omega
  have q_t0 : w2.cell? ⟨w.heap.size + 1, 0, none⟩ = some (.int .i64 t.1) := oldc hbw2 ltT (by simp [go_sem])
  have q_t1 : w2.cell? ⟨w.heap.size + 1, 1, none⟩ = some (.slice ao t.2.length cap) := oldc hbw2 ltT (by simp [go_sem])
  clear hbw2 hpw2
  obtain ⟨p1, p2, p3, rfl, -⟩ := ho.rd.shape
  cases V
  · have HF := Lib.hid (show r = false by rw [HR.out]; rfl)
    clear ho h h' hw HR H1
    go_wp2
    go_ret
    exact ⟨ret_bool HF.out.symm, hBw2⟩
  have HX := Lib.hid (show tpX c t = typePm c t by rw [tpX, if_pos H1.out.symm])
  have hkin := Lib.hid (show isKin t = true by have := H1.out.symm; simp only [tpV, Bool.and_eq_true] at this; exact this.2.1)
  obtain ⟨r2, hlet_r2⟩ : ∃ r, r = decide (tpX c t = c.1) := ⟨_, rfl⟩
  have H2 := Lib.hid hlet_r2
  clear hlet_r2
  go_wp2_with fail
  refine (sameInts_b _ _ _ _ _ (ho.rd.below (Below.refl _ _)) (hw.below bwT) r2 H2.out).mono ?_
  rintro e3 w3 ⟨rfl, hbw3⟩
  have hpw3 : Below w2.heap.size w2 w3 := Below.after bwT hbw3 szT
  have sw3 := hpw3.size
  have hBw3 : Below w.heap.size w w3 := Below.trans hBw2 (Below.mono hpw3 hBw2.size)
  have q_c0 := oldc hpw3 l_c q_c0
  have q_c1 := oldc hpw3 l_c q_c1
  have q_t0 := oldc hpw3 l_t q_t0
  have q_t1 := oldc hpw3 l_t q_t1
  have l_c := Nat.lt_of_lt_of_le l_c sw3
  have l_t := Nat.lt_of_lt_of_le l_t sw3
  have ho := Ow.below ho hpw3
  clear hbw3 hpw3
  have E2 := Lib.hid (show decide (typePm c t = c.1) = r2 by rw [← HX.out]; exact H2.out.symm)
  clear ho
  clear hw HX H2
  cases r2
  · skip
    have HF := Lib.hid (show r = false by rw [HR.out, E2.out]; simp)
    clear h h' HR E2 H1 hkin
    go_wp2
    go_ret
    exact ⟨ret_bool HF.out.symm, hBw3⟩
  obtain ⟨eg, hlet_eg⟩ : ∃ r, r = egoOf t := ⟨_, rfl⟩
  have H3 := Lib.hid hlet_eg
  clear hlet_eg
  go_wp2_with fail
  refine (egoI_any _ _ _ t (h'.below bwT) eg H3.out).mono ?_
  rintro e4 w4 ⟨rfl, hbw4⟩
  have hpw4 : Below w3.heap.size w3 w4 := Below.after bwT hbw4 szT
  have sw4 := hpw4.size
  have hBw4 : Below w.heap.size w w4 := Below.trans hBw3 (Below.mono hpw4 hBw3.size)
  have q_c0 := oldc hpw4 l_c q_c0
  have q_c1 := oldc hpw4 l_c q_c1
  have q_t0 := oldc hpw4 l_t q_t0
  have q_t1 := oldc hpw4 l_t q_t1
  have l_c := Nat.lt_of_lt_of_le l_c sw4
  have l_t := Nat.lt_of_lt_of_le l_t sw4
  clear hbw4 hpw4
  by_cases he : eg = 1
  rotate_left
  · have neg : (eg == 1) = false := by simpa using he
    have E3 := Lib.hid (show decide (egoOf t = 1) = false by rw [← H3.out]; simpa using he)
    have HF := Lib.hid (show r = false by rw [HR.out, E3.out]; simp)
    clear h h' HR E2 H1 H3 hkin
    go_wp2
    go_ret
    exact ⟨ret_bool HF.out.symm, hBw4⟩
  subst he
  have E3 := Lib.hid (show decide (egoOf t = 1) = true by rw [← H3.out]; rfl)
  obtain ⟨sx, hlet_sx⟩ : ∃ r, r = sexOf t := ⟨_, rfl⟩
  have H4 := Lib.hid hlet_sx
  clear hlet_sx
  go_wp2_with fail
  refine (sexOfI_any _ _ _ t (h'.below bwT) hkin.out sx H4.out).mono ?_
  rintro e5 w5 ⟨rfl, hbw5⟩
  have hpw5 : Below w4.heap.size w4 w5 := Below.after bwT hbw5 szT
  have sw5 := hpw5.size
  have hBw5 : Below w.heap.size w w5 := Below.trans hBw4 (Below.mono hpw5 hBw4.size)
  have q_c0 := oldc hpw5 l_c q_c0
  have q_c1 := oldc hpw5 l_c q_c1
  have q_t0 := oldc hpw5 l_t q_t0
  have q_t1 := oldc hpw5 l_t q_t1
  have l_c := Nat.lt_of_lt_of_le l_c sw5
  have l_t := Nat.lt_of_lt_of_le l_t sw5
  clear hbw5 hpw5
  have HF := Lib.hid (show r = (sx == 2) by rw [HR.out, E2.out, E3.out, ← H4.out]; rfl)
  clear h h' HR E2 E3 H1 H3 H4 hkin
  go_wp2
  go_ret
  exact ⟨ret_bool HF.out.symm, hBw5⟩
end Go.Proofs.Ytlnhhfebmeekhaa
