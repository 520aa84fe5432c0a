/- The walk of the law FnPermutations. -/
import Derived.Test.YtjpdfofhnnifpaaPermLaw
namespace Go.Proofs.Ytjpdfofhnnifpaa
set_option linter.unusedVariables false
set_option linter.unusedSimpArgs false
open Go.RowKit

set_option maxRecDepth 20000 in
set_option maxHeartbeats 4000000 in
theorem walk_FnPermutations (w : World) (c0a : Value) (code : List UInt8) (h0 : Rd false 0 w.heap.size w [c0a] code) :
    Calls Try.prog 5 #[c0a] w (PostB w true) := by
  obtain ⟨ao0, len0, cap0, hcs0, hln0, hcn0, hcm0, -⟩ := h0.shape
  subst hcs0
  subst hln0
  unfold maxLen at hcm0
  have hle0 : code.length ≤ 9223372036854775807 := by omega
  clear hcm0 hcn0
  by_cases hg0 : 1048576 < code.length
  · go_enter Try.func5, Try.ntmps5
    go_wp2
    go_ret
    exact ⟨rfl, (by repeat' (first | (with_reducible exact Below.refl _ _) | (with_reducible assumption) | (with_reducible refine Below.alloc ?_ (by first | omega | (simp; omega) | simp) _) | (with_reducible refine Below.setCell ?_ (by first | omega | (simp; omega) | simp) _) | (with_reducible refine Below.drew ?_) | (with_reducible refine below_drewN ?_ _)))⟩
  have hq1 : code.length ≤ 1048576 := by omega
  go_enter Try.func5, Try.ntmps5
  go_wp2_with fail
  refine (at_any _ _ code (h0.below (by repeat' (first | (with_reducible exact Below.refl _ _) | (with_reducible assumption) | (with_reducible refine Below.alloc ?_ (by first | omega | (simp; omega) | simp) _) | (with_reducible refine Below.setCell ?_ (by first | omega | (simp; omega) | simp) _) | (with_reducible refine Below.drew ?_) | (with_reducible refine below_drewN ?_ _)))) hq1 0 (by omega) (by omega)).mono ?_
  rintro e1 w1 ⟨x, rfl, hx, hbw1⟩
  have hpw1 : Below w.heap.size w w1 := Below.after (by repeat' (first | (with_reducible exact Below.refl _ _) | (with_reducible assumption) | (with_reducible refine Below.alloc ?_ (by first | omega | (simp; omega) | simp) _) | (with_reducible refine Below.setCell ?_ (by first | omega | (simp; omega) | simp) _) | (with_reducible refine Below.drew ?_) | (with_reducible refine below_drewN ?_ _))) hbw1 (by first | omega | (simp only [World.size_alloc, World.size_setCell, World.size_drew] at *; omega) | (simp; omega) | simp)
  have sw1 := hpw1.size
  have hBw1 : Below w.heap.size w w1 := hpw1
  clear hbw1 hpw1
  obtain ⟨m, rfl⟩ := Int.eq_ofNat_of_zero_le hx.1
  have km : ((m : Nat) : Int).tmod 9 = ((m % 9 : Nat) : Int) := by rw [Int.tmod_eq_emod_of_nonneg (by omega)]; omega
  obtain ⟨n, hn⟩ : ∃ n, n = m % 9 := ⟨_, rfl⟩
  have hn8 : n ≤ 8 := by omega
  rw [← hn] at km
  clear hn
  go_wp2_with fail
  refine (fresh_any _ _ code (h0.below (by repeat' (first | (with_reducible exact Below.refl _ _) | (with_reducible assumption) | (with_reducible refine Below.alloc ?_ (by first | omega | (simp; omega) | simp) _) | (with_reducible refine Below.setCell ?_ (by first | omega | (simp; omega) | simp) _) | (with_reducible refine Below.drew ?_) | (with_reducible refine below_drewN ?_ _)))) hq1 1 (by omega) (by omega)).mono ?_
  rintro e2 w2 ⟨f1, ys1, rfl, ho1, hl1, hbw2⟩
  have hpw2 : Below w1.heap.size w1 w2 := Below.after (by repeat' (first | (with_reducible exact Below.refl _ _) | (with_reducible assumption) | (with_reducible refine Below.alloc ?_ (by first | omega | (simp; omega) | simp) _) | (with_reducible refine Below.setCell ?_ (by first | omega | (simp; omega) | simp) _) | (with_reducible refine Below.drew ?_) | (with_reducible refine below_drewN ?_ _))) hbw2 (by first | omega | (simp only [World.size_alloc, World.size_setCell, World.size_drew] at *; omega) | (simp; omega) | simp)
  have sw2 := hpw2.size
  have hBw2 : Below w.heap.size w w2 := Below.trans hBw1 (Below.mono hpw2 hBw1.size)
  clear hbw2 hpw2
  go_wp2_with fail
  refine (makeShuffle_any _ _ ys1 (ho1.rd.below (by repeat' (first | (with_reducible exact Below.refl _ _) | (with_reducible assumption) | (with_reducible refine Below.alloc ?_ (by first | omega | (simp; omega) | simp) _) | (with_reducible refine Below.setCell ?_ (by first | omega | (simp; omega) | simp) _) | (with_reducible refine Below.drew ?_) | (with_reducible refine below_drewN ?_ _)))) (by omega) n (by omega)).mono ?_
  rintro e3 w3 ⟨p, xp, rfl, hop, hxp, hbw3⟩
  have hpw3 : Below w2.heap.size w2 w3 := Below.after (by repeat' (first | (with_reducible exact Below.refl _ _) | (with_reducible assumption) | (with_reducible refine Below.alloc ?_ (by first | omega | (simp; omega) | simp) _) | (with_reducible refine Below.setCell ?_ (by first | omega | (simp; omega) | simp) _) | (with_reducible refine Below.drew ?_) | (with_reducible refine below_drewN ?_ _))) hbw3 (by first | omega | (simp only [World.size_alloc, World.size_setCell, World.size_drew] at *; omega) | (simp; omega) | simp)
  have sw3 := hpw3.size
  have hBw3 : Below w.heap.size w w3 := Below.trans hBw2 (Below.mono hpw3 hBw2.size)
  have ho1 := Ow.below ho1 hpw3
  clear hbw3 hpw3
  clear ho1
  go_wp2_with fail
  refine (fresh_any _ _ code (h0.below (by repeat' (first | (with_reducible exact Below.refl _ _) | (with_reducible assumption) | (with_reducible refine Below.alloc ?_ (by first | omega | (simp; omega) | simp) _) | (with_reducible refine Below.setCell ?_ (by first | omega | (simp; omega) | simp) _) | (with_reducible refine Below.drew ?_) | (with_reducible refine below_drewN ?_ _)))) hq1 2 (by omega) (by omega)).mono ?_
  rintro e4 w4 ⟨f2, ys2, rfl, ho2, hl2, hbw4⟩
  have hpw4 : Below w3.heap.size w3 w4 := Below.after (by repeat' (first | (with_reducible exact Below.refl _ _) | (with_reducible assumption) | (with_reducible refine Below.alloc ?_ (by first | omega | (simp; omega) | simp) _) | (with_reducible refine Below.setCell ?_ (by first | omega | (simp; omega) | simp) _) | (with_reducible refine Below.drew ?_) | (with_reducible refine below_drewN ?_ _))) hbw4 (by first | omega | (simp only [World.size_alloc, World.size_setCell, World.size_drew] at *; omega) | (simp; omega) | simp)
  have sw4 := hpw4.size
  have hBw4 : Below w.heap.size w w4 := Below.trans hBw3 (Below.mono hpw4 hBw3.size)
  have hop := Ow.below hop hpw4
  clear hbw4 hpw4
  go_wp2_with fail
  refine (makeShuffle_any _ _ ys2 (ho2.rd.below (by repeat' (first | (with_reducible exact Below.refl _ _) | (with_reducible assumption) | (with_reducible refine Below.alloc ?_ (by first | omega | (simp; omega) | simp) _) | (with_reducible refine Below.setCell ?_ (by first | omega | (simp; omega) | simp) _) | (with_reducible refine Below.drew ?_) | (with_reducible refine below_drewN ?_ _)))) (by omega) n (by omega)).mono ?_
  rintro e5 w5 ⟨q, xq, rfl, hoq, hxq, hbw5⟩
  have hpw5 : Below w4.heap.size w4 w5 := Below.after (by repeat' (first | (with_reducible exact Below.refl _ _) | (with_reducible assumption) | (with_reducible refine Below.alloc ?_ (by first | omega | (simp; omega) | simp) _) | (with_reducible refine Below.setCell ?_ (by first | omega | (simp; omega) | simp) _) | (with_reducible refine Below.drew ?_) | (with_reducible refine below_drewN ?_ _))) hbw5 (by first | omega | (simp only [World.size_alloc, World.size_setCell, World.size_drew] at *; omega) | (simp; omega) | simp)
  have sw5 := hpw5.size
  have hBw5 : Below w.heap.size w w5 := Below.trans hBw4 (Below.mono hpw5 hBw4.size)
  have hop := Ow.below hop hpw5
  have ho2 := Ow.below ho2 hpw5
  clear hbw5 hpw5
  clear ho2
  obtain ⟨L1, L2, L3, L4, L5, L6⟩ := perms_law hxp.out hxq.out
  have hlp : xp.length ≤ 1048576 := by omega
  have hlq : xq.length ≤ 1048576 := by omega
  have hlpq : (compP xp xq).length ≤ 1048576 := compP_len _ _ hlp
  have hlip : (invP xp).length ≤ 1048576 := invP_len _ hlp
  have hliq : (invP xq).length ≤ 1048576 := invP_len _ hlq
  have H1 := Lib.hid L1.symm
  have H2 := Lib.hid (show true = decide (compP xp (invP xp) = idL n) by rw [L2]; simp)
  have H3 := Lib.hid (show true = decide (compP (invP xp) xp = idL n) by rw [L3]; simp)
  have H4 := Lib.hid (show true = decide (invP (compP xp xq) = compP (invP xq) (invP xp)) by rw [L4]; simp)
  clear L1 L2 L3 L4 L5 L6 hx
  go_wp2
  go_loopw [6, 7] (fun s6 s7 wr => ∃ k : Nat, k ≤ n ∧ s7 = .int .i64 k ∧ GL true w5.heap.size w5.heap.size wr.heap.size wr 3 s6 (idL k) ∧ Below w5.heap.size w5 wr) (fun _ s7 _ => n - (intOf s7).toNat)
  case atStart => exact ⟨0, Nat.zero_le _, rfl, (GL.lit0 _ _ _ _ _ (Nat.le_refl _)).top, (by repeat' (first | (with_reducible exact Below.refl _ _) | (with_reducible assumption) | (with_reducible refine Below.alloc ?_ (by first | omega | (simp; omega) | simp) _) | (with_reducible refine Below.setCell ?_ (by first | omega | (simp; omega) | simp) _) | (with_reducible refine Below.drew ?_) | (with_reducible refine below_drewN ?_ _)))⟩
  case round =>
    rename_i wr
    obtain ⟨k, hk, rfl, hG, hb⟩ := hrel
    have sW := hb.size
    by_cases hlt : k < n
    · have hI : (k : Int) < (n : Int) := by omega
      have hlc : (idL k).length ≤ 1048576 := by rw [idL_len]; omega
      go_wp2_with (at_builtin; refine wpList_push rfl rfl slInt (by show (0 : Nat) < 1; omega) (hG.alloc _) rfl (ad := ⟨wr.heap.size, 0, none⟩) rfl (cs := [.int .i64 k]) (y := (k : Int)) (lx := wr.heap.size) (hx' := wr.heap.size) ?c1 (It.flat (z := true) (w0 := wr) (fp := []) ⟨rfl, ⟨by omega, by omega⟩, rfl⟩) sW (.inl (Nat.le_refl _)) (by unfold maxLen; omega) (by omega) ?c2 ?_)
      case c1 =>
        intro j c hj
        match j, hj with
        | 0, hj => simp at hj; subst hj; simp [Addr.add]
      case c2 => simp; omega
      intro v' wn hG1 _ hb1
      rw [← idL_succ] at hG1
      have HG := Lib.hid hG1
      have hB1 : Below w5.heap.size w5 wn := Below.trans (hb.alloc sW _) hb1
      clear hG hG1 hb1
      go_wp2
      go_roundw
      case rel => exact ⟨k + 1, by omega, by go_num, HG.out, hB1⟩
      case measure => simp [intOf]; omega
    · have hkn : k = n := by omega
      subst hkn
      have hou := hG.ow (l0 := w5.heap.size) (Nat.le_refl _) (Nat.le_refl _)
      clear hG
      have hlu : (idL k).length ≤ 1048576 := by rw [idL_len]; omega
      have hpwr : Below w5.heap.size w5 wr := Below.after (by repeat' (first | (with_reducible exact Below.refl _ _) | (with_reducible assumption) | (with_reducible refine Below.alloc ?_ (by first | omega | (simp; omega) | simp) _) | (with_reducible refine Below.setCell ?_ (by first | omega | (simp; omega) | simp) _) | (with_reducible refine Below.drew ?_) | (with_reducible refine below_drewN ?_ _))) hb (by first | omega | (simp only [World.size_alloc, World.size_setCell, World.size_drew] at *; omega) | (simp; omega) | simp)
      have swr := hpwr.size
      have hBwr : Below w.heap.size w wr := Below.trans hBw5 (Below.mono hpwr hBw5.size)
      have hop := Ow.below hop hpwr
      have hoq := Ow.below hoq hpwr
      go_wp2_with fail
      refine (composeI_any _ _ _ xp xq (hop.rd.below (by repeat' (first | (with_reducible exact Below.refl _ _) | (with_reducible assumption) | (with_reducible refine Below.alloc ?_ (by first | omega | (simp; omega) | simp) _) | (with_reducible refine Below.setCell ?_ (by first | omega | (simp; omega) | simp) _) | (with_reducible refine Below.drew ?_) | (with_reducible refine below_drewN ?_ _)))) (hoq.rd.below (by repeat' (first | (with_reducible exact Below.refl _ _) | (with_reducible assumption) | (with_reducible refine Below.alloc ?_ (by first | omega | (simp; omega) | simp) _) | (with_reducible refine Below.setCell ?_ (by first | omega | (simp; omega) | simp) _) | (with_reducible refine Below.drew ?_) | (with_reducible refine below_drewN ?_ _)))) hlp hlq).mono ?_
      rintro e6 w6 ⟨pq, rfl, hopq, hbw6⟩
      have hpw6 : Below wr.heap.size wr w6 := Below.after (by repeat' (first | (with_reducible exact Below.refl _ _) | (with_reducible assumption) | (with_reducible refine Below.alloc ?_ (by first | omega | (simp; omega) | simp) _) | (with_reducible refine Below.setCell ?_ (by first | omega | (simp; omega) | simp) _) | (with_reducible refine Below.drew ?_) | (with_reducible refine below_drewN ?_ _))) hbw6 (by first | omega | (simp only [World.size_alloc, World.size_setCell, World.size_drew] at *; omega) | (simp; omega) | simp)
      have sw6 := hpw6.size
      have hBw6 : Below w.heap.size w w6 := Below.trans hBwr (Below.mono hpw6 hBwr.size)
      have hop := Ow.below hop hpw6
      have hoq := Ow.below hoq hpw6
      have hou := Ow.below hou hpw6
      clear hbw6 hpw6
      go_wp2_with fail
      refine (isPermI_b _ _ (compP xp xq) (hopq.rd.below (by repeat' (first | (with_reducible exact Below.refl _ _) | (with_reducible assumption) | (with_reducible refine Below.alloc ?_ (by first | omega | (simp; omega) | simp) _) | (with_reducible refine Below.setCell ?_ (by first | omega | (simp; omega) | simp) _) | (with_reducible refine Below.drew ?_) | (with_reducible refine below_drewN ?_ _)))) hlpq _ H1.out).mono ?_
      rintro e7 w7 ⟨rfl, hbw7⟩
      have hpw7 : Below w6.heap.size w6 w7 := Below.after (by repeat' (first | (with_reducible exact Below.refl _ _) | (with_reducible assumption) | (with_reducible refine Below.alloc ?_ (by first | omega | (simp; omega) | simp) _) | (with_reducible refine Below.setCell ?_ (by first | omega | (simp; omega) | simp) _) | (with_reducible refine Below.drew ?_) | (with_reducible refine below_drewN ?_ _))) hbw7 (by first | omega | (simp only [World.size_alloc, World.size_setCell, World.size_drew] at *; omega) | (simp; omega) | simp)
      have sw7 := hpw7.size
      have hBw7 : Below w.heap.size w w7 := Below.trans hBw6 (Below.mono hpw7 hBw6.size)
      have hop := Ow.below hop hpw7
      have hoq := Ow.below hoq hpw7
      have hou := Ow.below hou hpw7
      have hopq := Ow.below hopq hpw7
      clear hbw7 hpw7
      go_wp2_with fail
      refine (inversePermI_any _ _ xp (hop.rd.below (by repeat' (first | (with_reducible exact Below.refl _ _) | (with_reducible assumption) | (with_reducible refine Below.alloc ?_ (by first | omega | (simp; omega) | simp) _) | (with_reducible refine Below.setCell ?_ (by first | omega | (simp; omega) | simp) _) | (with_reducible refine Below.drew ?_) | (with_reducible refine below_drewN ?_ _)))) hlp).mono ?_
      rintro e8 w8 ⟨i1, rfl, hoi1, hbw8⟩
      have hpw8 : Below w7.heap.size w7 w8 := Below.after (by repeat' (first | (with_reducible exact Below.refl _ _) | (with_reducible assumption) | (with_reducible refine Below.alloc ?_ (by first | omega | (simp; omega) | simp) _) | (with_reducible refine Below.setCell ?_ (by first | omega | (simp; omega) | simp) _) | (with_reducible refine Below.drew ?_) | (with_reducible refine below_drewN ?_ _))) hbw8 (by first | omega | (simp only [World.size_alloc, World.size_setCell, World.size_drew] at *; omega) | (simp; omega) | simp)
      have sw8 := hpw8.size
      have hBw8 : Below w.heap.size w w8 := Below.trans hBw7 (Below.mono hpw8 hBw7.size)
      have hop := Ow.below hop hpw8
      have hoq := Ow.below hoq hpw8
      have hou := Ow.below hou hpw8
      have hopq := Ow.below hopq hpw8
      clear hbw8 hpw8
      go_wp2_with fail
      refine (composeI_any _ _ _ xp (invP xp) (hop.rd.below (by repeat' (first | (with_reducible exact Below.refl _ _) | (with_reducible assumption) | (with_reducible refine Below.alloc ?_ (by first | omega | (simp; omega) | simp) _) | (with_reducible refine Below.setCell ?_ (by first | omega | (simp; omega) | simp) _) | (with_reducible refine Below.drew ?_) | (with_reducible refine below_drewN ?_ _)))) (hoi1.rd.below (by repeat' (first | (with_reducible exact Below.refl _ _) | (with_reducible assumption) | (with_reducible refine Below.alloc ?_ (by first | omega | (simp; omega) | simp) _) | (with_reducible refine Below.setCell ?_ (by first | omega | (simp; omega) | simp) _) | (with_reducible refine Below.drew ?_) | (with_reducible refine below_drewN ?_ _)))) hlp hlip).mono ?_
      rintro e9 w9 ⟨c1, rfl, hoc1, hbw9⟩
      have hpw9 : Below w8.heap.size w8 w9 := Below.after (by repeat' (first | (with_reducible exact Below.refl _ _) | (with_reducible assumption) | (with_reducible refine Below.alloc ?_ (by first | omega | (simp; omega) | simp) _) | (with_reducible refine Below.setCell ?_ (by first | omega | (simp; omega) | simp) _) | (with_reducible refine Below.drew ?_) | (with_reducible refine below_drewN ?_ _))) hbw9 (by first | omega | (simp only [World.size_alloc, World.size_setCell, World.size_drew] at *; omega) | (simp; omega) | simp)
      have sw9 := hpw9.size
      have hBw9 : Below w.heap.size w w9 := Below.trans hBw8 (Below.mono hpw9 hBw8.size)
      have hop := Ow.below hop hpw9
      have hoq := Ow.below hoq hpw9
      have hou := Ow.below hou hpw9
      have hopq := Ow.below hopq hpw9
      have hoi1 := Ow.below hoi1 hpw9
      clear hbw9 hpw9
      go_wp2_with fail
      refine (ints_b _ _ _ (compP xp (invP xp)) (idL k) (hoc1.rd.below (by repeat' (first | (with_reducible exact Below.refl _ _) | (with_reducible assumption) | (with_reducible refine Below.alloc ?_ (by first | omega | (simp; omega) | simp) _) | (with_reducible refine Below.setCell ?_ (by first | omega | (simp; omega) | simp) _) | (with_reducible refine Below.drew ?_) | (with_reducible refine below_drewN ?_ _)))) (hou.rd.below (by repeat' (first | (with_reducible exact Below.refl _ _) | (with_reducible assumption) | (with_reducible refine Below.alloc ?_ (by first | omega | (simp; omega) | simp) _) | (with_reducible refine Below.setCell ?_ (by first | omega | (simp; omega) | simp) _) | (with_reducible refine Below.drew ?_) | (with_reducible refine below_drewN ?_ _)))) _ H2.out).mono ?_
      rintro e10 w10 ⟨rfl, hbw10⟩
      have hpw10 : Below w9.heap.size w9 w10 := Below.after (by repeat' (first | (with_reducible exact Below.refl _ _) | (with_reducible assumption) | (with_reducible refine Below.alloc ?_ (by first | omega | (simp; omega) | simp) _) | (with_reducible refine Below.setCell ?_ (by first | omega | (simp; omega) | simp) _) | (with_reducible refine Below.drew ?_) | (with_reducible refine below_drewN ?_ _))) hbw10 (by first | omega | (simp only [World.size_alloc, World.size_setCell, World.size_drew] at *; omega) | (simp; omega) | simp)
      have sw10 := hpw10.size
      have hBw10 : Below w.heap.size w w10 := Below.trans hBw9 (Below.mono hpw10 hBw9.size)
      have hop := Ow.below hop hpw10
      have hoq := Ow.below hoq hpw10
      have hou := Ow.below hou hpw10
      have hopq := Ow.below hopq hpw10
      have hoi1 := Ow.below hoi1 hpw10
      have hoc1 := Ow.below hoc1 hpw10
      clear hbw10 hpw10
      clear hoi1
      clear hoc1
      go_wp2_with fail
      refine (inversePermI_any _ _ xp (hop.rd.below (by repeat' (first | (with_reducible exact Below.refl _ _) | (with_reducible assumption) | (with_reducible refine Below.alloc ?_ (by first | omega | (simp; omega) | simp) _) | (with_reducible refine Below.setCell ?_ (by first | omega | (simp; omega) | simp) _) | (with_reducible refine Below.drew ?_) | (with_reducible refine below_drewN ?_ _)))) hlp).mono ?_
      rintro e11 w11 ⟨i2, rfl, hoi2, hbw11⟩
      have hpw11 : Below w10.heap.size w10 w11 := Below.after (by repeat' (first | (with_reducible exact Below.refl _ _) | (with_reducible assumption) | (with_reducible refine Below.alloc ?_ (by first | omega | (simp; omega) | simp) _) | (with_reducible refine Below.setCell ?_ (by first | omega | (simp; omega) | simp) _) | (with_reducible refine Below.drew ?_) | (with_reducible refine below_drewN ?_ _))) hbw11 (by first | omega | (simp only [World.size_alloc, World.size_setCell, World.size_drew] at *; omega) | (simp; omega) | simp)
      have sw11 := hpw11.size
      have hBw11 : Below w.heap.size w w11 := Below.trans hBw10 (Below.mono hpw11 hBw10.size)
      have hop := Ow.below hop hpw11
      have hoq := Ow.below hoq hpw11
      have hou := Ow.below hou hpw11
      have hopq := Ow.below hopq hpw11
      clear hbw11 hpw11
      go_wp2_with fail
      refine (composeI_any _ _ _ (invP xp) xp (hoi2.rd.below (by repeat' (first | (with_reducible exact Below.refl _ _) | (with_reducible assumption) | (with_reducible refine Below.alloc ?_ (by first | omega | (simp; omega) | simp) _) | (with_reducible refine Below.setCell ?_ (by first | omega | (simp; omega) | simp) _) | (with_reducible refine Below.drew ?_) | (with_reducible refine below_drewN ?_ _)))) (hop.rd.below (by repeat' (first | (with_reducible exact Below.refl _ _) | (with_reducible assumption) | (with_reducible refine Below.alloc ?_ (by first | omega | (simp; omega) | simp) _) | (with_reducible refine Below.setCell ?_ (by first | omega | (simp; omega) | simp) _) | (with_reducible refine Below.drew ?_) | (with_reducible refine below_drewN ?_ _)))) hlip hlp).mono ?_
      rintro e12 w12 ⟨c2, rfl, hoc2, hbw12⟩
      have hpw12 : Below w11.heap.size w11 w12 := Below.after (by repeat' (first | (with_reducible exact Below.refl _ _) | (with_reducible assumption) | (with_reducible refine Below.alloc ?_ (by first | omega | (simp; omega) | simp) _) | (with_reducible refine Below.setCell ?_ (by first | omega | (simp; omega) | simp) _) | (with_reducible refine Below.drew ?_) | (with_reducible refine below_drewN ?_ _))) hbw12 (by first | omega | (simp only [World.size_alloc, World.size_setCell, World.size_drew] at *; omega) | (simp; omega) | simp)
      have sw12 := hpw12.size
      have hBw12 : Below w.heap.size w w12 := Below.trans hBw11 (Below.mono hpw12 hBw11.size)
      have hop := Ow.below hop hpw12
      have hoq := Ow.below hoq hpw12
      have hou := Ow.below hou hpw12
      have hopq := Ow.below hopq hpw12
      have hoi2 := Ow.below hoi2 hpw12
      clear hbw12 hpw12
      go_wp2_with fail
      refine (ints_b _ _ _ (compP (invP xp) xp) (idL k) (hoc2.rd.below (by repeat' (first | (with_reducible exact Below.refl _ _) | (with_reducible assumption) | (with_reducible refine Below.alloc ?_ (by first | omega | (simp; omega) | simp) _) | (with_reducible refine Below.setCell ?_ (by first | omega | (simp; omega) | simp) _) | (with_reducible refine Below.drew ?_) | (with_reducible refine below_drewN ?_ _)))) (hou.rd.below (by repeat' (first | (with_reducible exact Below.refl _ _) | (with_reducible assumption) | (with_reducible refine Below.alloc ?_ (by first | omega | (simp; omega) | simp) _) | (with_reducible refine Below.setCell ?_ (by first | omega | (simp; omega) | simp) _) | (with_reducible refine Below.drew ?_) | (with_reducible refine below_drewN ?_ _)))) _ H3.out).mono ?_
      rintro e13 w13 ⟨rfl, hbw13⟩
      have hpw13 : Below w12.heap.size w12 w13 := Below.after (by repeat' (first | (with_reducible exact Below.refl _ _) | (with_reducible assumption) | (with_reducible refine Below.alloc ?_ (by first | omega | (simp; omega) | simp) _) | (with_reducible refine Below.setCell ?_ (by first | omega | (simp; omega) | simp) _) | (with_reducible refine Below.drew ?_) | (with_reducible refine below_drewN ?_ _))) hbw13 (by first | omega | (simp only [World.size_alloc, World.size_setCell, World.size_drew] at *; omega) | (simp; omega) | simp)
      have sw13 := hpw13.size
      have hBw13 : Below w.heap.size w w13 := Below.trans hBw12 (Below.mono hpw13 hBw12.size)
      have hop := Ow.below hop hpw13
      have hoq := Ow.below hoq hpw13
      have hou := Ow.below hou hpw13
      have hopq := Ow.below hopq hpw13
      have hoi2 := Ow.below hoi2 hpw13
      have hoc2 := Ow.below hoc2 hpw13
      clear hbw13 hpw13
      clear hoi2
      clear hoc2
      go_wp2_with fail
      refine (inversePermI_any _ _ (compP xp xq) (hopq.rd.below (by repeat' (first | (with_reducible exact Below.refl _ _) | (with_reducible assumption) | (with_reducible refine Below.alloc ?_ (by first | omega | (simp; omega) | simp) _) | (with_reducible refine Below.setCell ?_ (by first | omega | (simp; omega) | simp) _) | (with_reducible refine Below.drew ?_) | (with_reducible refine below_drewN ?_ _)))) hlpq).mono ?_
      rintro e14 w14 ⟨i3, rfl, hoi3, hbw14⟩
      have hpw14 : Below w13.heap.size w13 w14 := Below.after (by repeat' (first | (with_reducible exact Below.refl _ _) | (with_reducible assumption) | (with_reducible refine Below.alloc ?_ (by first | omega | (simp; omega) | simp) _) | (with_reducible refine Below.setCell ?_ (by first | omega | (simp; omega) | simp) _) | (with_reducible refine Below.drew ?_) | (with_reducible refine below_drewN ?_ _))) hbw14 (by first | omega | (simp only [World.size_alloc, World.size_setCell, World.size_drew] at *; omega) | (simp; omega) | simp)
      have sw14 := hpw14.size
      have hBw14 : Below w.heap.size w w14 := Below.trans hBw13 (Below.mono hpw14 hBw13.size)
      have hop := Ow.below hop hpw14
      have hoq := Ow.below hoq hpw14
      have hou := Ow.below hou hpw14
      have hopq := Ow.below hopq hpw14
      clear hbw14 hpw14
      go_wp2_with fail
      refine (inversePermI_any _ _ xq (hoq.rd.below (by repeat' (first | (with_reducible exact Below.refl _ _) | (with_reducible assumption) | (with_reducible refine Below.alloc ?_ (by first | omega | (simp; omega) | simp) _) | (with_reducible refine Below.setCell ?_ (by first | omega | (simp; omega) | simp) _) | (with_reducible refine Below.drew ?_) | (with_reducible refine below_drewN ?_ _)))) hlq).mono ?_
      rintro e15 w15 ⟨i4, rfl, hoi4, hbw15⟩
      have hpw15 : Below w14.heap.size w14 w15 := Below.after (by repeat' (first | (with_reducible exact Below.refl _ _) | (with_reducible assumption) | (with_reducible refine Below.alloc ?_ (by first | omega | (simp; omega) | simp) _) | (with_reducible refine Below.setCell ?_ (by first | omega | (simp; omega) | simp) _) | (with_reducible refine Below.drew ?_) | (with_reducible refine below_drewN ?_ _))) hbw15 (by first | omega | (simp only [World.size_alloc, World.size_setCell, World.size_drew] at *; omega) | (simp; omega) | simp)
      have sw15 := hpw15.size
      have hBw15 : Below w.heap.size w w15 := Below.trans hBw14 (Below.mono hpw15 hBw14.size)
      have hop := Ow.below hop hpw15
      have hoq := Ow.below hoq hpw15
      have hou := Ow.below hou hpw15
      have hopq := Ow.below hopq hpw15
      have hoi3 := Ow.below hoi3 hpw15
      clear hbw15 hpw15
      go_wp2_with fail
      refine (inversePermI_any _ _ xp (hop.rd.below (by repeat' (first | (with_reducible exact Below.refl _ _) | (with_reducible assumption) | (with_reducible refine Below.alloc ?_ (by first | omega | (simp; omega) | simp) _) | (with_reducible refine Below.setCell ?_ (by first | omega | (simp; omega) | simp) _) | (with_reducible refine Below.drew ?_) | (with_reducible refine below_drewN ?_ _)))) hlp).mono ?_
      rintro e16 w16 ⟨i5, rfl, hoi5, hbw16⟩
      have hpw16 : Below w15.heap.size w15 w16 := Below.after (by repeat' (first | (with_reducible exact Below.refl _ _) | (with_reducible assumption) | (with_reducible refine Below.alloc ?_ (by first | omega | (simp; omega) | simp) _) | (with_reducible refine Below.setCell ?_ (by first | omega | (simp; omega) | simp) _) | (with_reducible refine Below.drew ?_) | (with_reducible refine below_drewN ?_ _))) hbw16 (by first | omega | (simp only [World.size_alloc, World.size_setCell, World.size_drew] at *; omega) | (simp; omega) | simp)
      have sw16 := hpw16.size
      have hBw16 : Below w.heap.size w w16 := Below.trans hBw15 (Below.mono hpw16 hBw15.size)
      have hop := Ow.below hop hpw16
      have hoq := Ow.below hoq hpw16
      have hou := Ow.below hou hpw16
      have hopq := Ow.below hopq hpw16
      have hoi3 := Ow.below hoi3 hpw16
      have hoi4 := Ow.below hoi4 hpw16
      clear hbw16 hpw16
      go_wp2_with fail
      refine (composeI_any _ _ _ (invP xq) (invP xp) (hoi4.rd.below (by repeat' (first | (with_reducible exact Below.refl _ _) | (with_reducible assumption) | (with_reducible refine Below.alloc ?_ (by first | omega | (simp; omega) | simp) _) | (with_reducible refine Below.setCell ?_ (by first | omega | (simp; omega) | simp) _) | (with_reducible refine Below.drew ?_) | (with_reducible refine below_drewN ?_ _)))) (hoi5.rd.below (by repeat' (first | (with_reducible exact Below.refl _ _) | (with_reducible assumption) | (with_reducible refine Below.alloc ?_ (by first | omega | (simp; omega) | simp) _) | (with_reducible refine Below.setCell ?_ (by first | omega | (simp; omega) | simp) _) | (with_reducible refine Below.drew ?_) | (with_reducible refine below_drewN ?_ _)))) hliq hlip).mono ?_
      rintro e17 w17 ⟨c3, rfl, hoc3, hbw17⟩
      have hpw17 : Below w16.heap.size w16 w17 := Below.after (by repeat' (first | (with_reducible exact Below.refl _ _) | (with_reducible assumption) | (with_reducible refine Below.alloc ?_ (by first | omega | (simp; omega) | simp) _) | (with_reducible refine Below.setCell ?_ (by first | omega | (simp; omega) | simp) _) | (with_reducible refine Below.drew ?_) | (with_reducible refine below_drewN ?_ _))) hbw17 (by first | omega | (simp only [World.size_alloc, World.size_setCell, World.size_drew] at *; omega) | (simp; omega) | simp)
      have sw17 := hpw17.size
      have hBw17 : Below w.heap.size w w17 := Below.trans hBw16 (Below.mono hpw17 hBw16.size)
      have hop := Ow.below hop hpw17
      have hoq := Ow.below hoq hpw17
      have hou := Ow.below hou hpw17
      have hopq := Ow.below hopq hpw17
      have hoi3 := Ow.below hoi3 hpw17
      have hoi4 := Ow.below hoi4 hpw17
      have hoi5 := Ow.below hoi5 hpw17
      clear hbw17 hpw17
      go_wp2_with fail
      refine (ints_b _ _ _ (invP (compP xp xq)) (compP (invP xq) (invP xp)) (hoi3.rd.below (by repeat' (first | (with_reducible exact Below.refl _ _) | (with_reducible assumption) | (with_reducible refine Below.alloc ?_ (by first | omega | (simp; omega) | simp) _) | (with_reducible refine Below.setCell ?_ (by first | omega | (simp; omega) | simp) _) | (with_reducible refine Below.drew ?_) | (with_reducible refine below_drewN ?_ _)))) (hoc3.rd.below (by repeat' (first | (with_reducible exact Below.refl _ _) | (with_reducible assumption) | (with_reducible refine Below.alloc ?_ (by first | omega | (simp; omega) | simp) _) | (with_reducible refine Below.setCell ?_ (by first | omega | (simp; omega) | simp) _) | (with_reducible refine Below.drew ?_) | (with_reducible refine below_drewN ?_ _)))) _ H4.out).mono ?_
      rintro e18 w18 ⟨rfl, hbw18⟩
      have hpw18 : Below w17.heap.size w17 w18 := Below.after (by repeat' (first | (with_reducible exact Below.refl _ _) | (with_reducible assumption) | (with_reducible refine Below.alloc ?_ (by first | omega | (simp; omega) | simp) _) | (with_reducible refine Below.setCell ?_ (by first | omega | (simp; omega) | simp) _) | (with_reducible refine Below.drew ?_) | (with_reducible refine below_drewN ?_ _))) hbw18 (by first | omega | (simp only [World.size_alloc, World.size_setCell, World.size_drew] at *; omega) | (simp; omega) | simp)
      have sw18 := hpw18.size
      have hBw18 : Below w.heap.size w w18 := Below.trans hBw17 (Below.mono hpw18 hBw17.size)
      have hop := Ow.below hop hpw18
      have hoq := Ow.below hoq hpw18
      have hou := Ow.below hou hpw18
      have hopq := Ow.below hopq hpw18
      have hoi3 := Ow.below hoi3 hpw18
      have hoi4 := Ow.below hoi4 hpw18
      have hoi5 := Ow.below hoi5 hpw18
      have hoc3 := Ow.below hoc3 hpw18
      clear hbw18 hpw18
      go_wp2
      go_ret
      exact ⟨rfl, (by repeat' (first | (with_reducible exact Below.refl _ _) | (with_reducible assumption) | (with_reducible refine Below.alloc ?_ (by first | omega | (simp; omega) | simp) _) | (with_reducible refine Below.setCell ?_ (by first | omega | (simp; omega) | simp) _) | (with_reducible refine Below.drew ?_) | (with_reducible refine below_drewN ?_ _)))⟩
end Go.Proofs.Ytjpdfofhnnifpaa
