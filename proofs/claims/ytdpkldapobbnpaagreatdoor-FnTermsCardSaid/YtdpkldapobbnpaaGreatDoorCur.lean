/- Contracts: the cursor from which the reference draws. -/
import Derived.Test.YtdpkldapobbnpaaGreatDoorBytes
import Derived.Test.YtdpkldapobbnpaaGreatDoorBase
namespace Go.Proofs.YtdpkldapobbnpaaGreatDoor
set_option linter.unusedVariables false
set_option linter.unusedSimpArgs false
open Go.RowKit
theorem bits_and_le (x m : Int) (h0 : 0 ≤ m) (h1 : m ≤ 9223372036854775807) : 0 ≤ bits BinOp.and IntKind.i64 x m ∧ bits BinOp.and IntKind.i64 x m ≤ m := by
 have hm : (BitVec.ofInt 64 m).toNat = m.toNat := by
  rw [BitVec.toNat_ofInt]; congr 1; omega
 have h2 : (BitVec.ofInt 64 x &&& BitVec.ofInt 64 m).toNat ≤ m.toNat := by
  rw [BitVec.toNat_and, hm]; exact Nat.and_le_right
 have h3 : bits BinOp.and IntKind.i64 x m = IntKind.i64.wrap ((BitVec.ofInt 64 x &&& BitVec.ofInt 64 m).toNat : Int) := rfl
 rw [h3, IntWalk.i64_in _ (by omega)]
 omega
theorem i64_wrap64 (x : Int) : I64 (wrap64 x) := by
 rw [← IntWalk.i64_left]
 have := wrap_within .i64 x
 simp only [IntKind.min, IntKind.max, IntKind.bits, IntKind.signed] at this
 unfold I64; simp at this; omega
def CurOk (p : Nat) (w : World) : Prop :=
 ∃ (v : Value) (code : List UInt8) (i : Nat) (h : Int), w.cell? ⟨p, 0, none⟩ = some v ∧ w.cell? ⟨p, 1, none⟩ = some (.int .i64 i) ∧ w.cell? ⟨p, 2, none⟩ = some (.int .i64 h) ∧ Rd false 0 p w [v] code ∧ code.length ≤ 1048576 ∧ i ≤ code.length ∧ I64 h ∧ p < w.heap.size ∧ ∀ o, w.frozen? ⟨p, o, none⟩ = false
theorem CurOk.below {p : Nat} {w w' : World} (h : CurOk p w) (hb : Below (p + 1) w w') : CurOk p w' := by
 obtain ⟨v, code, i, hh, c0, c1, c2, hr, hl, hi, hI, hp, hf⟩ := h
 exact ⟨v, code, i, hh, oldc hb (by omega) c0, oldc hb (by omega) c1, oldc hb (by omega) c2, hr.keep ((Below.zone hb 0).mono (Nat.le_refl _) (by omega)), hl, hi, hI, Nat.lt_of_lt_of_le hp hb.size, fun o => (hb.frozen (p := ⟨p, o, none⟩) (show p < p + 1 by omega)).trans (hf o)⟩
theorem CurOk.lt {p : Nat} {w : World} (h : CurOk p w) : p < w.heap.size := by obtain ⟨_, _, _, _, _, _, _, _, _, _, _, hp, _⟩ := h; exact hp
theorem CurOk.grow {p : Nat} {w w' : World} (h : CurOk p w) (hb : Below w.heap.size w w') : CurOk p w' := h.below (hb.mono (by have := h.lt; omega))
def PostC (p : Nat) (w : World) (lo hi : Int) (e : Ending) (w' : World) : Prop := ∃ r : Int, e = .returned (.int .i64 r) ∧ (lo ≤ r ∧ r ≤ hi) ∧ CurOk p w' ∧ OffF [p] w w'
section
variable (w : World)
set_option maxHeartbeats 2000000 in
theorem l01Byte_any (p : Nat) (h : CurOk p w) :
  Calls Tryz.prog 113 #[.pointer (some ⟨p, 0, none⟩)] w (PostC p w 0 255) := by
 obtain ⟨v, code, i, hh, c0, c1, c2, hr, hl, hi, hI, hp, hf⟩ := h
 obtain ⟨ao, n, cap, rfl, rfl, hnc, hcm, hnone⟩ := hr.shape
 unfold maxLen at *
 have hpm : p ∈ [p] := by simp
 by_cases hlt : i < code.length
 ·obtain ⟨b, off, x, rfl, hcx, hx1, hx2, hb, hb0⟩ := hr.byte_at hlt
  have hlI : (i : Int) < (code.length : Int) := by omega
  have hbp : ¬ p = b := by omega
  have hbp' : ¬ b = p := by omega
  have hrp : Rd false 0 p w [.slice (some ⟨b, off, none⟩) code.length cap] code := hr
  have hw : wrap64 ((i : Int) + 1) = (i : Int) + 1 := IntWalk.wrap64_in _ (by omega)
  have HR := Lib.hid hr
  clear hr hrp
  go_enter Tryz.func113, Tryz.ntmps113
  go_wp2_with fail
  go_quiet (fail)
  go_wp2_with fail
  go_quiet (fail)
  go_wp2_with fail
  go_quiet (fail)
  go_wp2
  go_ret
  refine ⟨_, rfl, bits_and_le _ _ (by omega) (by omega), ?_, (by repeat' (first | (with_reducible exact OffF.refl _ _) | (with_reducible assumption) | (with_reducible refine offF_drewN ?_ _) | (with_reducible refine OffF.drew ?_) | (with_reducible refine OffF.setCell ?_ (by simp) _) | (with_reducible refine OffF.alloc ?_ _)))⟩
  refine ⟨_, code, i + 1, wrap64 (wrap64 (hh * 6364136223846793005) + 1442695040888963407), by simp [go_sem, c0], by simp [go_sem, c1], by simp [go_sem, c2], HR.out.keep zgT, hl, by omega, ?_, by simpa using hp, fun o => by simp [go_sem, hf]⟩
  exact i64_wrap64 _
 ·have hI' : ¬ (i : Int) < (code.length : Int) := by omega
  have HR := Lib.hid hr
  clear hr
  go_enter Tryz.func113, Tryz.ntmps113
  go_wp2_with fail
  go_quiet (fail)
  go_wp2_with fail
  go_quiet (fail)
  go_wp2
  go_ret
  refine ⟨_, rfl, bits_and_le _ _ (by omega) (by omega), ?_, (by repeat' (first | (with_reducible exact OffF.refl _ _) | (with_reducible assumption) | (with_reducible refine offF_drewN ?_ _) | (with_reducible refine OffF.drew ?_) | (with_reducible refine OffF.setCell ?_ (by simp) _) | (with_reducible refine OffF.alloc ?_ _)))⟩
  refine ⟨_, code, i, wrap64 (wrap64 (hh * 6364136223846793005) + 1442695040888963407), by simp [go_sem, c0], by simp [go_sem, c1], by simp [go_sem, c2], HR.out.keep zgT, hl, by omega, ?_, by simpa using hp, fun o => by simp [go_sem, hf]⟩
  exact i64_wrap64 _
set_option maxHeartbeats 2000000 in
theorem l01Below_any (p : Nat) (h : CurOk p w) (n : Int) (h0 : 0 < n) (h1 : n ≤ 256) :
  Calls Tryz.prog 78 #[.pointer (some ⟨p, 0, none⟩), .int .i64 n] w (PostC p w 0 (n - 1)) := by
 have k0 : ¬ n ≤ 0 := by omega
 have kz : ¬ n = 0 := by omega
 go_enter Tryz.func78, Tryz.ntmps78
 go_wp2_with fail
 refine (l01Byte_any _ p h).mono ?_
 rintro e w1 ⟨r, rfl, ⟨hr0, hr1⟩, hc, ho⟩
 have k1 : r.tmod n = r % n := Int.tmod_eq_emod_of_nonneg hr0
 have k2 : 0 ≤ r % n := Int.emod_nonneg _ (by omega)
 have k3 : r % n < n := Int.emod_lt_of_pos _ h0
 clear h
 go_wp2
 go_ret
 exact ⟨_, rfl, (by omega), hc, ho⟩
theorem u8_of (m : Int) : ∃ y : UInt8, ((y.toNat : Nat) : Int) = m % 256 := by
 refine ⟨UInt8.ofNat (m % 256).toNat, ?_⟩
 have h2 : (UInt8.ofNat (m % 256).toNat).toNat = (m % 256).toNat := by simp; omega
 rw [h2]; omega
def PostFresh (w : World) (e : Ending) (w' : World) : Prop := ∃ u ys, e = .returned u ∧ Ow w.heap.size w'.heap.size w' [u] (ys : List UInt8) ∧ ys.length ≤ 601 ∧ Below w.heap.size w w'
def PostNew (w : World) (e : Ending) (w' : World) : Prop := ∃ p, e = .returned (.pointer (some ⟨p, 0, none⟩)) ∧ w.heap.size ≤ p ∧ CurOk p w' ∧ Below w.heap.size w w'
theorem slByte : SlTy Tryz.prog 31 5 (.int .u8 0) 1 1 := SlTy.of Tryz.underlying31 (by kernel_rfl) rfl
theorem GL.lit1 {α : Type} [FlatRep α] (nd : Bool) (lo lo' : Nat) (w : World) (E : TypeId) {v : Value} {y : α} (h : lo ≤ w.heap.size) (hr : Rep.rep nd w [v] y []) : GL nd lo lo' (w.heap.size + 1) (w.alloc (.cells #[v] E)) E (.slice (some ⟨w.heap.size, 0, none⟩) 1 1) [y] := by
 have hs := Rep.len hr
 have h2 := (FlatRep.flat hr).2 nd (w.alloc (.cells #[v] E))
 refine ⟨[[v]], [[]], ?_, ⟨h2, trivial⟩, by simp, by simp [Value.ownBlock], fun _ => by simp⟩
 have hs' : 1 = Rep.sz α := hs
 exact ⟨by simp [← hs'], .inr ⟨w.heap.size, 1, #[v], rfl, h, heap_alloc_new w _, Nat.le_refl _, by simp [maxLen], by simp [← hs'], by simp [← hs']⟩⟩
set_option maxHeartbeats 2000000 in
theorem fresh_any {z : Bool} {lo hi : Nat} (v : Value) (xs : List UInt8) (h : Rd z lo hi w [v] xs) (hl : xs.length ≤ 1048576) (k : Int) (h0 : 0 ≤ k) (h1 : k ≤ 255) :
  Calls Tryz.prog 14 #[v, .int .i64 k] w (PostFresh w) := by
 obtain ⟨ao, n, cap, rfl, rfl, hnc, hcm, hnone⟩ := h.shape
 unfold maxLen at *
 obtain ⟨y0, hy0⟩ : ∃ y : UInt8, ((y.toNat : Nat) : Int) = k := by
  refine ⟨UInt8.ofNat k.toNat, ?_⟩
  have : (UInt8.ofNat k.toNat).toNat = k.toNat := by simp; omega
  rw [this]; omega
 have HY := Lib.hid hy0
 clear hy0
 go_enter Tryz.func14, Tryz.ntmps14
 go_wp2
 go_loopw [5, 6] (fun s5 s6 wr => ∃ (j : Nat) (ys : List UInt8), j ≤ xs.length ∧ j ≤ 600 ∧ s6 = .int .i64 j ∧ ys.length = j + 1 ∧ GL true w.heap.size w.heap.size wr.heap.size wr 5 s5 ys ∧ Below w.heap.size w wr) (fun _ s6 _ => 600 - (intOf s6).toNat)
 case atStart => exact ⟨0, [y0], Nat.zero_le _, Nat.zero_le _, rfl, rfl, (GL.lit1 _ _ _ _ _ (Nat.le_refl _) (by rw [← HY.out]; exact ⟨rfl, rfl⟩)).top, bwT⟩
 case round =>
  rename_i wr
  obtain ⟨j, ys, hj, hj6, rfl, hys, hG, hb⟩ := hrel
  have sW := hb.size
  by_cases hlt : j < xs.length
  ·have hI : (j : Int) < (xs.length : Int) := by omega
   by_cases hlt6 : j < 600
   ·have hI6 : (j : Int) < 600 := by omega
    obtain ⟨b, off, x, rfl, hcx, hx1, hx2, -, -⟩ := (h.below hb).byte_at hlt
    obtain ⟨m, hm⟩ : ∃ m, m = (j : Int).tmod 7 := ⟨_, rfl⟩
    have hm2 : 0 ≤ m ∧ m ≤ 6 := by
     rw [hm, Int.tmod_eq_emod_of_nonneg (by omega)]; omega
    have hm' := hm.symm
    obtain ⟨P, hP⟩ : ∃ P, P = k * (m + 1) := ⟨_, rfl⟩
    have hP2 : 0 ≤ P ∧ P ≤ 1785 := by
     rw [hP]
     have h3 := Int.mul_nonneg h0 (show 0 ≤ m + 1 by omega)
     have h2 := Int.mul_le_mul h1 (show m + 1 ≤ 7 by omega) (by omega) (by omega : (0 : Int) ≤ 255)
     omega
    have hP' := hP.symm
    have q1 : wrap64 (m + 1) = m + 1 := IntWalk.wrap64_in _ (by omega)
    have q2 : wrap64 (x * 3) = x * 3 := IntWalk.wrap64_in _ (by omega)
    have q3 : wrap64 P = P := IntWalk.wrap64_in _ (by omega)
    have q4 : wrap64 (x * 3 + P) = x * 3 + P := IntWalk.wrap64_in _ (by omega)
    obtain ⟨y, hy⟩ := u8_of (x * 3 + P)
    have HYY := Lib.hid hy
    clear hm hP hy h
    go_wp2_with (at_builtin; refine wpList_push rfl rfl slByte (by show (0 : Nat) < 1; omega) (hG.alloc _) rfl (ad := ⟨wr.heap.size, 0, none⟩) rfl (cs := [.int .u8 ((x * 3 + P) % 256)]) (y := y) (lx := wr.heap.size) (hx' := wr.heap.size) ?c1 (It.flat (z := true) (w0 := wr) (fp := []) (by rw [← HYY.out]; exact ⟨rfl, rfl⟩)) (by omega) (.inl (Nat.le_refl _)) (by unfold maxLen; omega) (by omega) ?c2 ?_)
    case c1 =>
     intro j c hj
     match j, hj with
     | 0, hj => simp at hj; subst hj; simp [Addr.add]
    case c2 => simp; omega
    intro v' w1 hG1 _ hb1
    have HG := Lib.hid hG1
    have hB1 : Below w.heap.size w w1 := Below.trans (hb.alloc sW _) hb1
    clear hG hG1 hb1
    go_wp2
    go_roundw
    case rel => exact ⟨j + 1, _, by omega, by omega, by go_num, by simp; omega, HG.out, hB1⟩
    case measure => simp [intOf]; omega
   ·have hI6 : ¬ (j : Int) < 600 := by omega
    have HO := Lib.hid (hG.ow (l0 := w.heap.size) (Nat.le_refl _) (Nat.le_refl _))
    clear hG h
    go_wp2
    go_ret
    exact ⟨_, ys, rfl, HO.out, by omega, hb⟩
  ·have hI : ¬ (j : Int) < (xs.length : Int) := by omega
   have HO := Lib.hid (hG.ow (l0 := w.heap.size) (Nat.le_refl _) (Nat.le_refl _))
   clear hG h
   go_wp2
   go_ret
   exact ⟨_, ys, rfl, HO.out, by omega, hb⟩
set_option maxHeartbeats 2000000 in
theorem l01New_any {z : Bool} {lo hi : Nat} (v : Value) (xs : List UInt8) (h : Rd z lo hi w [v] xs) (hl : xs.length ≤ 1048576) :
  Calls Tryz.prog 36 #[v] w (PostNew w) := by
 obtain ⟨ao, n, cap, rfl, rfl, hnc, hcm, hnone⟩ := h.shape
 unfold maxLen at *
 have p1 : wrap64 (3221 + (xs.length : Int)) = 3221 + (xs.length : Int) := IntWalk.wrap64_in _ (by omega)
 go_enter Tryz.func36, Tryz.ntmps36
 go_wp2
 go_loopw [3, 4] (fun s3 s4 wr => ∃ (j : Nat) (hh : Int), j ≤ xs.length ∧ j ≤ 4000 ∧ s4 = .int .i64 j ∧ s3 = .int .i64 hh ∧ (0 ≤ hh ∧ hh ≤ 1073741824) ∧ wr = w) (fun _ s4 _ => 4000 - (intOf s4).toNat)
 case atStart => exact ⟨0, _, Nat.zero_le _, Nat.zero_le _, rfl, rfl, (by omega), rfl⟩
 case round =>
  obtain ⟨j, hh, hj, hj6, rfl, rfl, hh0, hwf⟩ := hrel
  subst hwf
  have fin : ∀ (hv : Int), 0 ≤ hv ∧ hv ≤ 1073741824 → CurOk wr.heap.size (wr.alloc (.cells #[.slice ao xs.length cap, .int .i64 0, .int .i64 hv] 101)) := by
   intro hv hv0
   exact ⟨_, xs, 0, hv, by simp [go_sem], by simp [go_sem], by simp [go_sem], (h.weak.all).keep zgT, hl, Nat.zero_le _, ⟨by omega, by omega⟩, by simp, fun o => by simp [go_sem]⟩
  have FIN := Lib.hid fin
  clear fin p1
  by_cases hlt : j < xs.length
  ·have hI : (j : Int) < (xs.length : Int) := by omega
   by_cases hlt6 : j < 4000
   ·have hI6 : (j : Int) < 4000 := by omega
    obtain ⟨b, off, x, rfl, hcx, hx1, hx2, -, -⟩ := h.byte_at hlt
    have q1 : wrap64 (hh * 1103) = hh * 1103 := IntWalk.wrap64_in _ (by omega)
    have q2 : wrap64 (hh * 1103 + x) = hh * 1103 + x := IntWalk.wrap64_in _ (by omega)
    have q3 : wrap64 (hh * 1103 + x + 7) = hh * 1103 + x + 7 := IntWalk.wrap64_in _ (by omega)
    have q4 := bits_and_le (hh * 1103 + x + 7) 1073741823 (by omega) (by omega)
    clear h FIN
    go_wp2
    go_roundw
    case rel => exact ⟨j + 1, _, by omega, by omega, by go_num, rfl, by omega, by trivial⟩
    case measure => simp [intOf]; omega
   ·have hI6 : ¬ (j : Int) < 4000 := by omega
    clear h
    go_wp2
    go_ret
    exact ⟨_, rfl, Nat.le_refl _, FIN.out _ hh0, bwT⟩
  ·have hI : ¬ (j : Int) < (xs.length : Int) := by omega
   clear h
   go_wp2
   go_ret
   exact ⟨_, rfl, Nat.le_refl _, FIN.out _ hh0, bwT⟩
end
end Go.Proofs.YtdpkldapobbnpaaGreatDoor
