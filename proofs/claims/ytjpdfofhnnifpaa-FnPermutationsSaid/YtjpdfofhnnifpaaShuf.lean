/- Contracts: permutations drawn; lists compared by the laws. -/
import Derived.Test.YtjpdfofhnnifpaaCur
import Derived.Test.YtjpdfofhnnifpaaCan
namespace Go.Proofs.Ytjpdfofhnnifpaa
set_option linter.unusedVariables false
set_option linter.unusedSimpArgs false
open Go.RowKit

section
variable {z z' : Bool} {lo hi lo' hi' : Nat} (w : World) (u v : Value) (xs ys : List Int)
set_option maxHeartbeats 1000000 in
theorem ints_b (h : Rd z lo hi w [u] xs) (h' : Rd z' lo' hi' w [v] ys) (r : Bool) (hr : r = decide (xs = ys)) :
    Calls Try.prog 30 #[u, v] w (PostB w r) := by
  subst hr
  obtain ⟨ao, n, cap, rfl, rfl, hnc, hcm, hnone⟩ := h.shape
  obtain ⟨ao', n', cap', rfl, rfl, hnc', hcm', hnone'⟩ := h'.shape
  unfold maxLen at *
  by_cases hl : xs.length = ys.length
  · have HL := Lib.hid hl
    have hl1 : ¬ xs.length < ys.length := by omega
    have hl2 : ¬ ys.length < xs.length := by omega
    have hbne : (((xs.length : Int)) != (ys.length : Int)) = false := by simp [hl]
    clear hl
    go_enter Try.func30, Try.ntmps30
    go_wp2
    go_loopw [5, 13] (fun _ i wr => ∃ k : Nat, k ≤ xs.length ∧ i = .int .i64 k ∧ Hid (xs.take k = ys.take k) ∧ Below w.heap.size w wr) (fun _ i _ => xs.length - (intOf i).toNat)
    case atStart => exact ⟨0, Nat.zero_le _, rfl, rfl, Below.refl _ _⟩
    case round =>
      obtain ⟨k, hk, rfl, ht, hb⟩ := hrel
      by_cases hlt : k < xs.length
      · obtain ⟨b, off, x, rfl, hx, hc, hx1, hx2, _⟩ := (h.below hb).int_at hlt
        obtain ⟨b', off', y, rfl, hy, hc', hy1, hy2, _⟩ := (h'.below hb).int_at (show k < ys.length by omega)
        have hlt' : k < ys.length := by omega
        have hI : (k : Int) < (xs.length : Int) := by omega
        have hI' : (k : Int) < (ys.length : Int) := by omega
        clear h h'
        by_cases hxy : x = y
        · subst hxy
          have HT : Hid (xs.take (k + 1) = ys.take (k + 1)) := by rw [take_snoc hx.out, take_snoc hy.out, ht.out]; rfl
          clear ht hx hy
          go_wp2_with fail
          go_quiet (fail)
          go_wp2
          go_roundw
          case rel => exact ⟨k + 1, by omega, by go_num, HT, below_drewN hb _⟩
          case measure => simp [intOf]; omega
        · have hne : (x != y) = true := by simpa using hxy
          have HF : Hid (decide (xs = ys) = false) := by
            simp only [decide_eq_false_iff_not]
            intro e; subst e
            have := hx.out.symm.trans hy.out
            simp at this; exact hxy this
          clear ht hx hy hxy
          go_wp2_with fail
          go_quiet (fail)
          go_wp2
          go_ret
          exact ⟨ret_bool HF.out.symm, below_drewN hb _⟩
      · have HF : Hid (decide (xs = ys) = true) := by
          have e := ht.out
          rw [List.take_of_length_le (by omega), List.take_of_length_le (by omega)] at e
          exact decide_eq_true e
        clear h h' ht
        go_wp2
        go_ret
        exact ⟨ret_bool HF.out.symm, hb⟩
  · have HF : Hid (decide (xs = ys) = false) := by
      simp only [decide_eq_false_iff_not]
      intro e; subst e; exact hl rfl
    have hbne : (((xs.length : Int)) != (ys.length : Int)) = true := by simp; omega
    clear hl h h'
    go_enter Try.func30, Try.ntmps30
    go_wp2
    go_ret
    exact ⟨ret_bool HF.out.symm, Below.refl _ _⟩
end

def PostShuf (n : Nat) (w : World) (e : Ending) (w' : World) : Prop := ∃ u xs, e = .returned u ∧ Ow w.heap.size w'.heap.size w' [u] (xs : List Int) ∧ Hid (xs.Perm (idL n)) ∧ Below w.heap.size w w'
def PostShufC (p n : Nat) (w : World) (e : Ending) (w' : World) : Prop := ∃ u xs, e = .returned u ∧ Ow w.heap.size w'.heap.size w' [u] (xs : List Int) ∧ Hid (xs.Perm (idL n)) ∧ CurOk p w' ∧ OffF [p] w w'

theorem OffF.belowA {fp : List Nat} {a w w' : World} (h : OffF fp a w) (k : Below a.heap.size w w') : OffF fp a w' :=
  ⟨k.os.trans h.os, k.tape.trans h.tape, k.output.trans h.output, Nat.le_trans h.size k.size, fun i hi hn => (k.block i hi).trans (h.block i hi hn)⟩
theorem swap_perm {xs : List Int} {k m : Nat} {a : Int} (hk : xs.length = k) (ha : (xs ++ [(k : Int)])[m]? = some a) : (((xs ++ [(k : Int)]).set k a).set m (k : Int)).Perm (xs ++ [(k : Int)]) := by
  obtain ⟨hm, rfl⟩ := List.getElem?_eq_some_iff.1 ha
  have hk2 : k < (xs ++ [(k : Int)]).length := by simp; omega
  have e : (xs ++ [(k : Int)])[k] = (k : Int) := by subst hk; simp
  have := List.set_set_perm (i := k) (j := m) hk2 hm
  rw [e] at this
  exact this

set_option maxRecDepth 20000 in
set_option maxHeartbeats 2000000 in
theorem l6Shuffle_any (w : World) (p : Nat) (h : CurOk p w) (n : Nat) (hn : n ≤ 40) :
    Calls Try.prog 62 #[.pointer (some ⟨p, 0, none⟩), .int .i64 n] w (PostShufC p n w) := by
  have hp := h.lt
  go_enter Try.func62, Try.ntmps62
  go_wp2
  go_loopw [5, 6] (fun s5 s6 wr => ∃ (k : Nat) (xs : List Int), k ≤ n ∧ s6 = .int .i64 k ∧ GL true w.heap.size w.heap.size wr.heap.size wr 3 s5 xs ∧ Hid (xs.Perm (idL k)) ∧ CurOk p wr ∧ OffF [p] w wr) (fun _ s6 _ => n - (intOf s6).toNat)
  case atStart => exact ⟨0, [], Nat.zero_le _, rfl, (GL.lit0 _ _ _ _ _ (Nat.le_refl _)).top, Lib.hid (List.Perm.refl _), h.grow (by repeat' (first | (with_reducible exact Below.refl _ _) | (with_reducible assumption) | (with_reducible refine Below.alloc ?_ (by first | omega | (simp; omega) | simp) _) | (with_reducible refine Below.setCell ?_ (by first | omega | (simp; omega) | simp) _) | (with_reducible refine Below.drew ?_) | (with_reducible refine below_drewN ?_ _))), (by repeat' (first | (with_reducible exact OffF.refl _ _) | (with_reducible assumption) | (with_reducible refine offF_drewN ?_ _) | (with_reducible refine OffF.drew ?_) | (with_reducible refine OffF.setCell ?_ (by simp) _) | (with_reducible refine OffF.alloc ?_ _)))⟩
  case round =>
    rename_i wr
    clear h
    obtain ⟨k, xs, hk, rfl, hG, hX, hC, hO⟩ := hrel
    have sW := hO.size
    have hxl : xs.length = k := by rw [hX.out.length_eq, idL_len]
    by_cases hlt : k < n
    · have hI : (k : Int) < (n : Int) := by omega
      have q1 : wrap64 ((k : Int) + 1) = (k : Int) + 1 := IntWalk.wrap64_in _ (by omega)
      go_wp2_with fail
      refine (l01Below_any _ p hC _ (by omega) (by omega)).mono ?_
      rintro e w1 ⟨r, rfl, ⟨hr0, hr1⟩, hC1, hO1⟩
      obtain ⟨m, rfl⟩ := Int.eq_ofNat_of_zero_le hr0
      have hz1 : Zone w.heap.size wr.heap.size wr w1 := hO1.zone (lo := p) (hi := p + 1) (Nat.le_refl _) (fun b hb => by simp at hb; omega) (by omega)
      have hG1 := (hG.keep hz1 hz1).top
      have hO2 := hO.trans hO1
      have s1 := hO1.size
      clear hC hG hO hO1 hz1
      go_wp2_with (at_builtin; refine wpList_push rfl rfl slInt (by show (0 : Nat) < 1; omega) (hG1.alloc _) rfl (ad := ⟨w1.heap.size, 0, none⟩) rfl (cs := [.int .i64 k]) (y := (k : Int)) (lx := w1.heap.size) (hx' := w1.heap.size) ?c1 (It.flat (z := true) (w0 := wr) (fp := []) ⟨rfl, ⟨by omega, by omega⟩, rfl⟩) (by omega) (.inl (Nat.le_refl _)) (by unfold maxLen; omega) (by omega) ?c2 ?_)
      case c1 =>
        intro j c hj
        match j, hj with
        | 0, hj => simp at hj; subst hj; simp [Addr.add]
      case c2 => simp; omega
      intro v' w2 hG2 _ hb2
      have hb2' : Below w.heap.size w1 w2 := Below.trans (by repeat' (first | (with_reducible exact Below.refl _ _) | (with_reducible assumption) | (with_reducible refine Below.alloc ?_ (by first | omega | (simp; omega) | simp) _) | (with_reducible refine Below.setCell ?_ (by first | omega | (simp; omega) | simp) _) | (with_reducible refine Below.drew ?_) | (with_reducible refine below_drewN ?_ _))) hb2
      have hC2 := hC1.below (hb2'.mono (by omega))
      have hO3 : OffF [p] w w2 := hO2.belowA hb2'
      have hmk : m ≤ k := by omega
      obtain ⟨g, cp, a, rfl, ha, hca, hIa, hg1, hg2, hg3, hgf⟩ := hG2.int_at (i := m) (by simp; omega)
      obtain ⟨g', cp', a', ee, ha', hca', -⟩ := hG2.int_at (i := k) (by simp; omega)
      simp only [Value.slice.injEq, Option.some.injEq, Addr.mk.injEq, and_true, true_and] at ee
      obtain ⟨rfl, rfl⟩ := ee
      have hln : (xs ++ [(k : Int)]).length = k + 1 := by simp; omega
      have HP := Lib.hid (show (((xs ++ [(k : Int)]).set k a).set m (k : Int)).Perm (idL (k + 1)) by
        refine (swap_perm hxl ha.out).trans ?_
        rw [idL_succ]
        exact List.Perm.append_right _ hX.out)
      have HG := Lib.hid ((hG2.put (i := k) (by omega) hIa).put (i := m) (y := (k : Int)) (by omega) ⟨by omega, by omega⟩)
      have hmI : (m : Int) < (k : Int) + 1 := by omega
      have hkI : (k : Int) < (k : Int) + 1 := by omega
      have s2 := hO3.size
      have pg : ¬ p = g := by omega
      have pg' : ¬ g = p := by omega
      have hEnd : ∀ (W : World), Below w.heap.size w2 W → CurOk p W ∧ OffF [p] w W := fun W hb => ⟨hC2.below (hb.mono (by omega)), hO3.belowA hb⟩
      have HEnd := Lib.hid hEnd
      clear hEnd hX ha ha' hG2 hb2 hb2' hO2 hO3 hC1 hC2 hG1
      have z1 : w.heap.size ≤ g := hg1
      by_cases hm : m = k
      · subst hm
        obtain rfl : a = a' := by
          have := hca.symm.trans hca'
          simpa using this
        clear hca'
        go_wp2
        go_roundw
        case rel => exact ⟨m + 1, _, by omega, by go_num, HG.out.top, HP, HEnd.out _ (by repeat' (first | (with_reducible exact Below.refl _ _) | (with_reducible assumption) | (with_reducible refine Below.alloc ?_ (by first | omega | (simp; omega) | simp) _) | (with_reducible refine Below.setCell ?_ (by first | omega | (simp; omega) | simp) _) | (with_reducible refine Below.drew ?_) | (with_reducible refine below_drewN ?_ _)))⟩
        case measure => simp [intOf]; omega
      · have hm' : ¬ k = m := fun e => hm e.symm
        go_wp2
        go_roundw
        case rel => exact ⟨k + 1, _, by omega, by go_num, HG.out.top, HP, HEnd.out _ (by repeat' (first | (with_reducible exact Below.refl _ _) | (with_reducible assumption) | (with_reducible refine Below.alloc ?_ (by first | omega | (simp; omega) | simp) _) | (with_reducible refine Below.setCell ?_ (by first | omega | (simp; omega) | simp) _) | (with_reducible refine Below.drew ?_) | (with_reducible refine below_drewN ?_ _)))⟩
        case measure => simp [intOf]; omega
    · have hkn : k = n := by omega
      have HO := Lib.hid (hG.ow (l0 := w.heap.size) (Nat.le_refl _) (Nat.le_refl _))
      clear hG
      subst hkn
      go_wp2
      go_ret
      exact ⟨_, xs, rfl, HO.out, hX, hC, hO⟩

set_option maxHeartbeats 2000000 in
theorem makeShuffle_any {z : Bool} {lo hi : Nat} (w : World) (v : Value) (code : List UInt8) (h : Rd z lo hi w [v] code) (hl : code.length ≤ 1048576) (n : Nat) (hn : n ≤ 40) :
    Calls Try.prog 27 #[v, .int .i64 n] w (PostShuf n w) := by
  have q1 : min (n : Int) 40 = n := by omega
  have q2 : max 0 (n : Int) = n := by omega
  rcases Nat.eq_zero_or_pos n with rfl | hpos
  · go_enter Try.func27, Try.ntmps27
    go_wp2_with fail
    refine (l01New_any _ _ code (h.below (by repeat' (first | (with_reducible exact Below.refl _ _) | (with_reducible assumption) | (with_reducible refine Below.alloc ?_ (by first | omega | (simp; omega) | simp) _) | (with_reducible refine Below.setCell ?_ (by first | omega | (simp; omega) | simp) _) | (with_reducible refine Below.drew ?_) | (with_reducible refine below_drewN ?_ _)))) hl).mono ?_
    rintro e w1 ⟨p, rfl, hp, hC, hb1⟩
    clear h
    go_wp2_with fail
    refine (l6Shuffle_any _ p hC 0 hn).mono ?_
    rintro e w2 ⟨u, xs, rfl, hO, hX, -, hF⟩
    have hB : Below w.heap.size w w2 := hb1.trans (hF.toBelow hb1.size (fun b hb => by simp at hb; omega))
    go_wp2
    go_ret
    exact ⟨_, xs, rfl, hO.mono hb1.size (Nat.le_refl _), hX, hB⟩
  have hposI : (0 : Int) < (n : Int) := by omega
  go_enter Try.func27, Try.ntmps27
  go_wp2_with fail
  refine (l01New_any _ _ code (h.below (by repeat' (first | (with_reducible exact Below.refl _ _) | (with_reducible assumption) | (with_reducible refine Below.alloc ?_ (by first | omega | (simp; omega) | simp) _) | (with_reducible refine Below.setCell ?_ (by first | omega | (simp; omega) | simp) _) | (with_reducible refine Below.drew ?_) | (with_reducible refine below_drewN ?_ _)))) hl).mono ?_
  rintro e w1 ⟨p, rfl, hp, hC, hb1⟩
  clear h
  go_wp2_with fail
  all_goals
    refine (l6Shuffle_any _ p hC n hn).mono ?_
    rintro e w2 ⟨u, xs, rfl, hO, hX, -, hF⟩
    have hB : Below w.heap.size w w2 := hb1.trans (hF.toBelow hb1.size (fun b hb => by simp at hb; omega))
    go_wp2
    go_ret
    exact ⟨_, xs, rfl, hO.mono hb1.size (Nat.le_refl _), hX, hB⟩
end Go.Proofs.Ytjpdfofhnnifpaa
