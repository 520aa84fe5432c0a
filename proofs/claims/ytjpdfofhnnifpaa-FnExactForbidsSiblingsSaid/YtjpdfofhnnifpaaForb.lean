/- Contracts of ForbidsSiblings. -/
import Derived.Test.YtjpdfofhnnifpaaPerm3
namespace Go.Proofs.Ytjpdfofhnnifpaa
open Go.RowKit

def noFix : Nat → List Int → Bool
  | _, [] => true
  | k, x :: xs => if x = k then false else noFix (k + 1) xs
/-- No class marries itself. -/
def forb (c : Cls) : Bool := isCls c && noFix 0 c.1

theorem noFix_no {k : Nat} {x : Int} {xs : List Int} (h : x = k) : noFix k (x :: xs) = false := by rw [noFix, if_pos h]
theorem noFix_yes {k : Nat} {x : Int} {xs : List Int} (h : ¬ x = k) : noFix k (x :: xs) = noFix (k + 1) xs := by rw [noFix, if_neg h]

section
variable {z : Bool} {lo hi : Nat} (w : World) (u v : Value) (c : Cls)
set_option maxHeartbeats 1000000 in
theorem forbI_b (h : Rd z lo hi w [u, v] c) (hl : c.1.length ≤ 1048576) (r : Bool) (hr : r = forb c) :
    Calls Try.prog 33 #[.agg #[u, v]] w (PostB w r) := by
  obtain ⟨xs, q⟩ := c
  have hl : xs.length ≤ 1048576 := hl
  obtain ⟨ao, n, cap, bo, m, dap, rfl, rfl⟩ := shapeCls h
  obtain ⟨hp, hq⟩ := h.two rfl
  dsimp only at hp hq
  obtain ⟨ao', n', cap', e, hn, hnc, hcm, hnone⟩ := hp.shape
  simp only [Value.slice.injEq] at e
  obtain ⟨rfl, rfl, rfl⟩ := e
  subst hn
  obtain ⟨r1, hr1⟩ : ∃ r, r = isCls (xs, q) := ⟨_, rfl⟩
  have H1 := Lib.hid hr1
  have HR := Lib.hid (show r = (r1 && noFix 0 xs) by rw [hr, hr1, forb])
  clear hr hr1
  cases r1
  · obtain rfl : r = false := by rw [HR.out]; rfl
    go_enter Try.func33, Try.ntmps33
    go_wp2_with fail
    refine (isClsI_b _ _ _ _ (h.below (by go_grown)) _ H1.out).mono ?_
    rintro e w1 ⟨rfl, hb1⟩
    have hB1 : Below w.heap.size w w1 := Below.after (by repeat' (first | (with_reducible exact Below.refl _ _) | (with_reducible assumption) | (with_reducible refine Below.alloc ?_ (by first | omega | (simp; omega) | simp) _) | (with_reducible refine Below.setCell ?_ (by first | omega | (simp; omega) | simp) _) | (with_reducible refine Below.drew ?_) | (with_reducible refine below_drewN ?_ _))) hb1 (by first | omega | (simp only [World.size_alloc, World.size_setCell, World.size_drew] at *; omega) | (simp; omega) | simp); have s1 := hb1.size; try simp only [World.size_alloc, World.size_setCell, World.size_drew] at s1
    go_wp2
    go_ret
    exact ⟨rfl, hB1⟩
  · have HN := Lib.hid (show r = noFix 0 xs by rw [HR.out]; simp)
    clear HR hq
    go_enter Try.func33, Try.ntmps33
    go_wp2_with fail
    refine (isClsI_b _ _ _ _ (h.below (by go_grown)) _ H1.out).mono ?_
    rintro e w1 ⟨rfl, hb1⟩
    have hB1 : Below w.heap.size w w1 := Below.after (by repeat' (first | (with_reducible exact Below.refl _ _) | (with_reducible assumption) | (with_reducible refine Below.alloc ?_ (by first | omega | (simp; omega) | simp) _) | (with_reducible refine Below.setCell ?_ (by first | omega | (simp; omega) | simp) _) | (with_reducible refine Below.drew ?_) | (with_reducible refine below_drewN ?_ _))) hb1 (by first | omega | (simp only [World.size_alloc, World.size_setCell, World.size_drew] at *; omega) | (simp; omega) | simp); have s1 := hb1.size; try simp only [World.size_alloc, World.size_setCell, World.size_drew] at s1
    have q0 : w1.cell? ⟨w.heap.size, 0, none⟩ = some (.slice ao xs.length cap) := oldc hb1 (by first | omega | (simp; omega) | (simp; done)) (by simp [go_sem])
    clear hb1 H1 h
    have hp1 := hp.below hB1
    clear hp
    go_wp2
    go_loopw [3, 4, 11] (fun a b i wr => ∃ k : Nat, k ≤ xs.length ∧ i = .int .i64 k ∧ Hid (noFix k (xs.drop k) = r) ∧ wr = w1) (fun _ _ i _ => xs.length - (intOf i).toNat)
    case atStart => exact ⟨0, Nat.zero_le _, rfl, HN.out.symm, rfl⟩
    case round =>
      obtain ⟨k, hk, rfl, hp, rfl⟩ := hrel
      clear HN
      by_cases hlt : k < xs.length
      · obtain ⟨b, off, x, rfl, hx, hc, hx1, hx2, _⟩ := hp1.int_at hlt
        have hp' := hp.out
        rw [drop_cons hx.out] at hp'
        by_cases hxk : x = k
        · subst hxk
          have HF := Lib.hid (hp'.symm.trans (noFix_no rfl))
          obtain rfl := HF.out
          have hbe : ((k : Int) == (k : Int)) = true := by simp
          clear hp hp' hp1 hx HF
          go_wp2
          go_ret
          exact ⟨rfl, hB1⟩
        · have HN := Lib.hid ((noFix_yes hxk).symm.trans hp')
          have hbe : ((k : Int) == x) = false := by simp; omega
          clear hp hp' hp1 hx hxk
          go_wp2
          go_roundw
          case rel => exact ⟨k + 1, by omega, by go_num, HN.out, (by first | rfl | trivial)⟩
          case measure => simp [intOf]; omega
      · have HF := Lib.hid (show r = true by rw [← hp.out, List.drop_eq_nil_of_le (by omega)]; rfl)
        clear hp hp1
        go_wp2
        go_ret
        exact ⟨ret_bool HF.out.symm, hB1⟩

set_option maxHeartbeats 1000000 in
theorem forbS_b (h : Rd z lo hi w [u, v] c) (hl : c.1.length ≤ 1048576) (r : Bool) (hr : r = forb c) :
    Calls Try.prog 32 #[.agg #[u, v]] w (PostB w r) := by
  obtain ⟨xs, q⟩ := c
  have hl : xs.length ≤ 1048576 := hl
  obtain ⟨ao, n, cap, bo, m, dap, rfl, rfl⟩ := shapeCls h
  obtain ⟨hp, hq⟩ := h.two rfl
  dsimp only at hp hq
  obtain ⟨ao', n', cap', e, hn, hnc, hcm, hnone⟩ := hp.shape
  simp only [Value.slice.injEq] at e
  obtain ⟨rfl, rfl, rfl⟩ := e
  subst hn
  obtain ⟨r1, hr1⟩ : ∃ r, r = isCls (xs, q) := ⟨_, rfl⟩
  have H1 := Lib.hid hr1
  have HR := Lib.hid (show r = (noFix 0 xs && r1) by rw [hr, hr1, forb, Bool.and_comm])
  clear hr hr1 hq
  go_enter Try.func32, Try.ntmps32
  go_wp2
  go_loopw [3, 4, 8] (fun a b i wr => ∃ k : Nat, k ≤ xs.length ∧ i = .int .i64 k ∧ Hid ((noFix k (xs.drop k) && r1) = r) ∧ wr = w.alloc (.cells #[.slice ao xs.length cap, .slice bo m dap] 27)) (fun _ _ i _ => xs.length - (intOf i).toNat)
  case atStart => exact ⟨0, Nat.zero_le _, rfl, HR.out.symm, rfl⟩
  case round =>
    obtain ⟨k, hk, rfl, hpp, rfl⟩ := hrel
    clear HR
    by_cases hlt : k < xs.length
    · obtain ⟨b, off, x, rfl, hx, hc, hx1, hx2, _, _, hbw, _⟩ := hp.int_at hlt
      have hp' := hpp.out
      rw [drop_cons hx.out] at hp'
      by_cases hxk : x = k
      · subst hxk
        have HF := Lib.hid (hp'.symm.trans (by rw [noFix_no rfl]; rfl) : r = false)
        obtain rfl := HF.out
        have hbe : ((k : Int) == (k : Int)) = true := by simp
        clear hpp hp' hp hx HF h
        go_wp2
        go_ret
        exact ⟨rfl, (by repeat' (first | (with_reducible exact Below.refl _ _) | (with_reducible assumption) | (with_reducible refine Below.alloc ?_ (by first | omega | (simp; omega) | simp) _) | (with_reducible refine Below.setCell ?_ (by first | omega | (simp; omega) | simp) _) | (with_reducible refine Below.drew ?_) | (with_reducible refine below_drewN ?_ _)))⟩
      · have HN := Lib.hid (show (noFix (k + 1) (xs.drop (k + 1)) && r1) = r by rw [← noFix_yes hxk]; exact hp')
        have hbe : (x == (k : Int)) = false := by simp; omega
        clear hpp hp' hp hx hxk h
        go_wp2
        go_roundw
        case rel => exact ⟨k + 1, by omega, by go_num, HN.out, (by first | rfl | trivial)⟩
        case measure => simp [intOf]; omega
    · have HF := Lib.hid (show r1 = r by rw [← hpp.out, List.drop_eq_nil_of_le (by omega)]; simp [noFix])
      clear hpp hp
      go_wp2_with fail
      refine (isClsS_b _ _ _ _ (h.below (by go_grown)) (by omega) _ H1.out).mono ?_
      rintro e w1 ⟨rfl, hb1⟩
      have hB1 : Below w.heap.size w w1 := Below.after (by repeat' (first | (with_reducible exact Below.refl _ _) | (with_reducible assumption) | (with_reducible refine Below.alloc ?_ (by first | omega | (simp; omega) | simp) _) | (with_reducible refine Below.setCell ?_ (by first | omega | (simp; omega) | simp) _) | (with_reducible refine Below.drew ?_) | (with_reducible refine below_drewN ?_ _))) hb1 (by first | omega | (simp only [World.size_alloc, World.size_setCell, World.size_drew] at *; omega) | (simp; omega) | simp); have s1 := hb1.size; try simp only [World.size_alloc, World.size_setCell, World.size_drew] at s1
      go_wp2
      go_ret
      exact ⟨ret_bool HF.out, hB1⟩
end
end Go.Proofs.Ytjpdfofhnnifpaa
