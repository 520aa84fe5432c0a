/- Contracts of laws.has, laws.who, spec.ParentsOf. -/
import Derived.Test.YtefbbbhidnnchaaMkfB
import Derived.Test.YtefbbbhidnnchaaZ14N
import Derived.Test.YtefbbbhidnnchaaZ14G
namespace Go.Proofs.Ytefbbbhidnnchaa
set_option linter.unusedVariables false
set_option linter.unusedSimpArgs false
open Go.RowKit

set_option maxHeartbeats 4000000 in
theorem hasL_b {z : Bool} {lo hi : Nat} (w : World) (u : Value) (xs : List Int) (h : Rd z lo hi w [u] xs) (x : Int) (r : Bool) (hr : r = decide (x ∈ xs)) :
    Calls Try.prog 11 #[u, .int .i64 x] w (PostB w r) := by
  obtain ⟨ao, n, cap, rfl, hn, hnc, hcm, -⟩ := h.shape
  subst hn
  unfold maxLen at hcm
  have hle : xs.length ≤ 9223372036854775807 := by omega
  clear hcm hnc
  have HH := Lib.hid h
  have HR := Lib.hid hr
  clear h hr
  go_enter Try.func11, Try.ntmps11
  go_wp2
  go_loopw [4, 6, 9] (fun _ _ s9 wi => ∃ i : Nat, i ≤ xs.length ∧ s9 = .int .i64 i ∧ Hid (x ∉ xs.take i) ∧ Below w.heap.size w wi) (fun _ _ s9 _ => xs.length - (intOf s9).toNat)
  case atStart => exact ⟨0, Nat.zero_le _, rfl, Lib.hid (by simp), Below.refl _ _⟩
  case round =>
    obtain ⟨wi, hwi⟩ : ∃ y : World, y = wr := ⟨_, rfl⟩
    subst hwi
    obtain ⟨i, hi, rfl, HN, hb⟩ := hrel
    by_cases hlt : i < xs.length
    · have hiI : (i : Int) < (xs.length : Int) := by omega
      obtain ⟨b, off, y, rfl, hy, y0, -⟩ := (HH.out.below hb).int_at hlt
      have HY := Lib.hid hy.out
      clear hy
      by_cases hxy : x = y
      · have HF := Lib.hid (show r = true by rw [HR.out]; exact decide_eq_true (by rw [hxy]; exact List.mem_of_getElem? HY.out))
        have e1 : (x == y) = true := by simpa using hxy
        clear hxy
        go_wp2
        go_ret
        exact ⟨ret_bool HF.out.symm, hb⟩
      · have HN2 := Lib.hid (show x ∉ xs.take (i + 1) by
          rw [take_snoc HY.out, List.mem_append, List.mem_singleton]
          rintro (h | h)
          · exact HN.out h
          · exact hxy h)
        have e1 : (x == y) = false := by simpa using hxy
        clear hxy
        go_wp2
        go_roundw
        case rel => exact ⟨i + 1, by omega, by go_num, HN2, hb⟩
        case measure => simp [intOf]; omega
    · obtain rfl : i = xs.length := by omega
      have hiI : ¬ (xs.length : Int) < (xs.length : Int) := by omega
      have HF := Lib.hid (show r = false by rw [HR.out]; exact decide_eq_false (by have := HN.out; rwa [List.take_length] at this))
      go_wp2
      go_ret
      exact ⟨ret_bool HF.out.symm, hb⟩
set_option maxHeartbeats 4000000 in
theorem parentsOfS_any {z : Bool} {lo hi : Nat} (w : World) (v v2 : Value) (f : Fam) (h : Rd z lo hi w [v, v2] f) (hf : famB f = true) (k : Nat) {nm : ByteArray} {sx fa mo bo di : Int} (hx : f.1[k]? = some (nm, sx, fa, mo, bo, di)) :
    Calls Try.prog 12 #[.agg #[v, v2], .int .i64 k] w (PostOw w (parX fa mo)) := by
  have hk := (List.getElem?_eq_some_iff.1 hx).1
  obtain ⟨xa, xn, xc, ya, yn, yc, rfl, rfl⟩ := shapeFam h
  have HH := Lib.hid h
  have HX := Lib.hid hx
  clear h hx
  go_enter Try.func12, Try.ntmps12
  go_wp2_with fail
  refine (l1Has_b _ _ _ f (HH.out.below bwT) k true (by rw [hf]; simp [inB, hk])).mono ?_
  rintro e1 w1 ⟨rfl, hbw1⟩
  have hpw1 : Below w.heap.size w w1 := Below.after bwT hbw1 szT
  have sw1 := hpw1.size
  have hBw1 : Below w.heap.size w w1 := hpw1
  have l_f : w.heap.size < w1.heap.size := by have := hbw1.size; simp at this; omega
  have q_f0 : w1.cell? ⟨w.heap.size, 0, none⟩ = some (.slice xa xn xc) := oldc hbw1 ltT (by simp [go_sem])
  have q_f1 : w1.cell? ⟨w.heap.size, 1, none⟩ = some (.slice ya yn yc) := oldc hbw1 ltT (by simp [go_sem])
  clear hbw1 hpw1
  go_wp2_with fail
  refine (l1Parents_any _ _ _ f.1 (HH.out.below hBw1).fam.1 k HX.out).mono ?_
  rintro e w9 ⟨u, rfl, ho, hb⟩
  have hB9 : Below w.heap.size w w9 := hBw1.trans (hb.mono hBw1.size)
  have HO := Lib.hid (ho.mono (lo' := w.heap.size) hBw1.size (Nat.le_refl _))
  clear ho hb
  go_wp2
  go_ret
  exact ⟨_, rfl, HO.out, hB9⟩
set_option maxHeartbeats 4000000 in
theorem who_any {z z' : Bool} {lo hi lo' hi' : Nat} (w : World) (u : Value) (code : List UInt8) (hc : Rd z lo hi w [u] code) (hl : code.length ≤ 1048576) (i : Int) (h0 : 0 ≤ i) (h1 : i ≤ 1000000) (v v2 : Value) (f : Fam) (h : Rd z' lo' hi' w [v, v2] f) (hp : 0 < f.1.length) (hl40 : f.1.length ≤ 40) :
    Calls Try.prog 8 #[u, .int .i64 i, .agg #[v, v2]] w (PostR w 0 ((f.1.length : Int) - 1)) := by
  obtain ⟨ao, n, cap, rfl, hn, -⟩ := (h.fam).1.shape
  subst hn
  have HC := Lib.hid hc
  have hpI : ¬ (f.1.length : Int) = 0 := by omega
  have hpE : ¬ f.1 = [] := fun e => by rw [e] at hp; exact absurd hp (by simp)
  have q0 : (w.alloc (.cells #[.slice ao f.1.length cap, v2] 26)).cell? ⟨w.heap.size, 0, none⟩ = some (.slice ao f.1.length cap) := by simp [go_sem]
  obtain ⟨W0, hW0⟩ : ∃ W : World, W = w.alloc (.cells #[.slice ao f.1.length cap, v2] 26) := ⟨_, rfl⟩
  rw [← hW0] at q0
  have hB0 : Below w.heap.size w W0 := by rw [hW0]; exact bwT
  have lF : w.heap.size < W0.heap.size := by rw [hW0]; simp
  clear h hc
  go_enter Try.func8, Try.ntmps8
  go_upto_region 1 with fail
  rw [← hW0]
  clear hW0
  refine wp_region_held_drew (S := (fun w' => w'.cell? ⟨w.heap.size, 0, none⟩ = some (.slice ao f.1.length cap))) (by kernel_rfl) ?_ (fun hHeld => ?_)
  · first | exact trivial | ((try dsimp only); go_keep)
  refine tkR 0 (v := ?_) ?_ ?_
  rotate_left
  · intro w hSw; (try dsimp only at hSw); go_simp <;> with_reducible rfl
  try simp only [Act.put, List.setIfInBounds_toArray, List.set_cons_zero, List.set_cons_succ]
  refine tkR 1 (v := ?_) ?_ ?_
  rotate_left
  · intro w hSw; (try dsimp only at hSw); go_simp <;> with_reducible rfl
  try simp only [Act.put, List.setIfInBounds_toArray, List.set_cons_zero, List.set_cons_succ]
  refine tkR 3 (v := ?_) ?_ ?_
  rotate_left
  · intro w hSw; (try dsimp only at hSw); go_simp <;> with_reducible rfl
  try simp only [Act.put, List.setIfInBounds_toArray, List.set_cons_zero, List.set_cons_succ]
  refine tkR 4 (v := ?_) ?_ ?_
  rotate_left
  · intro w hSw; (try dsimp only at hSw); go_simp <;> with_reducible rfl
  try simp only [Act.put, List.setIfInBounds_toArray, List.set_cons_zero, List.set_cons_succ]
  refine tkR 5 (v := ?_) ?_ ?_
  rotate_left
  · intro w hSw; (try dsimp only at hSw); go_simp <;> with_reducible rfl
  try simp only [Act.put, List.setIfInBounds_toArray, List.set_cons_zero, List.set_cons_succ]
  refine wpAnyH_ready (rs := [2]) (by kernel_rfl) (by simp) ?_
  refine rdR (fun K hK => ?_) ?_
  · go_simp
    refine (at_any _ _ code (HC.out.below (hB0.trans ?b0)) hl i h0 h1).mono ?_
    case b0 => exact bwT
    rintro e w1 ⟨x, rfl, hx, hb1⟩
    have hp1 : Below W0.heap.size W0 w1 := Below.trans (show Below W0.heap.size W0 _ from bwT) (hb1.mono szT)
    have hS2 := oldc hp1 lF q0
    have hB1 : Below w.heap.size w w1 := hB0.trans (hp1.mono hB0.size)
    have um : x.tmod (f.1.length : Int) = x % (f.1.length : Int) := Int.tmod_eq_emod_of_nonneg hx.1
    have hm0 := Int.emod_nonneg x hpI
    have hm1 := Int.emod_lt_of_pos x (show 0 < (f.1.length : Int) by omega)
    clear hb1 hp1
    refine hK.out _ _ ?_ (fun hHeld => ?_)
    · exact kpT
    clear hK K
    try simp only [Act.put, List.setIfInBounds_toArray, List.set_cons_zero, List.set_cons_succ]
    refine tkR 6 (v := ?_) ?_ ?_
    rotate_left
    · intro w hSw; (try dsimp only at hSw); go_simp <;> with_reducible rfl
    try simp only [Act.put, List.setIfInBounds_toArray, List.set_cons_zero, List.set_cons_succ]
    refine tkR 7 (v := ?_) ?_ ?_
    rotate_left
    · intro w hSw; (try dsimp only at hSw); go_simp <;> with_reducible rfl
    try simp only [Act.put, List.setIfInBounds_toArray, List.set_cons_zero, List.set_cons_succ]
    refine wpAnyH_done (by kernel_rfl) ?_ _
    clear hHeld
    go_wp2
    go_ret
    exact ⟨_, rfl, ⟨hm0, by omega⟩, hB1⟩
  exact AllReadyH.nil
end Go.Proofs.Ytefbbbhidnnchaa
