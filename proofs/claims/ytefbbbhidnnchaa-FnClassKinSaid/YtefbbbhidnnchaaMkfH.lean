/- Contracts of laws.has, laws.who, spec.ParentsOf. -/
import Derived.Test.YtefbbbhidnnchaaMkfB
import Derived.Test.YtefbbbhidnnchaaZ14N
import Derived.Test.YtefbbbhidnnchaaZ14G
namespace Go.Proofs.Ytefbbbhidnnchaa
set_option linter.unusedVariables false
set_option linter.unusedSimpArgs false
open Go.RowKit

set_option maxHeartbeats 4000000 in
theorem who_any {z z' : Bool} {lo hi lo' hi' : Nat} (w : World) (u : Value) (code : List UInt8) (hc : Rd z lo hi w [u] code) (hl : code.length ≤ 1048576) (i : Int) (h0 : 0 ≤ i) (h1 : i ≤ 1000000) (v v2 : Value) (f : Fam) (h : Rd z' lo' hi' w [v, v2] f) (hp : 0 < f.1.length) (hl40 : f.1.length ≤ 40) :
    Calls Try.prog 8 #[u, .int .i64 i, .agg #[v, v2]] w (PostR w 0 ((f.1.length : Int) - 1)) := by
  obtain ⟨ao, n, cap, rfl, hn, -⟩ := (h.fam).1.shape
  subst hn
  have HC := Lib.hid hc
  have hpI : ¬ (f.1.length : Int) = 0 := by omega
  have hpE : ¬ f.1 = [] := fun e => by rw [e] at hp; exact absurd hp (by simp)
  have q0 : (w.alloc (.cells #[.slice ao f.1.length cap, v2] 26)).cell? ⟨w.heap.size, 0, none⟩ = some (.slice ao f.1.length cap) := by simp [go_sem]
  obtain ⟨W0, hW0⟩ : ∃ W : World, W = w.alloc (.cells #[.slice ao f.1.length cap, v2] 26) := ⟨_, rfl⟩
  rw [← hW0] at q0
  have hB0 : Below w.heap.size w W0 := by rw [hW0]; exact bwT
  have lF : w.heap.size < W0.heap.size := by rw [hW0]; simp
  clear h hc
  go_enter Try.func8, Try.ntmps8
  go_upto_region 1 with fail
  rw [← hW0]
  clear hW0
  refine wp_region_held_drew (S := (fun w' => w'.cell? ⟨w.heap.size, 0, none⟩ = some (.slice ao f.1.length cap))) (by kernel_rfl) ?_ (fun hHeld => ?_)
  · first | exact trivial | ((try dsimp only); go_keep)
  refine tkR 0 (v := ?_) ?_ ?_
  rotate_left
  · intro w hSw; (try dsimp only at hSw); go_simp <;> with_reducible rfl
  try simp only [Act.put, List.setIfInBounds_toArray, List.set_cons_zero, List.set_cons_succ]
  refine tkR 1 (v := ?_) ?_ ?_
  rotate_left
  · intro w hSw; (try dsimp only at hSw); go_simp <;> with_reducible rfl
  try simp only [Act.put, List.setIfInBounds_toArray, List.set_cons_zero, List.set_cons_succ]
  refine tkR 3 (v := ?_) ?_ ?_
  rotate_left
  · intro w hSw; (try dsimp only at hSw); go_simp <;> with_reducible rfl
  try simp only [Act.put, List.setIfInBounds_toArray, List.set_cons_zero, List.set_cons_succ]
  refine tkR 4 (v := ?_) ?_ ?_
  rotate_left
  · intro w hSw; (try dsimp only at hSw); go_simp <;> with_reducible rfl
  try simp only [Act.put, List.setIfInBounds_toArray, List.set_cons_zero, List.set_cons_succ]
  refine tkR 5 (v := ?_) ?_ ?_
  rotate_left
  · intro w hSw; (try dsimp only at hSw); go_simp <;> with_reducible rfl
  try simp only [Act.put, List.setIfInBounds_toArray, List.set_cons_zero, List.set_cons_succ]
  refine wpAnyH_ready (rs := [2]) (by kernel_rfl) (by simp) ?_
  refine rdR (fun K hK => ?_) ?_
  · go_simp
    refine (at_any _ _ code (HC.out.below (hB0.trans ?b0)) hl i h0 h1).mono ?_
    case b0 => exact bwT
    rintro e w1 ⟨x, rfl, hx, hb1⟩
    have hp1 : Below W0.heap.size W0 w1 := Below.trans (show Below W0.heap.size W0 _ from bwT) (hb1.mono szT)
    have hS2 := oldc hp1 lF q0
    have hB1 : Below w.heap.size w w1 := hB0.trans (hp1.mono hB0.size)
    have um : x.tmod (f.1.length : Int) = x % (f.1.length : Int) := Int.tmod_eq_emod_of_nonneg hx.1
    have hm0 := Int.emod_nonneg x hpI
    have hm1 := Int.emod_lt_of_pos x (show 0 < (f.1.length : Int) by omega)
    clear hb1 hp1
    refine hK.out _ _ ?_ (fun hHeld => ?_)
    · exact kpT
    clear hK K
    try simp only [Act.put, List.setIfInBounds_toArray, List.set_cons_zero, List.set_cons_succ]
    refine tkR 6 (v := ?_) ?_ ?_
    rotate_left
    · intro w hSw; (try dsimp only at hSw); go_simp <;> with_reducible rfl
    try simp only [Act.put, List.setIfInBounds_toArray, List.set_cons_zero, List.set_cons_succ]
    refine tkR 7 (v := ?_) ?_ ?_
    rotate_left
    · intro w hSw; (try dsimp only at hSw); go_simp <;> with_reducible rfl
    try simp only [Act.put, List.setIfInBounds_toArray, List.set_cons_zero, List.set_cons_succ]
    refine wpAnyH_done (by kernel_rfl) ?_ _
    clear hHeld
    go_wp2
    go_ret
    exact ⟨_, rfl, ⟨hm0, by omega⟩, hB1⟩
  exact AllReadyH.nil
end Go.Proofs.Ytefbbbhidnnchaa
