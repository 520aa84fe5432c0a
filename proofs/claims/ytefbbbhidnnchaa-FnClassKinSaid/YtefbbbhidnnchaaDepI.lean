/- Contract of depths. -/
import Derived.Test.YtefbbbhidnnchaaZ14B
import Derived.Deep.RegionHeldLaw
namespace Go.Proofs.Ytefbbbhidnnchaa
set_option linter.unusedVariables false
set_option linter.unusedSimpArgs false
open Go.RowKit

set_option maxRecDepth 20000 in
set_option maxHeartbeats 4000000 in
theorem depI_any {z : Bool} {lo hi : Nat} (w : World) (v : Value) (ps : List Per) (h : Rd z lo hi w [v] ps) (hP : PplTo ps ps.length) (hl : ps.length ≤ 40) :
    Calls Try.prog 62 #[v] w (PostOw w (deps ps)) := by
  obtain ⟨ao, n, cap, rfl, rfl, hnc, hcm, hnone⟩ := h.shape
  unfold maxLen at *
  go_enter Try.func62, Try.ntmps62
  go_wp2_with (at_make; refine wpList_mk (α := Int) rfl rfl slInt (y0 := 0) (fun _ => ⟨rfl, by unfold I64; omega, rfl⟩) rfl rfl rfl rfl (by omega) (by unfold maxLen; omega) ?_; intro w1 how hb1 hlt)
  go_loopw [4, 5, 7, 13] (fun _ _ _ s13 wr => ∃ k : Nat, k ≤ ps.length ∧ s13 = .int .i64 k ∧ Ow w.heap.size (w.heap.size + 1) wr [.slice (some ⟨w.heap.size, 0, none⟩) ps.length ps.length] (deps (ps.take k) ++ List.replicate (ps.length - k) 0) ∧ w.heap.size < wr.heap.size ∧ Below w.heap.size w wr) (fun _ _ _ s13 _ => ps.length - (intOf s13).toNat)
  case atStart => exact ⟨0, Nat.zero_le _, rfl, by simpa [deps] using how, hlt, hb1⟩
  case round =>
    rename_i wr
    obtain ⟨k, hk, rfl, how', hlw, hb⟩ := hrel
    have sW := hb.size
    clear how hb1 hlt
    by_cases hlt : k < ps.length
    · have hI : (k : Int) < (ps.length : Int) := by omega
      obtain ⟨b, off, nm, sx, fa, mo, bo, di, rfl, hx, p0, p1, p2, p3, p4, p5, g0, g1, g2, g3, g4, g5, -, -, hbl, -⟩ := (h.below hb).per_at hlt
      obtain ⟨-, -, -, ffa, fmo, -⟩ := hP.at hlt hx.out
      have hbd := deps_bd ps k hk
      have hdl : (deps (ps.take k)).length = k := by rw [deps_len]; simp; omega
      have HD := Lib.hid (show deps (ps.take (k + 1)) = deps (ps.take k) ++ [depOf (deps (ps.take k)) fa mo] by rw [take_snoc hx.out, deps_snoc])
      obtain ⟨D, hD⟩ : ∃ D, D = deps (ps.take k) := ⟨_, rfl⟩
      rw [← hD] at how' hbd hdl HD
      clear hD hx
      have hd1 := dep1_bd hbd fa
      have hd2 := dep1_bd hbd mo
      have hBn := Lib.hid hbd
      obtain ⟨N, hN⟩ : ∃ N, N = ps.length := ⟨_, rfl⟩
      obtain ⟨wo, hwo⟩ : ∃ W : World, W = wr := ⟨_, rfl⟩
      subst hwo
      go_wp2
      go_loopw [7, 24] (fun _ s24 wq => ∃ (j : Nat) (x : Int), j ≤ 2 ∧ s24 = .int .i64 j ∧ Hid ((j = 0 → x = 0) ∧ (j = 1 → x = dep1 D fa) ∧ (j = 2 → x = depOf D fa mo)) ∧ 0 ≤ x ∧ x ≤ 100 ∧ Ow w.heap.size (w.heap.size + 1) wq [.slice (some ⟨w.heap.size, 0, none⟩) ps.length ps.length] ((D ++ List.replicate (ps.length - k) 0).set k x) ∧ wq.cell? ⟨wo.heap.size + 1, 0, none⟩ = some (.int .i64 fa) ∧ wq.cell? ⟨wo.heap.size + 1, 1, none⟩ = some (.int .i64 mo) ∧ wo.heap.size + 1 < wq.heap.size ∧ Below w.heap.size w wq) (fun _ s24 _ => 2 - (intOf s24).toNat)
      case atStart =>
        refine ⟨0, 0, by omega, rfl, Lib.hid ⟨fun _ => rfl, fun h => absurd h (by omega), fun h => absurd h (by omega)⟩, by omega, by omega, ?_, by simp [go_sem], by simp [go_sem], by simp, bwT⟩
        have e : (D ++ List.replicate (ps.length - k) 0).set k 0 = D ++ List.replicate (ps.length - k) 0 := by
          rw [List.set_append_right _ _ (by omega), hdl, Nat.sub_self]
          have : ps.length - k = (ps.length - k - 1) + 1 := by omega
          rw [this, List.replicate_succ]; rfl
        rw [e]
        exact how'.keep zmT
      case round =>
        obtain ⟨j, x, hj2, rfl, hj, hx0, hx1, how, hc0, hc1, hsz, hb2⟩ := hrel
        by_cases hjl : j < 2
        · have hjI : (j : Int) < 2 := by omega
          by_cases j0 : j = 0
          · subst j0
            rcases ffa with rfl | ffa
            · have HN := Lib.hid (show (((0 + 1) = 0 → x = 0) ∧ ((0 + 1) = 1 → x = dep1 D (-1)) ∧ ((0 + 1) = 2 → x = depOf D (-1) mo)) by have := hj.out; exact ⟨fun h => absurd h (by omega), fun _ => by rw [this.1 rfl]; rfl, fun h => absurd h (by omega)⟩)
              clear hj
              go_wp2
              go_roundw
              case rel => exact ⟨0 + 1, x, by omega, by go_num, HN, hx0, hx1, how, hc0, hc1, hsz, hb2⟩
              case measure => simp [intOf]
            obtain ⟨m, rfl⟩ := Int.eq_ofNat_of_zero_le ffa.1
            have hmk : m < k := by omega
            obtain ⟨y, hy, cy, iy1, iy2, fy, -⟩ := how.int_at0 (i := m) (by omega)
            obtain ⟨x', hx', cx, ix1, ix2, fx, -⟩ := how.int_at0 (i := k) (by omega)
            have hxe : x' = x := by
              have := hx'.out
              rw [List.getElem?_set_self (by simp; omega)] at this
              exact (Option.some.inj this).symm
            subst hxe
            have hyD : D[m]? = some y := by
              have := hy.out
              rw [List.getElem?_set_ne (by omega), List.getElem?_append_left (by omega)] at this
              exact this
            have hyb := hBn.out y (List.mem_of_getElem? hyD)
            have ed : dep1 D ((m : Nat) : Int) = y + 1 := by
              rw [dep1, if_pos (by omega), Int.toNat_natCast, List.getD_eq_getElem?_getD, hyD]; rfl
            have hw1 : wrap64 (y + 1) = y + 1 := IntWalk.wrap64_in _ (by omega)
            have hw2 : IntKind.i64.wrap (y + 1) = y + 1 := IntWalk.i64_in _ (by omega)
            have n1 : ¬ m = k := by omega
            have n2 : ¬ k = m := by omega
            have mI : ((m : Nat) : Int) < (ps.length : Int) := by omega
            have m0 : (0 : Int) ≤ ((m : Nat) : Int) := by omega
            have hset := how.int_set0 (i := k) (by omega) (y := max x' (y + 1)) ⟨by omega, by omega⟩
            rw [List.set_set] at hset
            have HS := Lib.hid hset
            have HN := Lib.hid (show (((0 + 1) = 0 → (max x' (y + 1)) = 0) ∧ ((0 + 1) = 1 → (max x' (y + 1)) = dep1 D ((m : Nat) : Int)) ∧ ((0 + 1) = 2 → (max x' (y + 1)) = depOf D ((m : Nat) : Int) mo)) by have := hj.out; exact ⟨fun h => absurd h (by omega), fun _ => by rw [ed]; have := this.1 rfl; omega, fun h => absurd h (by omega)⟩)
            clear hset how hj hy hx' hyD ed hBn
            by_cases c0 : x' < y + 1
            · have hmax : max x' (y + 1) = y + 1 := by omega
              go_upto_region 9 with fail
              refine wp_region_held_drew (S := (fun w' => w'.cell? ⟨w.heap.size, m, none⟩ = some (.int .i64 y))) (by kernel_rfl) ?_ (fun hHeld => ?_)
              · (try dsimp only); go_keep
              refine wpAnyH_take (i := 0) (oi := _) (v := ?_) rfl (by kernel_rfl) (by kernel_rfl) (by kernel_rfl) (fun _ _ _ h => h) (Or.inl ⟨by rfl, ?_⟩) (by assumption) ?_
              rotate_left
              · intro w hSw; (try dsimp only at hSw); go_simp <;> with_reducible rfl
              try simp only [Act.put, List.setIfInBounds_toArray, List.set_cons_zero, List.set_cons_succ]
              refine wpAnyH_take (i := 1) (oi := _) (v := ?_) rfl (by kernel_rfl) (by kernel_rfl) (by kernel_rfl) (fun _ _ _ h => h) (Or.inl ⟨by rfl, ?_⟩) (by assumption) ?_
              rotate_left
              · intro w hSw; (try dsimp only at hSw); go_simp <;> with_reducible rfl
              try simp only [Act.put, List.setIfInBounds_toArray, List.set_cons_zero, List.set_cons_succ]
              refine wpAnyH_take (i := 2) (oi := _) (v := ?_) rfl (by kernel_rfl) (by kernel_rfl) (by kernel_rfl) (fun _ _ _ h => h) (Or.inl ⟨by rfl, ?_⟩) (by assumption) ?_
              rotate_left
              · intro w hSw; (try dsimp only at hSw); go_simp <;> with_reducible rfl
              try simp only [Act.put, List.setIfInBounds_toArray, List.set_cons_zero, List.set_cons_succ]
              refine wpAnyH_take (i := 3) (oi := _) (v := ?_) rfl (by kernel_rfl) (by kernel_rfl) (by kernel_rfl) (fun _ _ _ h => h) (Or.inl ⟨by rfl, ?_⟩) (by assumption) ?_
              rotate_left
              · intro w hSw; (try dsimp only at hSw); go_simp <;> with_reducible rfl
              try simp only [Act.put, List.setIfInBounds_toArray, List.set_cons_zero, List.set_cons_succ]
              refine wpAnyH_take (i := 4) (oi := _) (v := ?_) rfl (by kernel_rfl) (by kernel_rfl) (by kernel_rfl) (fun _ _ _ h => h) (Or.inl ⟨by rfl, ?_⟩) (by assumption) ?_
              rotate_left
              · intro w hSw; (try dsimp only at hSw); go_simp <;> with_reducible rfl
              try simp only [Act.put, List.setIfInBounds_toArray, List.set_cons_zero, List.set_cons_succ]
              refine wpAnyH_take (i := 6) (oi := _) (v := ?_) rfl (by kernel_rfl) (by kernel_rfl) (by kernel_rfl) (fun _ _ _ h => h) (Or.inl ⟨by rfl, ?_⟩) (by assumption) ?_
              rotate_left
              · intro w hSw; (try dsimp only at hSw); go_simp <;> with_reducible rfl
              try simp only [Act.put, List.setIfInBounds_toArray, List.set_cons_zero, List.set_cons_succ]
              refine wpAnyH_take (i := 7) (oi := _) (v := ?_) rfl (by kernel_rfl) (by kernel_rfl) (by kernel_rfl) (fun _ _ _ h => h) (Or.inl ⟨by rfl, ?_⟩) (by assumption) ?_
              rotate_left
              · intro w hSw; (try dsimp only at hSw); go_simp <;> with_reducible rfl
              try simp only [Act.put, List.setIfInBounds_toArray, List.set_cons_zero, List.set_cons_succ]
              refine wpAnyH_take (i := 8) (oi := _) (v := ?_) rfl (by kernel_rfl) (by kernel_rfl) (by kernel_rfl) (fun _ _ _ h => h) (Or.inl ⟨by rfl, ?_⟩) (by assumption) ?_
              rotate_left
              · intro w hSw; (try dsimp only at hSw); go_simp <;> with_reducible rfl
              try simp only [Act.put, List.setIfInBounds_toArray, List.set_cons_zero, List.set_cons_succ]
              refine wpAnyH_take (i := 9) (oi := _) (v := ?_) rfl (by kernel_rfl) (by kernel_rfl) (by kernel_rfl) (fun _ _ _ h => h) (Or.inl ⟨by rfl, ?_⟩) (by assumption) ?_
              rotate_left
              · intro w hSw; (try dsimp only at hSw); go_simp <;> with_reducible rfl
              try simp only [Act.put, List.setIfInBounds_toArray, List.set_cons_zero, List.set_cons_succ]
              refine wpAnyH_take (i := 10) (oi := _) (v := ?_) rfl (by kernel_rfl) (by kernel_rfl) (by kernel_rfl) (fun _ _ _ h => h) (Or.inl ⟨by rfl, ?_⟩) (by assumption) ?_
              rotate_left
              · intro w hSw; (try dsimp only at hSw); go_simp <;> with_reducible rfl
              try simp only [Act.put, List.setIfInBounds_toArray, List.set_cons_zero, List.set_cons_succ]
              refine wpAnyH_ready (rs := [5]) (by kernel_rfl) (by simp) ?_
              refine AllReadyH.cons (o := _) rfl (fun K hK => ?_) ?_
              · go_simp
                refine hK.out _ _ ?_ (fun hHeld => ?_)
                · (try dsimp only); (first | (go_keep; done) | (simp [go_sem, *]; done))
                clear hK K
                try simp only [Act.put, List.setIfInBounds_toArray, List.set_cons_zero, List.set_cons_succ]
                refine wpAnyH_ready (rs := [11]) (by kernel_rfl) (by simp) ?_
                refine AllReadyH.cons (o := _) rfl (fun K hK => ?_) ?_
                · go_simp
                  refine hK.out _ _ ?_ (fun hHeld => ?_)
                  · (try dsimp only); (first | (go_keep; done) | (simp [go_sem, *]; done))
                  clear hK K
                  try simp only [Act.put, List.setIfInBounds_toArray, List.set_cons_zero, List.set_cons_succ]
                  refine wpAnyH_take (i := 12) (oi := _) (v := ?_) rfl (by kernel_rfl) (by kernel_rfl) (by kernel_rfl) (fun _ _ _ h => h) (Or.inl ⟨by rfl, ?_⟩) (by assumption) ?_
                  rotate_left
                  · intro w hSw; (try dsimp only at hSw); go_simp <;> with_reducible rfl
                  try simp only [Act.put, List.setIfInBounds_toArray, List.set_cons_zero, List.set_cons_succ]
                  refine wpAnyH_ready (rs := [13]) (by kernel_rfl) (by simp) ?_
                  refine AllReadyH.cons (o := _) rfl (fun K hK => ?_) ?_
                  · go_simp
                    refine hK.out _ _ ?_ (fun hHeld => ?_)
                    · (try dsimp only); (first | (go_keep; done) | (simp [go_sem, *]; done))
                    clear hK K
                    try simp only [Act.put, List.setIfInBounds_toArray, List.set_cons_zero, List.set_cons_succ]
                    refine wpAnyH_done (by kernel_rfl) ?_ _
                    have HN2 := Lib.hid (by have := HN.out; rw [hmax] at this; exact this)
                    have HO2 := Lib.hid (by have := HS.out; rw [hmax] at this; exact this)
                    go_wp2
                    go_roundw
                    case rel => exact ⟨0 + 1, y + 1, by omega, by go_num, HN2, by omega, by omega, HO2.out.keep zmT, by simp [go_sem, *], by simp [go_sem, *], by simp; omega, bwT⟩
                    case measure => simp [intOf]
                  exact AllReadyH.nil
                exact AllReadyH.nil
              exact AllReadyH.nil
            have hmax : max x' (y + 1) = x' := by omega
            go_upto_region 9 with fail
            refine wp_region_held_drew (S := (fun w' => w'.cell? ⟨w.heap.size, m, none⟩ = some (.int .i64 y))) (by kernel_rfl) ?_ (fun hHeld => ?_)
            · (try dsimp only); go_keep
            refine wpAnyH_take (i := 0) (oi := _) (v := ?_) rfl (by kernel_rfl) (by kernel_rfl) (by kernel_rfl) (fun _ _ _ h => h) (Or.inl ⟨by rfl, ?_⟩) (by assumption) ?_
            rotate_left
            · intro w hSw; (try dsimp only at hSw); go_simp <;> with_reducible rfl
            try simp only [Act.put, List.setIfInBounds_toArray, List.set_cons_zero, List.set_cons_succ]
            refine wpAnyH_take (i := 1) (oi := _) (v := ?_) rfl (by kernel_rfl) (by kernel_rfl) (by kernel_rfl) (fun _ _ _ h => h) (Or.inl ⟨by rfl, ?_⟩) (by assumption) ?_
            rotate_left
            · intro w hSw; (try dsimp only at hSw); go_simp <;> with_reducible rfl
            try simp only [Act.put, List.setIfInBounds_toArray, List.set_cons_zero, List.set_cons_succ]
            refine wpAnyH_take (i := 2) (oi := _) (v := ?_) rfl (by kernel_rfl) (by kernel_rfl) (by kernel_rfl) (fun _ _ _ h => h) (Or.inl ⟨by rfl, ?_⟩) (by assumption) ?_
            rotate_left
            · intro w hSw; (try dsimp only at hSw); go_simp <;> with_reducible rfl
            try simp only [Act.put, List.setIfInBounds_toArray, List.set_cons_zero, List.set_cons_succ]
            refine wpAnyH_take (i := 3) (oi := _) (v := ?_) rfl (by kernel_rfl) (by kernel_rfl) (by kernel_rfl) (fun _ _ _ h => h) (Or.inl ⟨by rfl, ?_⟩) (by assumption) ?_
            rotate_left
            · intro w hSw; (try dsimp only at hSw); go_simp <;> with_reducible rfl
            try simp only [Act.put, List.setIfInBounds_toArray, List.set_cons_zero, List.set_cons_succ]
            refine wpAnyH_take (i := 4) (oi := _) (v := ?_) rfl (by kernel_rfl) (by kernel_rfl) (by kernel_rfl) (fun _ _ _ h => h) (Or.inl ⟨by rfl, ?_⟩) (by assumption) ?_
            rotate_left
            · intro w hSw; (try dsimp only at hSw); go_simp <;> with_reducible rfl
            try simp only [Act.put, List.setIfInBounds_toArray, List.set_cons_zero, List.set_cons_succ]
            refine wpAnyH_take (i := 6) (oi := _) (v := ?_) rfl (by kernel_rfl) (by kernel_rfl) (by kernel_rfl) (fun _ _ _ h => h) (Or.inl ⟨by rfl, ?_⟩) (by assumption) ?_
            rotate_left
            · intro w hSw; (try dsimp only at hSw); go_simp <;> with_reducible rfl
            try simp only [Act.put, List.setIfInBounds_toArray, List.set_cons_zero, List.set_cons_succ]
            refine wpAnyH_take (i := 7) (oi := _) (v := ?_) rfl (by kernel_rfl) (by kernel_rfl) (by kernel_rfl) (fun _ _ _ h => h) (Or.inl ⟨by rfl, ?_⟩) (by assumption) ?_
            rotate_left
            · intro w hSw; (try dsimp only at hSw); go_simp <;> with_reducible rfl
            try simp only [Act.put, List.setIfInBounds_toArray, List.set_cons_zero, List.set_cons_succ]
            refine wpAnyH_take (i := 8) (oi := _) (v := ?_) rfl (by kernel_rfl) (by kernel_rfl) (by kernel_rfl) (fun _ _ _ h => h) (Or.inl ⟨by rfl, ?_⟩) (by assumption) ?_
            rotate_left
            · intro w hSw; (try dsimp only at hSw); go_simp <;> with_reducible rfl
            try simp only [Act.put, List.setIfInBounds_toArray, List.set_cons_zero, List.set_cons_succ]
            refine wpAnyH_take (i := 9) (oi := _) (v := ?_) rfl (by kernel_rfl) (by kernel_rfl) (by kernel_rfl) (fun _ _ _ h => h) (Or.inl ⟨by rfl, ?_⟩) (by assumption) ?_
            rotate_left
            · intro w hSw; (try dsimp only at hSw); go_simp <;> with_reducible rfl
            try simp only [Act.put, List.setIfInBounds_toArray, List.set_cons_zero, List.set_cons_succ]
            refine wpAnyH_take (i := 10) (oi := _) (v := ?_) rfl (by kernel_rfl) (by kernel_rfl) (by kernel_rfl) (fun _ _ _ h => h) (Or.inl ⟨by rfl, ?_⟩) (by assumption) ?_
            rotate_left
            · intro w hSw; (try dsimp only at hSw); go_simp <;> with_reducible rfl
            try simp only [Act.put, List.setIfInBounds_toArray, List.set_cons_zero, List.set_cons_succ]
            refine wpAnyH_ready (rs := [5]) (by kernel_rfl) (by simp) ?_
            refine AllReadyH.cons (o := _) rfl (fun K hK => ?_) ?_
            · go_simp
              refine hK.out _ _ ?_ (fun hHeld => ?_)
              · (try dsimp only); (first | (go_keep; done) | (simp [go_sem, *]; done))
              clear hK K
              try simp only [Act.put, List.setIfInBounds_toArray, List.set_cons_zero, List.set_cons_succ]
              refine wpAnyH_ready (rs := [11]) (by kernel_rfl) (by simp) ?_
              refine AllReadyH.cons (o := _) rfl (fun K hK => ?_) ?_
              · go_simp
                refine hK.out _ _ ?_ (fun hHeld => ?_)
                · (try dsimp only); (first | (go_keep; done) | (simp [go_sem, *]; done))
                clear hK K
                try simp only [Act.put, List.setIfInBounds_toArray, List.set_cons_zero, List.set_cons_succ]
                refine wpAnyH_take (i := 12) (oi := _) (v := ?_) rfl (by kernel_rfl) (by kernel_rfl) (by kernel_rfl) (fun _ _ _ h => h) (Or.inl ⟨by rfl, ?_⟩) (by assumption) ?_
                rotate_left
                · intro w hSw; (try dsimp only at hSw); go_simp <;> with_reducible rfl
                try simp only [Act.put, List.setIfInBounds_toArray, List.set_cons_zero, List.set_cons_succ]
                refine wpAnyH_ready (rs := [13]) (by kernel_rfl) (by simp) ?_
                refine AllReadyH.cons (o := _) rfl (fun K hK => ?_) ?_
                · go_simp
                  refine hK.out _ _ ?_ (fun hHeld => ?_)
                  · (try dsimp only); (first | (go_keep; done) | (simp [go_sem, *]; done))
                  clear hK K
                  try simp only [Act.put, List.setIfInBounds_toArray, List.set_cons_zero, List.set_cons_succ]
                  refine wpAnyH_done (by kernel_rfl) ?_ _
                  have HN2 := Lib.hid (by have := HN.out; rw [hmax] at this; exact this)
                  have HO2 := Lib.hid (by have := HS.out; rw [hmax] at this; exact this)
                  go_wp2
                  go_roundw
                  case rel => exact ⟨0 + 1, x', by omega, by go_num, HN2, by omega, by omega, HO2.out.keep zmT, by simp [go_sem, *], by simp [go_sem, *], by simp; omega, bwT⟩
                  case measure => simp [intOf]
                exact AllReadyH.nil
              exact AllReadyH.nil
            exact AllReadyH.nil
          · obtain rfl : j = 1 := by omega
            rcases fmo with rfl | fmo
            · have HN := Lib.hid (show (((1 + 1) = 0 → x = 0) ∧ ((1 + 1) = 1 → x = dep1 D fa) ∧ ((1 + 1) = 2 → x = depOf D fa (-1))) by have := hj.out; exact ⟨fun h => absurd h (by omega), fun h => absurd h (by omega), fun _ => by rw [this.2.1 rfl, depOf]; have h1 : dep1 D (-1) = 0 := rfl; rw [h1]; omega⟩)
              clear hj
              go_wp2
              go_roundw
              case rel => exact ⟨1 + 1, x, by omega, by go_num, HN, hx0, hx1, how, hc0, hc1, hsz, hb2⟩
              case measure => simp [intOf]
            obtain ⟨m, rfl⟩ := Int.eq_ofNat_of_zero_le fmo.1
            have hmk : m < k := by omega
            obtain ⟨y, hy, cy, iy1, iy2, fy, -⟩ := how.int_at0 (i := m) (by omega)
            obtain ⟨x', hx', cx, ix1, ix2, fx, -⟩ := how.int_at0 (i := k) (by omega)
            have hxe : x' = x := by
              have := hx'.out
              rw [List.getElem?_set_self (by simp; omega)] at this
              exact (Option.some.inj this).symm
            subst hxe
            have hyD : D[m]? = some y := by
              have := hy.out
              rw [List.getElem?_set_ne (by omega), List.getElem?_append_left (by omega)] at this
              exact this
            have hyb := hBn.out y (List.mem_of_getElem? hyD)
            have ed : dep1 D ((m : Nat) : Int) = y + 1 := by
              rw [dep1, if_pos (by omega), Int.toNat_natCast, List.getD_eq_getElem?_getD, hyD]; rfl
            have hw1 : wrap64 (y + 1) = y + 1 := IntWalk.wrap64_in _ (by omega)
            have hw2 : IntKind.i64.wrap (y + 1) = y + 1 := IntWalk.i64_in _ (by omega)
            have n1 : ¬ m = k := by omega
            have n2 : ¬ k = m := by omega
            have mI : ((m : Nat) : Int) < (ps.length : Int) := by omega
            have m0 : (0 : Int) ≤ ((m : Nat) : Int) := by omega
            have hset := how.int_set0 (i := k) (by omega) (y := max x' (y + 1)) ⟨by omega, by omega⟩
            rw [List.set_set] at hset
            have HS := Lib.hid hset
            have HN := Lib.hid (show (((1 + 1) = 0 → (max x' (y + 1)) = 0) ∧ ((1 + 1) = 1 → (max x' (y + 1)) = dep1 D fa) ∧ ((1 + 1) = 2 → (max x' (y + 1)) = depOf D fa ((m : Nat) : Int))) by have := hj.out; exact ⟨fun h => absurd h (by omega), fun h => absurd h (by omega), fun _ => by rw [depOf, ed, this.2.1 rfl]⟩)
            clear hset how hj hy hx' hyD ed hBn
            by_cases c0 : x' < y + 1
            · have hmax : max x' (y + 1) = y + 1 := by omega
              go_upto_region 9 with fail
              refine wp_region_held_drew (S := (fun w' => w'.cell? ⟨w.heap.size, m, none⟩ = some (.int .i64 y))) (by kernel_rfl) ?_ (fun hHeld => ?_)
              · (try dsimp only); go_keep
              refine wpAnyH_take (i := 0) (oi := _) (v := ?_) rfl (by kernel_rfl) (by kernel_rfl) (by kernel_rfl) (fun _ _ _ h => h) (Or.inl ⟨by rfl, ?_⟩) (by assumption) ?_
              rotate_left
              · intro w hSw; (try dsimp only at hSw); go_simp <;> with_reducible rfl
              try simp only [Act.put, List.setIfInBounds_toArray, List.set_cons_zero, List.set_cons_succ]
              refine wpAnyH_take (i := 1) (oi := _) (v := ?_) rfl (by kernel_rfl) (by kernel_rfl) (by kernel_rfl) (fun _ _ _ h => h) (Or.inl ⟨by rfl, ?_⟩) (by assumption) ?_
              rotate_left
              · intro w hSw; (try dsimp only at hSw); go_simp <;> with_reducible rfl
              try simp only [Act.put, List.setIfInBounds_toArray, List.set_cons_zero, List.set_cons_succ]
              refine wpAnyH_take (i := 2) (oi := _) (v := ?_) rfl (by kernel_rfl) (by kernel_rfl) (by kernel_rfl) (fun _ _ _ h => h) (Or.inl ⟨by rfl, ?_⟩) (by assumption) ?_
              rotate_left
              · intro w hSw; (try dsimp only at hSw); go_simp <;> with_reducible rfl
              try simp only [Act.put, List.setIfInBounds_toArray, List.set_cons_zero, List.set_cons_succ]
              refine wpAnyH_take (i := 3) (oi := _) (v := ?_) rfl (by kernel_rfl) (by kernel_rfl) (by kernel_rfl) (fun _ _ _ h => h) (Or.inl ⟨by rfl, ?_⟩) (by assumption) ?_
              rotate_left
              · intro w hSw; (try dsimp only at hSw); go_simp <;> with_reducible rfl
              try simp only [Act.put, List.setIfInBounds_toArray, List.set_cons_zero, List.set_cons_succ]
              refine wpAnyH_take (i := 4) (oi := _) (v := ?_) rfl (by kernel_rfl) (by kernel_rfl) (by kernel_rfl) (fun _ _ _ h => h) (Or.inl ⟨by rfl, ?_⟩) (by assumption) ?_
              rotate_left
              · intro w hSw; (try dsimp only at hSw); go_simp <;> with_reducible rfl
              try simp only [Act.put, List.setIfInBounds_toArray, List.set_cons_zero, List.set_cons_succ]
              refine wpAnyH_take (i := 6) (oi := _) (v := ?_) rfl (by kernel_rfl) (by kernel_rfl) (by kernel_rfl) (fun _ _ _ h => h) (Or.inl ⟨by rfl, ?_⟩) (by assumption) ?_
              rotate_left
              · intro w hSw; (try dsimp only at hSw); go_simp <;> with_reducible rfl
              try simp only [Act.put, List.setIfInBounds_toArray, List.set_cons_zero, List.set_cons_succ]
              refine wpAnyH_take (i := 7) (oi := _) (v := ?_) rfl (by kernel_rfl) (by kernel_rfl) (by kernel_rfl) (fun _ _ _ h => h) (Or.inl ⟨by rfl, ?_⟩) (by assumption) ?_
              rotate_left
              · intro w hSw; (try dsimp only at hSw); go_simp <;> with_reducible rfl
              try simp only [Act.put, List.setIfInBounds_toArray, List.set_cons_zero, List.set_cons_succ]
              refine wpAnyH_take (i := 8) (oi := _) (v := ?_) rfl (by kernel_rfl) (by kernel_rfl) (by kernel_rfl) (fun _ _ _ h => h) (Or.inl ⟨by rfl, ?_⟩) (by assumption) ?_
              rotate_left
              · intro w hSw; (try dsimp only at hSw); go_simp <;> with_reducible rfl
              try simp only [Act.put, List.setIfInBounds_toArray, List.set_cons_zero, List.set_cons_succ]
              refine wpAnyH_take (i := 9) (oi := _) (v := ?_) rfl (by kernel_rfl) (by kernel_rfl) (by kernel_rfl) (fun _ _ _ h => h) (Or.inl ⟨by rfl, ?_⟩) (by assumption) ?_
              rotate_left
              · intro w hSw; (try dsimp only at hSw); go_simp <;> with_reducible rfl
              try simp only [Act.put, List.setIfInBounds_toArray, List.set_cons_zero, List.set_cons_succ]
              refine wpAnyH_take (i := 10) (oi := _) (v := ?_) rfl (by kernel_rfl) (by kernel_rfl) (by kernel_rfl) (fun _ _ _ h => h) (Or.inl ⟨by rfl, ?_⟩) (by assumption) ?_
              rotate_left
              · intro w hSw; (try dsimp only at hSw); go_simp <;> with_reducible rfl
              try simp only [Act.put, List.setIfInBounds_toArray, List.set_cons_zero, List.set_cons_succ]
              refine wpAnyH_ready (rs := [5]) (by kernel_rfl) (by simp) ?_
              refine AllReadyH.cons (o := _) rfl (fun K hK => ?_) ?_
              · go_simp
                refine hK.out _ _ ?_ (fun hHeld => ?_)
                · (try dsimp only); (first | (go_keep; done) | (simp [go_sem, *]; done))
                clear hK K
                try simp only [Act.put, List.setIfInBounds_toArray, List.set_cons_zero, List.set_cons_succ]
                refine wpAnyH_ready (rs := [11]) (by kernel_rfl) (by simp) ?_
                refine AllReadyH.cons (o := _) rfl (fun K hK => ?_) ?_
                · go_simp
                  refine hK.out _ _ ?_ (fun hHeld => ?_)
                  · (try dsimp only); (first | (go_keep; done) | (simp [go_sem, *]; done))
                  clear hK K
                  try simp only [Act.put, List.setIfInBounds_toArray, List.set_cons_zero, List.set_cons_succ]
                  refine wpAnyH_take (i := 12) (oi := _) (v := ?_) rfl (by kernel_rfl) (by kernel_rfl) (by kernel_rfl) (fun _ _ _ h => h) (Or.inl ⟨by rfl, ?_⟩) (by assumption) ?_
                  rotate_left
                  · intro w hSw; (try dsimp only at hSw); go_simp <;> with_reducible rfl
                  try simp only [Act.put, List.setIfInBounds_toArray, List.set_cons_zero, List.set_cons_succ]
                  refine wpAnyH_ready (rs := [13]) (by kernel_rfl) (by simp) ?_
                  refine AllReadyH.cons (o := _) rfl (fun K hK => ?_) ?_
                  · go_simp
                    refine hK.out _ _ ?_ (fun hHeld => ?_)
                    · (try dsimp only); (first | (go_keep; done) | (simp [go_sem, *]; done))
                    clear hK K
                    try simp only [Act.put, List.setIfInBounds_toArray, List.set_cons_zero, List.set_cons_succ]
                    refine wpAnyH_done (by kernel_rfl) ?_ _
                    have HN2 := Lib.hid (by have := HN.out; rw [hmax] at this; exact this)
                    have HO2 := Lib.hid (by have := HS.out; rw [hmax] at this; exact this)
                    go_wp2
                    go_roundw
                    case rel => exact ⟨1 + 1, y + 1, by omega, by go_num, HN2, by omega, by omega, HO2.out.keep zmT, by simp [go_sem, *], by simp [go_sem, *], by simp; omega, bwT⟩
                    case measure => simp [intOf]
                  exact AllReadyH.nil
                exact AllReadyH.nil
              exact AllReadyH.nil
            have hmax : max x' (y + 1) = x' := by omega
            go_upto_region 9 with fail
            refine wp_region_held_drew (S := (fun w' => w'.cell? ⟨w.heap.size, m, none⟩ = some (.int .i64 y))) (by kernel_rfl) ?_ (fun hHeld => ?_)
            · (try dsimp only); go_keep
            refine wpAnyH_take (i := 0) (oi := _) (v := ?_) rfl (by kernel_rfl) (by kernel_rfl) (by kernel_rfl) (fun _ _ _ h => h) (Or.inl ⟨by rfl, ?_⟩) (by assumption) ?_
            rotate_left
            · intro w hSw; (try dsimp only at hSw); go_simp <;> with_reducible rfl
            try simp only [Act.put, List.setIfInBounds_toArray, List.set_cons_zero, List.set_cons_succ]
            refine wpAnyH_take (i := 1) (oi := _) (v := ?_) rfl (by kernel_rfl) (by kernel_rfl) (by kernel_rfl) (fun _ _ _ h => h) (Or.inl ⟨by rfl, ?_⟩) (by assumption) ?_
            rotate_left
            · intro w hSw; (try dsimp only at hSw); go_simp <;> with_reducible rfl
            try simp only [Act.put, List.setIfInBounds_toArray, List.set_cons_zero, List.set_cons_succ]
            refine wpAnyH_take (i := 2) (oi := _) (v := ?_) rfl (by kernel_rfl) (by kernel_rfl) (by kernel_rfl) (fun _ _ _ h => h) (Or.inl ⟨by rfl, ?_⟩) (by assumption) ?_
            rotate_left
            · intro w hSw; (try dsimp only at hSw); go_simp <;> with_reducible rfl
            try simp only [Act.put, List.setIfInBounds_toArray, List.set_cons_zero, List.set_cons_succ]
            refine wpAnyH_take (i := 3) (oi := _) (v := ?_) rfl (by kernel_rfl) (by kernel_rfl) (by kernel_rfl) (fun _ _ _ h => h) (Or.inl ⟨by rfl, ?_⟩) (by assumption) ?_
            rotate_left
            · intro w hSw; (try dsimp only at hSw); go_simp <;> with_reducible rfl
            try simp only [Act.put, List.setIfInBounds_toArray, List.set_cons_zero, List.set_cons_succ]
            refine wpAnyH_take (i := 4) (oi := _) (v := ?_) rfl (by kernel_rfl) (by kernel_rfl) (by kernel_rfl) (fun _ _ _ h => h) (Or.inl ⟨by rfl, ?_⟩) (by assumption) ?_
            rotate_left
            · intro w hSw; (try dsimp only at hSw); go_simp <;> with_reducible rfl
            try simp only [Act.put, List.setIfInBounds_toArray, List.set_cons_zero, List.set_cons_succ]
            refine wpAnyH_take (i := 6) (oi := _) (v := ?_) rfl (by kernel_rfl) (by kernel_rfl) (by kernel_rfl) (fun _ _ _ h => h) (Or.inl ⟨by rfl, ?_⟩) (by assumption) ?_
            rotate_left
            · intro w hSw; (try dsimp only at hSw); go_simp <;> with_reducible rfl
            try simp only [Act.put, List.setIfInBounds_toArray, List.set_cons_zero, List.set_cons_succ]
            refine wpAnyH_take (i := 7) (oi := _) (v := ?_) rfl (by kernel_rfl) (by kernel_rfl) (by kernel_rfl) (fun _ _ _ h => h) (Or.inl ⟨by rfl, ?_⟩) (by assumption) ?_
            rotate_left
            · intro w hSw; (try dsimp only at hSw); go_simp <;> with_reducible rfl
            try simp only [Act.put, List.setIfInBounds_toArray, List.set_cons_zero, List.set_cons_succ]
            refine wpAnyH_take (i := 8) (oi := _) (v := ?_) rfl (by kernel_rfl) (by kernel_rfl) (by kernel_rfl) (fun _ _ _ h => h) (Or.inl ⟨by rfl, ?_⟩) (by assumption) ?_
            rotate_left
            · intro w hSw; (try dsimp only at hSw); go_simp <;> with_reducible rfl
            try simp only [Act.put, List.setIfInBounds_toArray, List.set_cons_zero, List.set_cons_succ]
            refine wpAnyH_take (i := 9) (oi := _) (v := ?_) rfl (by kernel_rfl) (by kernel_rfl) (by kernel_rfl) (fun _ _ _ h => h) (Or.inl ⟨by rfl, ?_⟩) (by assumption) ?_
            rotate_left
            · intro w hSw; (try dsimp only at hSw); go_simp <;> with_reducible rfl
            try simp only [Act.put, List.setIfInBounds_toArray, List.set_cons_zero, List.set_cons_succ]
            refine wpAnyH_take (i := 10) (oi := _) (v := ?_) rfl (by kernel_rfl) (by kernel_rfl) (by kernel_rfl) (fun _ _ _ h => h) (Or.inl ⟨by rfl, ?_⟩) (by assumption) ?_
            rotate_left
            · intro w hSw; (try dsimp only at hSw); go_simp <;> with_reducible rfl
            try simp only [Act.put, List.setIfInBounds_toArray, List.set_cons_zero, List.set_cons_succ]
            refine wpAnyH_ready (rs := [5]) (by kernel_rfl) (by simp) ?_
            refine AllReadyH.cons (o := _) rfl (fun K hK => ?_) ?_
            · go_simp
              refine hK.out _ _ ?_ (fun hHeld => ?_)
              · (try dsimp only); (first | (go_keep; done) | (simp [go_sem, *]; done))
              clear hK K
              try simp only [Act.put, List.setIfInBounds_toArray, List.set_cons_zero, List.set_cons_succ]
              refine wpAnyH_ready (rs := [11]) (by kernel_rfl) (by simp) ?_
              refine AllReadyH.cons (o := _) rfl (fun K hK => ?_) ?_
              · go_simp
                refine hK.out _ _ ?_ (fun hHeld => ?_)
                · (try dsimp only); (first | (go_keep; done) | (simp [go_sem, *]; done))
                clear hK K
                try simp only [Act.put, List.setIfInBounds_toArray, List.set_cons_zero, List.set_cons_succ]
                refine wpAnyH_take (i := 12) (oi := _) (v := ?_) rfl (by kernel_rfl) (by kernel_rfl) (by kernel_rfl) (fun _ _ _ h => h) (Or.inl ⟨by rfl, ?_⟩) (by assumption) ?_
                rotate_left
                · intro w hSw; (try dsimp only at hSw); go_simp <;> with_reducible rfl
                try simp only [Act.put, List.setIfInBounds_toArray, List.set_cons_zero, List.set_cons_succ]
                refine wpAnyH_ready (rs := [13]) (by kernel_rfl) (by simp) ?_
                refine AllReadyH.cons (o := _) rfl (fun K hK => ?_) ?_
                · go_simp
                  refine hK.out _ _ ?_ (fun hHeld => ?_)
                  · (try dsimp only); (first | (go_keep; done) | (simp [go_sem, *]; done))
                  clear hK K
                  try simp only [Act.put, List.setIfInBounds_toArray, List.set_cons_zero, List.set_cons_succ]
                  refine wpAnyH_done (by kernel_rfl) ?_ _
                  have HN2 := Lib.hid (by have := HN.out; rw [hmax] at this; exact this)
                  have HO2 := Lib.hid (by have := HS.out; rw [hmax] at this; exact this)
                  go_wp2
                  go_roundw
                  case rel => exact ⟨1 + 1, x', by omega, by go_num, HN2, by omega, by omega, HO2.out.keep zmT, by simp [go_sem, *], by simp [go_sem, *], by simp; omega, bwT⟩
                  case measure => simp [intOf]
                exact AllReadyH.nil
              exact AllReadyH.nil
            exact AllReadyH.nil
        · obtain rfl : j = 2 := by omega
          have hxx := hj.out.2.2 rfl
          have e : (D ++ List.replicate (ps.length - k) 0).set k x = deps (ps.take (k + 1)) ++ List.replicate (ps.length - (k + 1)) 0 := by
            rw [List.set_append_right _ _ (by omega), hdl, Nat.sub_self, HD.out, hxx]
            have : ps.length - k = (ps.length - (k + 1)) + 1 := by omega
            rw [this, List.replicate_succ, List.append_assoc]; rfl
          rw [e] at how
          have HO := Lib.hid how
          clear how hj hxx e HD
          go_wp2
          go_roundw
          case rel => exact ⟨k + 1, by omega, by go_num, HO.out, by omega, hb2⟩
          case measure => simp [intOf]; omega
    · have HO := Lib.hid how'.top
      have hkn : k = ps.length := by omega
      clear how' h hP
      go_wp2
      go_ret
      refine ⟨_, rfl, ?_, hb⟩
      have := HO.out
      rw [hkn, List.take_length, Nat.sub_self] at this
      simpa using this
end Go.Proofs.Ytefbbbhidnnchaa
