/- Contracts: how types are written (impl). -/
import Derived.Test.YtlfpnncjdoaelaaTrmC
import Derived.Test.YtlfpnncjdoaelaaFmt
namespace Go.Proofs.Ytlfpnncjdoaelaa
set_option linter.unusedVariables false
set_option linter.unusedSimpArgs false
open Go.RowKit

set_option maxHeartbeats 1000000 in
theorem prefixI_any (w : World) (e : Int) (he : 0 ≤ e ∧ e ≤ 2) (X : ByteArray) (hX : X = egoTxt e) : Calls Try.prog 50 #[.int .i64 e] w (PostV w (.string X)) := by
  rcases (show e = 0 ∨ e = 1 ∨ e = 2 by omega) with rfl | rfl | rfl <;> subst hX
  · go_enter Try.func50, Try.ntmps50
    go_wp2
    go_ret
    exact ⟨rfl, bwT⟩
  · go_enter Try.func50, Try.ntmps50
    go_wp2
    go_ret
    exact ⟨rfl, bwT⟩
  · go_enter Try.func50, Try.ntmps50
    go_wp2
    go_ret
    exact ⟨rfl, bwT⟩
set_option maxHeartbeats 1000000 in
theorem orDotI_any (w : World) (s : ByteArray) : Calls Try.prog 52 #[.string s] w (PostV w (.string (dotT s))) := by
  by_cases h : s = ⟨#[]⟩
  · subst h
    go_enter Try.func52, Try.ntmps52
    go_wp2
    go_ret
    exact ⟨rfl, bwT⟩
  · unfold dotT
    rw [if_neg h]
    have h2 := ne_text h
    go_enter Try.func52, Try.ntmps52
    go_wp2
    go_ret
    exact ⟨rfl, bwT⟩
set_option maxHeartbeats 4000000 in
theorem stepsTextI_any {z : Bool} {lo hi : Nat} (w : World) (v : Value) (l : List Stp) (h : Rd z lo hi w [v] l) (hl : l.length ≤ 8) (hk : SOk l) : Calls Try.prog 51 #[v] w (PostV w (.string (stepsT l))) := by
  obtain ⟨ao, n, cap, rfl, hn, hnc, hcm, -⟩ := h.shape
  subst hn
  have HB := Lib.hid h
  have HK := Lib.hid hk
  clear h hk
  go_enter Try.func51, Try.ntmps51
  go_wp2
  go_loopw [3, 5, 8] (fun s3 _ s8 wr => ∃ i : Nat, i ≤ l.length ∧ s8 = .int .i64 i ∧ s3 = .string (stepsT (l.take i)) ∧ Below w.heap.size w wr) (fun _ _ s8 _ => l.length - (intOf s8).toNat)
  case atStart => exact ⟨0, Nat.zero_le _, rfl, rfl, Below.refl _ _⟩
  case round =>
    obtain ⟨wb, hwb⟩ : ∃ wm : World, wm = wr := ⟨_, rfl⟩
    subst hwb
    obtain ⟨i, hi, rfl, rfl, hbb⟩ := hrel
    have sB := hbb.size
    obtain ⟨X, hX⟩ : ∃ X, X = stepsT (l.take i) := ⟨_, rfl⟩
    rw [← hX]
    have HX := Lib.hid hX
    clear hX
    by_cases hi0 : i < l.length
    · have hmi : (i : Int) < (l.length : Int) := by omega
      obtain ⟨sb, soff, ki, ag, rfl, hx, c0, c1, -, -, -, -, sbl, -⟩ := HB.out.stp_at (i := i) hi0
      have hka := HK.out _ (List.mem_of_getElem? hx.out)
      dsimp only at hka
      have k0 := oldc hbb sbl c0
      have k1 := oldc hbb sbl c1
      have HX2 := Lib.hid (show X ++ (aTxt ag ++ kTxt ki) = stepsT (l.take (i + 1)) by rw [HX.out, take_snoc hx.out, stepsT, stepsT, List.foldl_append]; rfl)
      have hw : IntKind.i64.wrap (ki - 1) = ki - 1 := IntWalk.i64_in _ (by omega)
      have h0 : (0 : Int) ≤ ki := by omega
      have h1 : (0 : Int) ≤ ki - 1 := by omega
      have h2 : ki - 1 ≤ ki := by omega
      have h3 : ki ≤ 8 := hka.1.2
      obtain ⟨K, hK⟩ : ∃ K, K = kTxt ki := ⟨_, rfl⟩
      obtain ⟨hkT, hKs⟩ := kTxt_at hka.1
      rw [← hK] at hkT hKs HX2
      have hXs : X.size ≤ 16 := by
        have := stepsT_size (l.take i) (fun x hx => HK.out x (List.mem_of_mem_take hx))
        rw [← HX.out, List.length_take] at this; omega
      have hX1 : ¬ 9223372036854775807 < X.size + 1 := by omega
      have hX2 : ¬ 9223372036854775807 < X.size + 2 := by omega
      clear hK
      go_upto_region 5 with fail
      rcases (show ag = 0 ∨ ag = 1 ∨ ag = 2 by omega) with rfl | rfl | rfl
      · refine wp_region_held_drew (S := (fun w' => w'.cell? ⟨wb.heap.size, 0, none⟩ = some (.int .i64 ki) ∧ w'.cell? ⟨wb.heap.size, 1, none⟩ = some (.int .i64 0))) (by kernel_rfl) ?_ (fun hHeld => ?_)
        · first | exact trivial | ((try dsimp only); go_keep)
        refine tkR 0 (v := ?_) ?_ ?_
        rotate_left
        · intro w hSw; (try dsimp only at hSw); go_simp <;> with_reducible rfl
        try simp only [Act.put, List.setIfInBounds_toArray, List.set_cons_zero, List.set_cons_succ]
        refine tkR 2 (v := ?_) ?_ ?_
        rotate_left
        · intro w hSw; (try dsimp only at hSw); go_simp <;> with_reducible rfl
        try simp only [Act.put, List.setIfInBounds_toArray, List.set_cons_zero, List.set_cons_succ]
        refine tkR 6 (v := ?_) ?_ ?_
        rotate_left
        · intro w hSw; (try dsimp only at hSw); go_simp <;> with_reducible rfl
        try simp only [Act.put, List.setIfInBounds_toArray, List.set_cons_zero, List.set_cons_succ]
        refine tkR 9 (v := ?_) ?_ ?_
        rotate_left
        · intro w hSw; (try dsimp only at hSw); go_simp <;> with_reducible rfl
        try simp only [Act.put, List.setIfInBounds_toArray, List.set_cons_zero, List.set_cons_succ]
        refine tkR 3 (v := ?_) ?_ ?_
        rotate_left
        · intro w hSw; (try dsimp only at hSw); go_simp <;> with_reducible rfl
        try simp only [Act.put, List.setIfInBounds_toArray, List.set_cons_zero, List.set_cons_succ]
        refine tkR 7 (v := ?_) ?_ ?_
        rotate_left
        · intro w hSw; (try dsimp only at hSw); go_simp <;> with_reducible rfl
        try simp only [Act.put, List.setIfInBounds_toArray, List.set_cons_zero, List.set_cons_succ]
        refine tkR 10 (v := ?_) ?_ ?_
        rotate_left
        · intro w hSw; (try dsimp only at hSw); go_simp <;> with_reducible rfl
        try simp only [Act.put, List.setIfInBounds_toArray, List.set_cons_zero, List.set_cons_succ]
        refine tkR 8 (v := ?_) ?_ ?_
        rotate_left
        · intro w hSw; (try dsimp only at hSw); go_simp <;> with_reducible rfl
        try simp only [Act.put, List.setIfInBounds_toArray, List.set_cons_zero, List.set_cons_succ]
        refine tkR 11 (v := ?_) ?_ ?_
        rotate_left
        · intro w hSw; (try dsimp only at hSw); go_simp <;> with_reducible rfl
        try simp only [Act.put, List.setIfInBounds_toArray, List.set_cons_zero, List.set_cons_succ]
        refine wpAnyH_ready (rs := [1]) (by kernel_rfl) (by simp) ?_
        refine rdR (fun K hK => ?_) ?_
        · go_simp
          refine hK.out _ _ ?_ (fun hHeld => ?_)
          · exact kpT
          clear hK K
          try simp only [Act.put, List.setIfInBounds_toArray, List.set_cons_zero, List.set_cons_succ]
          refine tkR 4 (v := ?_) ?_ ?_
          rotate_left
          · intro w hSw; (try dsimp only at hSw); go_simp <;> with_reducible rfl
          try simp only [Act.put, List.setIfInBounds_toArray, List.set_cons_zero, List.set_cons_succ]
          refine wpAnyH_ready (rs := [5]) (by kernel_rfl) (by simp) ?_
          refine rdR (fun K hK => ?_) ?_
          · go_simp
            refine hK.out _ _ ?_ (fun hHeld => ?_)
            · exact kpT
            clear hK K
            try simp only [Act.put, List.setIfInBounds_toArray, List.set_cons_zero, List.set_cons_succ]
            refine tkR 12 (v := ?_) ?_ ?_
            rotate_left
            · intro w hSw; (try dsimp only at hSw); go_simp <;> with_reducible rfl
            try simp only [Act.put, List.setIfInBounds_toArray, List.set_cons_zero, List.set_cons_succ]
            refine tkR 13 (v := ?_) ?_ ?_
            rotate_left
            · intro w hSw; (try dsimp only at hSw); go_simp <;> with_reducible rfl
            try simp only [Act.put, List.setIfInBounds_toArray, List.set_cons_zero, List.set_cons_succ]
            refine tkR 14 (v := ?_) ?_ ?_
            rotate_left
            · intro w hSw; (try dsimp only at hSw); go_simp <;> with_reducible rfl
            try simp only [Act.put, List.setIfInBounds_toArray, List.set_cons_zero, List.set_cons_succ]
            refine wpAnyH_done (by kernel_rfl) ?_ _
            have HX3 := Lib.hid (show X ++ (⟨#[]⟩ ++ K) = stepsT (l.take (i + 1)) from HX2.out)
            rw [HX3.out]
            go_wp2
            go_roundw
            case rel => exact ⟨i + 1, by omega, by go_num, rfl, bwT⟩
            case measure => simp [intOf]; omega
          exact AllReadyH.nil
        exact AllReadyH.nil
      · refine wp_region_held_drew (S := (fun w' => w'.cell? ⟨wb.heap.size, 0, none⟩ = some (.int .i64 ki) ∧ w'.cell? ⟨wb.heap.size, 1, none⟩ = some (.int .i64 1))) (by kernel_rfl) ?_ (fun hHeld => ?_)
        · first | exact trivial | ((try dsimp only); go_keep)
        refine tkR 0 (v := ?_) ?_ ?_
        rotate_left
        · intro w hSw; (try dsimp only at hSw); go_simp <;> with_reducible rfl
        try simp only [Act.put, List.setIfInBounds_toArray, List.set_cons_zero, List.set_cons_succ]
        refine tkR 2 (v := ?_) ?_ ?_
        rotate_left
        · intro w hSw; (try dsimp only at hSw); go_simp <;> with_reducible rfl
        try simp only [Act.put, List.setIfInBounds_toArray, List.set_cons_zero, List.set_cons_succ]
        refine tkR 6 (v := ?_) ?_ ?_
        rotate_left
        · intro w hSw; (try dsimp only at hSw); go_simp <;> with_reducible rfl
        try simp only [Act.put, List.setIfInBounds_toArray, List.set_cons_zero, List.set_cons_succ]
        refine tkR 9 (v := ?_) ?_ ?_
        rotate_left
        · intro w hSw; (try dsimp only at hSw); go_simp <;> with_reducible rfl
        try simp only [Act.put, List.setIfInBounds_toArray, List.set_cons_zero, List.set_cons_succ]
        refine tkR 3 (v := ?_) ?_ ?_
        rotate_left
        · intro w hSw; (try dsimp only at hSw); go_simp <;> with_reducible rfl
        try simp only [Act.put, List.setIfInBounds_toArray, List.set_cons_zero, List.set_cons_succ]
        refine tkR 7 (v := ?_) ?_ ?_
        rotate_left
        · intro w hSw; (try dsimp only at hSw); go_simp <;> with_reducible rfl
        try simp only [Act.put, List.setIfInBounds_toArray, List.set_cons_zero, List.set_cons_succ]
        refine tkR 10 (v := ?_) ?_ ?_
        rotate_left
        · intro w hSw; (try dsimp only at hSw); go_simp <;> with_reducible rfl
        try simp only [Act.put, List.setIfInBounds_toArray, List.set_cons_zero, List.set_cons_succ]
        refine tkR 8 (v := ?_) ?_ ?_
        rotate_left
        · intro w hSw; (try dsimp only at hSw); go_simp <;> with_reducible rfl
        try simp only [Act.put, List.setIfInBounds_toArray, List.set_cons_zero, List.set_cons_succ]
        refine tkR 11 (v := ?_) ?_ ?_
        rotate_left
        · intro w hSw; (try dsimp only at hSw); go_simp <;> with_reducible rfl
        try simp only [Act.put, List.setIfInBounds_toArray, List.set_cons_zero, List.set_cons_succ]
        refine wpAnyH_ready (rs := [1]) (by kernel_rfl) (by simp) ?_
        refine rdR (fun K hK => ?_) ?_
        · go_simp
          refine hK.out _ _ ?_ (fun hHeld => ?_)
          · exact kpT
          clear hK K
          try simp only [Act.put, List.setIfInBounds_toArray, List.set_cons_zero, List.set_cons_succ]
          refine tkR 4 (v := ?_) ?_ ?_
          rotate_left
          · intro w hSw; (try dsimp only at hSw); go_simp <;> with_reducible rfl
          try simp only [Act.put, List.setIfInBounds_toArray, List.set_cons_zero, List.set_cons_succ]
          refine wpAnyH_ready (rs := [5]) (by kernel_rfl) (by simp) ?_
          refine rdR (fun K hK => ?_) ?_
          · go_simp
            refine hK.out _ _ ?_ (fun hHeld => ?_)
            · exact kpT
            clear hK K
            try simp only [Act.put, List.setIfInBounds_toArray, List.set_cons_zero, List.set_cons_succ]
            refine tkR 12 (v := ?_) ?_ ?_
            rotate_left
            · intro w hSw; (try dsimp only at hSw); go_simp <;> with_reducible rfl
            try simp only [Act.put, List.setIfInBounds_toArray, List.set_cons_zero, List.set_cons_succ]
            refine tkR 13 (v := ?_) ?_ ?_
            rotate_left
            · intro w hSw; (try dsimp only at hSw); go_simp <;> with_reducible rfl
            try simp only [Act.put, List.setIfInBounds_toArray, List.set_cons_zero, List.set_cons_succ]
            refine tkR 14 (v := ?_) ?_ ?_
            rotate_left
            · intro w hSw; (try dsimp only at hSw); go_simp <;> with_reducible rfl
            try simp only [Act.put, List.setIfInBounds_toArray, List.set_cons_zero, List.set_cons_succ]
            refine wpAnyH_done (by kernel_rfl) ?_ _
            have HX3 := Lib.hid (show X ++ (⟨#[101]⟩ ++ K) = stepsT (l.take (i + 1)) from HX2.out)
            rw [HX3.out]
            go_wp2
            go_roundw
            case rel => exact ⟨i + 1, by omega, by go_num, rfl, bwT⟩
            case measure => simp [intOf]; omega
          exact AllReadyH.nil
        exact AllReadyH.nil
      · refine wp_region_held_drew (S := (fun w' => w'.cell? ⟨wb.heap.size, 0, none⟩ = some (.int .i64 ki) ∧ w'.cell? ⟨wb.heap.size, 1, none⟩ = some (.int .i64 2))) (by kernel_rfl) ?_ (fun hHeld => ?_)
        · first | exact trivial | ((try dsimp only); go_keep)
        refine tkR 0 (v := ?_) ?_ ?_
        rotate_left
        · intro w hSw; (try dsimp only at hSw); go_simp <;> with_reducible rfl
        try simp only [Act.put, List.setIfInBounds_toArray, List.set_cons_zero, List.set_cons_succ]
        refine tkR 2 (v := ?_) ?_ ?_
        rotate_left
        · intro w hSw; (try dsimp only at hSw); go_simp <;> with_reducible rfl
        try simp only [Act.put, List.setIfInBounds_toArray, List.set_cons_zero, List.set_cons_succ]
        refine tkR 6 (v := ?_) ?_ ?_
        rotate_left
        · intro w hSw; (try dsimp only at hSw); go_simp <;> with_reducible rfl
        try simp only [Act.put, List.setIfInBounds_toArray, List.set_cons_zero, List.set_cons_succ]
        refine tkR 9 (v := ?_) ?_ ?_
        rotate_left
        · intro w hSw; (try dsimp only at hSw); go_simp <;> with_reducible rfl
        try simp only [Act.put, List.setIfInBounds_toArray, List.set_cons_zero, List.set_cons_succ]
        refine tkR 3 (v := ?_) ?_ ?_
        rotate_left
        · intro w hSw; (try dsimp only at hSw); go_simp <;> with_reducible rfl
        try simp only [Act.put, List.setIfInBounds_toArray, List.set_cons_zero, List.set_cons_succ]
        refine tkR 7 (v := ?_) ?_ ?_
        rotate_left
        · intro w hSw; (try dsimp only at hSw); go_simp <;> with_reducible rfl
        try simp only [Act.put, List.setIfInBounds_toArray, List.set_cons_zero, List.set_cons_succ]
        refine tkR 10 (v := ?_) ?_ ?_
        rotate_left
        · intro w hSw; (try dsimp only at hSw); go_simp <;> with_reducible rfl
        try simp only [Act.put, List.setIfInBounds_toArray, List.set_cons_zero, List.set_cons_succ]
        refine tkR 8 (v := ?_) ?_ ?_
        rotate_left
        · intro w hSw; (try dsimp only at hSw); go_simp <;> with_reducible rfl
        try simp only [Act.put, List.setIfInBounds_toArray, List.set_cons_zero, List.set_cons_succ]
        refine tkR 11 (v := ?_) ?_ ?_
        rotate_left
        · intro w hSw; (try dsimp only at hSw); go_simp <;> with_reducible rfl
        try simp only [Act.put, List.setIfInBounds_toArray, List.set_cons_zero, List.set_cons_succ]
        refine wpAnyH_ready (rs := [1]) (by kernel_rfl) (by simp) ?_
        refine rdR (fun K hK => ?_) ?_
        · go_simp
          refine hK.out _ _ ?_ (fun hHeld => ?_)
          · exact kpT
          clear hK K
          try simp only [Act.put, List.setIfInBounds_toArray, List.set_cons_zero, List.set_cons_succ]
          refine tkR 4 (v := ?_) ?_ ?_
          rotate_left
          · intro w hSw; (try dsimp only at hSw); go_simp <;> with_reducible rfl
          try simp only [Act.put, List.setIfInBounds_toArray, List.set_cons_zero, List.set_cons_succ]
          refine wpAnyH_ready (rs := [5]) (by kernel_rfl) (by simp) ?_
          refine rdR (fun K hK => ?_) ?_
          · go_simp
            refine hK.out _ _ ?_ (fun hHeld => ?_)
            · exact kpT
            clear hK K
            try simp only [Act.put, List.setIfInBounds_toArray, List.set_cons_zero, List.set_cons_succ]
            refine tkR 12 (v := ?_) ?_ ?_
            rotate_left
            · intro w hSw; (try dsimp only at hSw); go_simp <;> with_reducible rfl
            try simp only [Act.put, List.setIfInBounds_toArray, List.set_cons_zero, List.set_cons_succ]
            refine tkR 13 (v := ?_) ?_ ?_
            rotate_left
            · intro w hSw; (try dsimp only at hSw); go_simp <;> with_reducible rfl
            try simp only [Act.put, List.setIfInBounds_toArray, List.set_cons_zero, List.set_cons_succ]
            refine tkR 14 (v := ?_) ?_ ?_
            rotate_left
            · intro w hSw; (try dsimp only at hSw); go_simp <;> with_reducible rfl
            try simp only [Act.put, List.setIfInBounds_toArray, List.set_cons_zero, List.set_cons_succ]
            refine wpAnyH_done (by kernel_rfl) ?_ _
            have HX3 := Lib.hid (show X ++ (⟨#[121]⟩ ++ K) = stepsT (l.take (i + 1)) from HX2.out)
            rw [HX3.out]
            go_wp2
            go_roundw
            case rel => exact ⟨i + 1, by omega, by go_num, rfl, bwT⟩
            case measure => simp [intOf]; omega
          exact AllReadyH.nil
        exact AllReadyH.nil
    · obtain rfl : i = l.length := by omega
      have nI : ¬ (l.length : Int) < (l.length : Int) := by omega
      rw [List.take_length] at HX
      go_wp2
      go_ret
      exact ⟨by rw [← HX.out]; rfl, hbb⟩
end Go.Proofs.Ytlfpnncjdoaelaa
