/- Contract of JoinTypes (spec). -/
import Derived.Test.YtlfpnncjdoaelaaAlwS
import Derived.Test.YtlfpnncjdoaelaaRvI
namespace Go.Proofs.Ytlfpnncjdoaelaa
set_option linter.unusedVariables false
set_option linter.unusedSimpArgs false
open Go.RowKit

/-- Two types, joined. -/
def joinK (t u : Kin) : Kin := (if t.1 = 0 ∧ t.2 = [] then u.1 else t.1, t.2 ++ u.2)
def joinV (t u : Kin) : Bool := isKin u && isKin (joinK t u)
def joinX (t u : Kin) : Kin := if joinV t u = true then joinK t u else (0, [])
set_option maxRecDepth 20000 in
set_option maxHeartbeats 16000000 in
theorem joinS_any {z z' : Bool} {lo hi lo' hi' : Nat} (w : World) (a b a' b' : Value) (t u : Kin) (h : Rd z lo hi w [a, b] t) (h' : Rd z' lo' hi' w [a', b'] u) (ht : isKin t = true) (hul : u.2.length ≤ 1048576) (hu : u.1 = 0 ∨ u.1 = sexOf t) :
    Calls Try.prog 23 #[.agg #[a, b], .agg #[a', b']] w (PostKB w (joinX t u) (joinV t u)) := by
  obtain ⟨rfl, hI, hb⟩ := h.kin
  obtain ⟨rfl, hI', hb'⟩ := h'.kin
  obtain ⟨ao, n, cap, rfl, hn, hnc, hcm, hnone⟩ := hb.shape
  obtain ⟨ao', n', cap', rfl, hn', hnc', hcm', hnone'⟩ := hb'.shape
  subst hn
  subst hn'
  have htl := (isKin_facts ht).2.1
  have HT := Lib.hid h
  have HU := Lib.hid h'
  have HTL := Lib.hid hb
  have HUL := Lib.hid hb'
  have HI := Lib.hid hI
  have HI' := Lib.hid hI'
  have HKT := Lib.hid ht
  have HSX := Lib.hid hu
  obtain ⟨B, hB⟩ : ∃ B, B = isKin u := ⟨_, rfl⟩
  have HB := Lib.hid hB
  obtain ⟨J, hJ⟩ : ∃ J, J = joinV t u := ⟨_, rfl⟩
  have HJ := Lib.hid hJ
  obtain ⟨X, hX⟩ : ∃ X, X = joinX t u := ⟨_, rfl⟩
  have HXX := Lib.hid hX
  rw [← hX, ← hJ]
  clear hX
  obtain ⟨sx, hsx⟩ : ∃ s, s = sexOf t := ⟨_, rfl⟩
  have HS := Lib.hid hsx
  obtain ⟨te, tl⟩ := t
  obtain ⟨ue, ul⟩ := u
  dsimp only at *
  clear hnc hcm hnone hnc' hcm' hnone' h h' hb hb' hI hI' ht hB hJ hsx hu
  obtain ⟨W0, hW0⟩ : ∃ W0 : World, W0 = (((w.alloc (.cells #[.int .i64 te, .slice ao tl.length cap] 42)).alloc (.cells #[.int .i64 ue, .slice ao' ul.length cap'] 42)).alloc (.cells #[.int .i64 0, .slice none 0 0] 42)) := ⟨_, rfl⟩
  have hB0 : Below w.heap.size w W0 := by subst hW0; exact bwT
  have sz0 : W0.heap.size = w.heap.size + 3 := by subst hW0; simp
  have qt0 : W0.cell? ⟨w.heap.size, 0, none⟩ = some (.int .i64 te) := by subst hW0; simp [go_sem]
  have qt1 : W0.cell? ⟨w.heap.size, 1, none⟩ = some (.slice ao tl.length cap) := by subst hW0; simp [go_sem]
  have qu0 : W0.cell? ⟨w.heap.size + 1, 0, none⟩ = some (.int .i64 ue) := by subst hW0; simp [go_sem]
  have qu1 : W0.cell? ⟨w.heap.size + 1, 1, none⟩ = some (.slice ao' ul.length cap') := by subst hW0; simp [go_sem]
  have qr0 : W0.cell? ⟨w.heap.size + 2, 0, none⟩ = some (.int .i64 0) := by subst hW0; simp [go_sem]
  have qr1 : W0.cell? ⟨w.heap.size + 2, 1, none⟩ = some (.slice none 0 0) := by subst hW0; simp [go_sem]
  have qrf : ∀ o, W0.frozen? ⟨w.heap.size + 2, o, none⟩ = false := by subst hW0; intro o; simp [go_sem]
  have HT := Lib.hid (HT.out.below hB0)
  have HU := Lib.hid (HU.out.below hB0)
  go_enter Try.func23, Try.ntmps23
  go_upto_region 1 with fail
  rw [← hW0]
  clear hW0
  go_cut [31] (fun s31 wx => s31 = .bool (!B) ∧ Below W0.heap.size W0 wx)
  case first =>
    cases B
    · skip
      refine wp_region_held_drew (S := (fun w' => w'.cell? ⟨w.heap.size, 0, none⟩ = some (.int .i64 te) ∧ w'.cell? ⟨w.heap.size, 1, none⟩ = some (.slice ao tl.length cap) ∧ w'.cell? ⟨w.heap.size + 1, 0, none⟩ = some (.int .i64 ue) ∧ w'.cell? ⟨w.heap.size + 1, 1, none⟩ = some (.slice ao' ul.length cap'))) (by kernel_rfl) ?_ (fun hHeld => ?_)
      · first | exact trivial | ((try dsimp only); go_keep)
      refine tkR 0 (v := ?_) ?_ ?_
      rotate_left
      · intro w hSw; (try dsimp only at hSw); go_simp <;> with_reducible rfl
      try simp only [Act.put, List.setIfInBounds_toArray, List.set_cons_zero, List.set_cons_succ]
      refine wpAnyH_ready (rs := [1]) (by kernel_rfl) (by simp) ?_
      refine rdR (fun K hK => ?_) ?_
      · go_simp
        refine (isTypeS_b _ _ _ (te, tl) (HT.out.below (show Below W0.heap.size W0 _ from bwT)) true HKT.out.symm).mono ?_
        rintro e va ⟨rfl, hrva⟩
        have hpva : Below W0.heap.size W0 va := Below.after bwT hrva (by first | omega | (simp; omega) | simp)
        have sva := hpva.size
        have hbva : Below W0.heap.size W0 va := hpva
        have hSva := (And.intro (oldc hbva (by omega) qt0) (And.intro (oldc hbva (by omega) qt1) (And.intro (oldc hbva (by omega) qu0) (oldc hbva (by omega) qu1))))
        clear hrva
        refine hK.out _ _ ?_ (fun hHeld => ?_)
        · exact kpT
        clear hK K
        try simp only [Act.put, List.setIfInBounds_toArray, List.set_cons_zero, List.set_cons_succ]
        refine tkR 2 (v := ?_) ?_ ?_
        rotate_left
        · intro w hSw; (try dsimp only at hSw); go_simp <;> with_reducible rfl
        try simp only [Act.put, List.setIfInBounds_toArray, List.set_cons_zero, List.set_cons_succ]
        refine tkR 3 (v := ?_) ?_ ?_
        rotate_left
        · intro w hSw; (try dsimp only at hSw); go_simp <;> with_reducible rfl
        try simp only [Act.put, List.setIfInBounds_toArray, List.set_cons_zero, List.set_cons_succ]
        refine tkR 4 (v := ?_) ?_ ?_
        rotate_left
        · intro w hSw; (try dsimp only at hSw); go_simp <;> with_reducible rfl
        try simp only [Act.put, List.setIfInBounds_toArray, List.set_cons_zero, List.set_cons_succ]
        refine wpAnyH_ready (rs := [5]) (by kernel_rfl) (by simp) ?_
        refine rdR (fun K hK => ?_) ?_
        · go_simp
          refine (isTypeS_b _ _ _ (ue, ul) (HU.out.below (show Below W0.heap.size W0 _ from hbva.trans ((show Below va.heap.size va _ from bwT).mono (by omega)))) false HB.out).mono ?_
          rintro e vb ⟨rfl, hrvb⟩
          have hpvb : Below va.heap.size va vb := Below.after bwT hrvb (by first | omega | (simp; omega) | simp)
          have svb := hpvb.size
          have hbvb : Below W0.heap.size W0 vb := hbva.trans (hpvb.mono (by omega))
          have hSvb := (And.intro (oldc hbvb (by omega) qt0) (And.intro (oldc hbvb (by omega) qt1) (And.intro (oldc hbvb (by omega) qu0) (oldc hbvb (by omega) qu1))))
          clear hrvb
          refine hK.out _ _ ?_ (fun hHeld => ?_)
          · exact kpT
          clear hK K
          try simp only [Act.put, List.setIfInBounds_toArray, List.set_cons_zero, List.set_cons_succ]
          refine tkR 6 (v := ?_) ?_ ?_
          rotate_left
          · intro w hSw; (try dsimp only at hSw); go_simp <;> with_reducible rfl
          try simp only [Act.put, List.setIfInBounds_toArray, List.set_cons_zero, List.set_cons_succ]
          refine tkR 7 (v := ?_) ?_ ?_
          rotate_left
          · intro w hSw; (try dsimp only at hSw); go_simp <;> with_reducible rfl
          try simp only [Act.put, List.setIfInBounds_toArray, List.set_cons_zero, List.set_cons_succ]
          refine tkR 8 (v := ?_) ?_ ?_
          rotate_left
          · intro w hSw; (try dsimp only at hSw); go_simp <;> with_reducible rfl
          try simp only [Act.put, List.setIfInBounds_toArray, List.set_cons_zero, List.set_cons_succ]
          refine skR 9 ?_
          try simp only [Act.put, List.setIfInBounds_toArray, List.set_cons_zero, List.set_cons_succ]
          refine skR 10 ?_
          try simp only [Act.put, List.setIfInBounds_toArray, List.set_cons_zero, List.set_cons_succ]
          refine skR 11 ?_
          try simp only [Act.put, List.setIfInBounds_toArray, List.set_cons_zero, List.set_cons_succ]
          refine skR 12 ?_
          try simp only [Act.put, List.setIfInBounds_toArray, List.set_cons_zero, List.set_cons_succ]
          refine skR 13 ?_
          try simp only [Act.put, List.setIfInBounds_toArray, List.set_cons_zero, List.set_cons_succ]
          refine skR 14 ?_
          try simp only [Act.put, List.setIfInBounds_toArray, List.set_cons_zero, List.set_cons_succ]
          refine skR 15 ?_
          try simp only [Act.put, List.setIfInBounds_toArray, List.set_cons_zero, List.set_cons_succ]
          refine skR 16 ?_
          try simp only [Act.put, List.setIfInBounds_toArray, List.set_cons_zero, List.set_cons_succ]
          refine skR 17 ?_
          try simp only [Act.put, List.setIfInBounds_toArray, List.set_cons_zero, List.set_cons_succ]
          refine skR 18 ?_
          try simp only [Act.put, List.setIfInBounds_toArray, List.set_cons_zero, List.set_cons_succ]
          refine skR 20 ?_
          try simp only [Act.put, List.setIfInBounds_toArray, List.set_cons_zero, List.set_cons_succ]
          refine skR 19 ?_
          try simp only [Act.put, List.setIfInBounds_toArray, List.set_cons_zero, List.set_cons_succ]
          refine skR 21 ?_
          try simp only [Act.put, List.setIfInBounds_toArray, List.set_cons_zero, List.set_cons_succ]
          refine skR 22 ?_
          try simp only [Act.put, List.setIfInBounds_toArray, List.set_cons_zero, List.set_cons_succ]
          refine skR 23 ?_
          try simp only [Act.put, List.setIfInBounds_toArray, List.set_cons_zero, List.set_cons_succ]
          refine tkR 24 (v := ?_) ?_ ?_
          rotate_left
          · intro w hSw; (try dsimp only at hSw); go_simp <;> with_reducible rfl
          try simp only [Act.put, List.setIfInBounds_toArray, List.set_cons_zero, List.set_cons_succ]
          refine wpAnyH_done (by kernel_rfl) ?_ _
          go_wp2_with fail
          go_meet
          exact ⟨rfl, hbvb.trans ((show Below vb.heap.size vb _ from bwT).mono (by omega))⟩
        exact AllReadyH.nil
      exact AllReadyH.nil
    · by_cases hu0 : ue = 0
      · have g1 : (ue != 0) = false := by simpa using hu0
        clear hu0
        refine wp_region_held_drew (S := (fun w' => w'.cell? ⟨w.heap.size, 0, none⟩ = some (.int .i64 te) ∧ w'.cell? ⟨w.heap.size, 1, none⟩ = some (.slice ao tl.length cap) ∧ w'.cell? ⟨w.heap.size + 1, 0, none⟩ = some (.int .i64 ue) ∧ w'.cell? ⟨w.heap.size + 1, 1, none⟩ = some (.slice ao' ul.length cap'))) (by kernel_rfl) ?_ (fun hHeld => ?_)
        · first | exact trivial | ((try dsimp only); go_keep)
        refine tkR 0 (v := ?_) ?_ ?_
        rotate_left
        · intro w hSw; (try dsimp only at hSw); go_simp <;> with_reducible rfl
        try simp only [Act.put, List.setIfInBounds_toArray, List.set_cons_zero, List.set_cons_succ]
        refine wpAnyH_ready (rs := [1]) (by kernel_rfl) (by simp) ?_
        refine rdR (fun K hK => ?_) ?_
        · go_simp
          refine (isTypeS_b _ _ _ (te, tl) (HT.out.below (show Below W0.heap.size W0 _ from bwT)) true HKT.out.symm).mono ?_
          rintro e va ⟨rfl, hrva⟩
          have hpva : Below W0.heap.size W0 va := Below.after bwT hrva (by first | omega | (simp; omega) | simp)
          have sva := hpva.size
          have hbva : Below W0.heap.size W0 va := hpva
          have hSva := (And.intro (oldc hbva (by omega) qt0) (And.intro (oldc hbva (by omega) qt1) (And.intro (oldc hbva (by omega) qu0) (oldc hbva (by omega) qu1))))
          clear hrva
          refine hK.out _ _ ?_ (fun hHeld => ?_)
          · exact kpT
          clear hK K
          try simp only [Act.put, List.setIfInBounds_toArray, List.set_cons_zero, List.set_cons_succ]
          refine tkR 2 (v := ?_) ?_ ?_
          rotate_left
          · intro w hSw; (try dsimp only at hSw); go_simp <;> with_reducible rfl
          try simp only [Act.put, List.setIfInBounds_toArray, List.set_cons_zero, List.set_cons_succ]
          refine tkR 3 (v := ?_) ?_ ?_
          rotate_left
          · intro w hSw; (try dsimp only at hSw); go_simp <;> with_reducible rfl
          try simp only [Act.put, List.setIfInBounds_toArray, List.set_cons_zero, List.set_cons_succ]
          refine tkR 4 (v := ?_) ?_ ?_
          rotate_left
          · intro w hSw; (try dsimp only at hSw); go_simp <;> with_reducible rfl
          try simp only [Act.put, List.setIfInBounds_toArray, List.set_cons_zero, List.set_cons_succ]
          refine wpAnyH_ready (rs := [5]) (by kernel_rfl) (by simp) ?_
          refine rdR (fun K hK => ?_) ?_
          · go_simp
            refine (isTypeS_b _ _ _ (ue, ul) (HU.out.below (show Below W0.heap.size W0 _ from hbva.trans ((show Below va.heap.size va _ from bwT).mono (by omega)))) true HB.out).mono ?_
            rintro e vb ⟨rfl, hrvb⟩
            have hpvb : Below va.heap.size va vb := Below.after bwT hrvb (by first | omega | (simp; omega) | simp)
            have svb := hpvb.size
            have hbvb : Below W0.heap.size W0 vb := hbva.trans (hpvb.mono (by omega))
            have hSvb := (And.intro (oldc hbvb (by omega) qt0) (And.intro (oldc hbvb (by omega) qt1) (And.intro (oldc hbvb (by omega) qu0) (oldc hbvb (by omega) qu1))))
            clear hrvb
            refine hK.out _ _ ?_ (fun hHeld => ?_)
            · exact kpT
            clear hK K
            try simp only [Act.put, List.setIfInBounds_toArray, List.set_cons_zero, List.set_cons_succ]
            refine tkR 6 (v := ?_) ?_ ?_
            rotate_left
            · intro w hSw; (try dsimp only at hSw); go_simp <;> with_reducible rfl
            try simp only [Act.put, List.setIfInBounds_toArray, List.set_cons_zero, List.set_cons_succ]
            refine tkR 7 (v := ?_) ?_ ?_
            rotate_left
            · intro w hSw; (try dsimp only at hSw); go_simp <;> with_reducible rfl
            try simp only [Act.put, List.setIfInBounds_toArray, List.set_cons_zero, List.set_cons_succ]
            refine tkR 8 (v := ?_) ?_ ?_
            rotate_left
            · intro w hSw; (try dsimp only at hSw); go_simp <;> with_reducible rfl
            try simp only [Act.put, List.setIfInBounds_toArray, List.set_cons_zero, List.set_cons_succ]
            refine tkR 9 (v := ?_) ?_ ?_
            rotate_left
            · intro w hSw; (try dsimp only at hSw); go_simp <;> with_reducible rfl
            try simp only [Act.put, List.setIfInBounds_toArray, List.set_cons_zero, List.set_cons_succ]
            refine tkR 10 (v := ?_) ?_ ?_
            rotate_left
            · intro w hSw; (try dsimp only at hSw); go_simp <;> with_reducible rfl
            try simp only [Act.put, List.setIfInBounds_toArray, List.set_cons_zero, List.set_cons_succ]
            refine tkR 11 (v := ?_) ?_ ?_
            rotate_left
            · intro w hSw; (try dsimp only at hSw); go_simp <;> with_reducible rfl
            try simp only [Act.put, List.setIfInBounds_toArray, List.set_cons_zero, List.set_cons_succ]
            refine tkR 12 (v := ?_) ?_ ?_
            rotate_left
            · intro w hSw; (try dsimp only at hSw); go_simp <;> with_reducible rfl
            try simp only [Act.put, List.setIfInBounds_toArray, List.set_cons_zero, List.set_cons_succ]
            refine skR 13 ?_
            try simp only [Act.put, List.setIfInBounds_toArray, List.set_cons_zero, List.set_cons_succ]
            refine skR 14 ?_
            try simp only [Act.put, List.setIfInBounds_toArray, List.set_cons_zero, List.set_cons_succ]
            refine skR 15 ?_
            try simp only [Act.put, List.setIfInBounds_toArray, List.set_cons_zero, List.set_cons_succ]
            refine tkR 16 (v := ?_) ?_ ?_
            rotate_left
            · intro w hSw; (try dsimp only at hSw); go_simp <;> with_reducible rfl
            try simp only [Act.put, List.setIfInBounds_toArray, List.set_cons_zero, List.set_cons_succ]
            refine tkR 17 (v := ?_) ?_ ?_
            rotate_left
            · intro w hSw; (try dsimp only at hSw); go_simp <;> with_reducible rfl
            try simp only [Act.put, List.setIfInBounds_toArray, List.set_cons_zero, List.set_cons_succ]
            refine skR 18 ?_
            try simp only [Act.put, List.setIfInBounds_toArray, List.set_cons_zero, List.set_cons_succ]
            refine skR 20 ?_
            try simp only [Act.put, List.setIfInBounds_toArray, List.set_cons_zero, List.set_cons_succ]
            refine skR 19 ?_
            try simp only [Act.put, List.setIfInBounds_toArray, List.set_cons_zero, List.set_cons_succ]
            refine skR 21 ?_
            try simp only [Act.put, List.setIfInBounds_toArray, List.set_cons_zero, List.set_cons_succ]
            refine skR 22 ?_
            try simp only [Act.put, List.setIfInBounds_toArray, List.set_cons_zero, List.set_cons_succ]
            refine tkR 23 (v := ?_) ?_ ?_
            rotate_left
            · intro w hSw; (try dsimp only at hSw); go_simp <;> with_reducible rfl
            try simp only [Act.put, List.setIfInBounds_toArray, List.set_cons_zero, List.set_cons_succ]
            refine tkR 24 (v := ?_) ?_ ?_
            rotate_left
            · intro w hSw; (try dsimp only at hSw); go_simp <;> with_reducible rfl
            try simp only [Act.put, List.setIfInBounds_toArray, List.set_cons_zero, List.set_cons_succ]
            refine wpAnyH_done (by kernel_rfl) ?_ _
            go_wp2_with fail
            go_meet
            exact ⟨rfl, hbvb.trans ((show Below vb.heap.size vb _ from bwT).mono (by omega))⟩
          exact AllReadyH.nil
        exact AllReadyH.nil
      · have g1 : (ue != 0) = true := by simpa using hu0
        have hus : ue = sx := by
          rcases HSX.out with h | h
          · exact absurd h hu0
          · rw [h, HS.out]
        have g2 : (sx != 0) = true := by rw [← hus]; exact g1
        have g3 : (ue != sx) = false := by simpa using hus
        clear hu0 hus
        refine wp_region_held_drew (S := (fun w' => w'.cell? ⟨w.heap.size, 0, none⟩ = some (.int .i64 te) ∧ w'.cell? ⟨w.heap.size, 1, none⟩ = some (.slice ao tl.length cap) ∧ w'.cell? ⟨w.heap.size + 1, 0, none⟩ = some (.int .i64 ue) ∧ w'.cell? ⟨w.heap.size + 1, 1, none⟩ = some (.slice ao' ul.length cap'))) (by kernel_rfl) ?_ (fun hHeld => ?_)
        · first | exact trivial | ((try dsimp only); go_keep)
        refine tkR 0 (v := ?_) ?_ ?_
        rotate_left
        · intro w hSw; (try dsimp only at hSw); go_simp <;> with_reducible rfl
        try simp only [Act.put, List.setIfInBounds_toArray, List.set_cons_zero, List.set_cons_succ]
        refine wpAnyH_ready (rs := [1]) (by kernel_rfl) (by simp) ?_
        refine rdR (fun K hK => ?_) ?_
        · go_simp
          refine (isTypeS_b _ _ _ (te, tl) (HT.out.below (show Below W0.heap.size W0 _ from bwT)) true HKT.out.symm).mono ?_
          rintro e va ⟨rfl, hrva⟩
          have hpva : Below W0.heap.size W0 va := Below.after bwT hrva (by first | omega | (simp; omega) | simp)
          have sva := hpva.size
          have hbva : Below W0.heap.size W0 va := hpva
          have hSva := (And.intro (oldc hbva (by omega) qt0) (And.intro (oldc hbva (by omega) qt1) (And.intro (oldc hbva (by omega) qu0) (oldc hbva (by omega) qu1))))
          clear hrva
          refine hK.out _ _ ?_ (fun hHeld => ?_)
          · exact kpT
          clear hK K
          try simp only [Act.put, List.setIfInBounds_toArray, List.set_cons_zero, List.set_cons_succ]
          refine tkR 2 (v := ?_) ?_ ?_
          rotate_left
          · intro w hSw; (try dsimp only at hSw); go_simp <;> with_reducible rfl
          try simp only [Act.put, List.setIfInBounds_toArray, List.set_cons_zero, List.set_cons_succ]
          refine tkR 3 (v := ?_) ?_ ?_
          rotate_left
          · intro w hSw; (try dsimp only at hSw); go_simp <;> with_reducible rfl
          try simp only [Act.put, List.setIfInBounds_toArray, List.set_cons_zero, List.set_cons_succ]
          refine tkR 4 (v := ?_) ?_ ?_
          rotate_left
          · intro w hSw; (try dsimp only at hSw); go_simp <;> with_reducible rfl
          try simp only [Act.put, List.setIfInBounds_toArray, List.set_cons_zero, List.set_cons_succ]
          refine wpAnyH_ready (rs := [5]) (by kernel_rfl) (by simp) ?_
          refine rdR (fun K hK => ?_) ?_
          · go_simp
            refine (isTypeS_b _ _ _ (ue, ul) (HU.out.below (show Below W0.heap.size W0 _ from hbva.trans ((show Below va.heap.size va _ from bwT).mono (by omega)))) true HB.out).mono ?_
            rintro e vb ⟨rfl, hrvb⟩
            have hpvb : Below va.heap.size va vb := Below.after bwT hrvb (by first | omega | (simp; omega) | simp)
            have svb := hpvb.size
            have hbvb : Below W0.heap.size W0 vb := hbva.trans (hpvb.mono (by omega))
            have hSvb := (And.intro (oldc hbvb (by omega) qt0) (And.intro (oldc hbvb (by omega) qt1) (And.intro (oldc hbvb (by omega) qu0) (oldc hbvb (by omega) qu1))))
            clear hrvb
            refine hK.out _ _ ?_ (fun hHeld => ?_)
            · exact kpT
            clear hK K
            try simp only [Act.put, List.setIfInBounds_toArray, List.set_cons_zero, List.set_cons_succ]
            refine tkR 6 (v := ?_) ?_ ?_
            rotate_left
            · intro w hSw; (try dsimp only at hSw); go_simp <;> with_reducible rfl
            try simp only [Act.put, List.setIfInBounds_toArray, List.set_cons_zero, List.set_cons_succ]
            refine tkR 7 (v := ?_) ?_ ?_
            rotate_left
            · intro w hSw; (try dsimp only at hSw); go_simp <;> with_reducible rfl
            try simp only [Act.put, List.setIfInBounds_toArray, List.set_cons_zero, List.set_cons_succ]
            refine tkR 8 (v := ?_) ?_ ?_
            rotate_left
            · intro w hSw; (try dsimp only at hSw); go_simp <;> with_reducible rfl
            try simp only [Act.put, List.setIfInBounds_toArray, List.set_cons_zero, List.set_cons_succ]
            refine tkR 9 (v := ?_) ?_ ?_
            rotate_left
            · intro w hSw; (try dsimp only at hSw); go_simp <;> with_reducible rfl
            try simp only [Act.put, List.setIfInBounds_toArray, List.set_cons_zero, List.set_cons_succ]
            refine tkR 10 (v := ?_) ?_ ?_
            rotate_left
            · intro w hSw; (try dsimp only at hSw); go_simp <;> with_reducible rfl
            try simp only [Act.put, List.setIfInBounds_toArray, List.set_cons_zero, List.set_cons_succ]
            refine tkR 11 (v := ?_) ?_ ?_
            rotate_left
            · intro w hSw; (try dsimp only at hSw); go_simp <;> with_reducible rfl
            try simp only [Act.put, List.setIfInBounds_toArray, List.set_cons_zero, List.set_cons_succ]
            refine tkR 12 (v := ?_) ?_ ?_
            rotate_left
            · intro w hSw; (try dsimp only at hSw); go_simp <;> with_reducible rfl
            try simp only [Act.put, List.setIfInBounds_toArray, List.set_cons_zero, List.set_cons_succ]
            refine tkR 13 (v := ?_) ?_ ?_
            rotate_left
            · intro w hSw; (try dsimp only at hSw); go_simp <;> with_reducible rfl
            try simp only [Act.put, List.setIfInBounds_toArray, List.set_cons_zero, List.set_cons_succ]
            refine wpAnyH_ready (rs := [14]) (by kernel_rfl) (by simp) ?_
            refine rdR (fun K hK => ?_) ?_
            · go_simp
              refine (lastS_any _ _ _ (te, tl) (HT.out.below (show Below W0.heap.size W0 _ from hbvb.trans ((show Below vb.heap.size vb _ from bwT).mono (by omega)))) HKT.out sx HS.out).mono ?_
              rintro e vc ⟨rfl, hrvc⟩
              have hpvc : Below vb.heap.size vb vc := Below.after bwT hrvc (by first | omega | (simp; omega) | simp)
              have svc := hpvc.size
              have hbvc : Below W0.heap.size W0 vc := hbvb.trans (hpvc.mono (by omega))
              have hSvc := (And.intro (oldc hbvc (by omega) qt0) (And.intro (oldc hbvc (by omega) qt1) (And.intro (oldc hbvc (by omega) qu0) (oldc hbvc (by omega) qu1))))
              clear hrvc
              refine hK.out _ _ ?_ (fun hHeld => ?_)
              · exact kpT
              clear hK K
              try simp only [Act.put, List.setIfInBounds_toArray, List.set_cons_zero, List.set_cons_succ]
              refine tkR 15 (v := ?_) ?_ ?_
              rotate_left
              · intro w hSw; (try dsimp only at hSw); go_simp <;> with_reducible rfl
              try simp only [Act.put, List.setIfInBounds_toArray, List.set_cons_zero, List.set_cons_succ]
              refine tkR 16 (v := ?_) ?_ ?_
              rotate_left
              · intro w hSw; (try dsimp only at hSw); go_simp <;> with_reducible rfl
              try simp only [Act.put, List.setIfInBounds_toArray, List.set_cons_zero, List.set_cons_succ]
              refine tkR 17 (v := ?_) ?_ ?_
              rotate_left
              · intro w hSw; (try dsimp only at hSw); go_simp <;> with_reducible rfl
              try simp only [Act.put, List.setIfInBounds_toArray, List.set_cons_zero, List.set_cons_succ]
              refine tkR 18 (v := ?_) ?_ ?_
              rotate_left
              · intro w hSw; (try dsimp only at hSw); go_simp <;> with_reducible rfl
              try simp only [Act.put, List.setIfInBounds_toArray, List.set_cons_zero, List.set_cons_succ]
              refine tkR 20 (v := ?_) ?_ ?_
              rotate_left
              · intro w hSw; (try dsimp only at hSw); go_simp <;> with_reducible rfl
              try simp only [Act.put, List.setIfInBounds_toArray, List.set_cons_zero, List.set_cons_succ]
              refine tkR 19 (v := ?_) ?_ ?_
              rotate_left
              · intro w hSw; (try dsimp only at hSw); go_simp <;> with_reducible rfl
              try simp only [Act.put, List.setIfInBounds_toArray, List.set_cons_zero, List.set_cons_succ]
              refine wpAnyH_ready (rs := [21]) (by kernel_rfl) (by simp) ?_
              refine rdR (fun K hK => ?_) ?_
              · go_simp
                refine (lastS_any _ _ _ (te, tl) (HT.out.below (show Below W0.heap.size W0 _ from hbvc.trans ((show Below vc.heap.size vc _ from bwT).mono (by omega)))) HKT.out sx HS.out).mono ?_
                rintro e vd ⟨rfl, hrvd⟩
                have hpvd : Below vc.heap.size vc vd := Below.after bwT hrvd (by first | omega | (simp; omega) | simp)
                have svd := hpvd.size
                have hbvd : Below W0.heap.size W0 vd := hbvc.trans (hpvd.mono (by omega))
                have hSvd := (And.intro (oldc hbvd (by omega) qt0) (And.intro (oldc hbvd (by omega) qt1) (And.intro (oldc hbvd (by omega) qu0) (oldc hbvd (by omega) qu1))))
                clear hrvd
                refine hK.out _ _ ?_ (fun hHeld => ?_)
                · exact kpT
                clear hK K
                try simp only [Act.put, List.setIfInBounds_toArray, List.set_cons_zero, List.set_cons_succ]
                refine tkR 22 (v := ?_) ?_ ?_
                rotate_left
                · intro w hSw; (try dsimp only at hSw); go_simp <;> with_reducible rfl
                try simp only [Act.put, List.setIfInBounds_toArray, List.set_cons_zero, List.set_cons_succ]
                refine tkR 23 (v := ?_) ?_ ?_
                rotate_left
                · intro w hSw; (try dsimp only at hSw); go_simp <;> with_reducible rfl
                try simp only [Act.put, List.setIfInBounds_toArray, List.set_cons_zero, List.set_cons_succ]
                refine tkR 24 (v := ?_) ?_ ?_
                rotate_left
                · intro w hSw; (try dsimp only at hSw); go_simp <;> with_reducible rfl
                try simp only [Act.put, List.setIfInBounds_toArray, List.set_cons_zero, List.set_cons_succ]
                refine wpAnyH_done (by kernel_rfl) ?_ _
                go_wp2_with fail
                go_meet
                exact ⟨rfl, hbvd.trans ((show Below vd.heap.size vd _ from bwT).mono (by omega))⟩
              exact AllReadyH.nil
            exact AllReadyH.nil
          exact AllReadyH.nil
        exact AllReadyH.nil
  case rest =>
    obtain ⟨w1, hw1⟩ : ∃ W : World, W = wc := ⟨_, rfl⟩
    subst hw1
    obtain ⟨rfl, hb1⟩ := hcut
    have s1 := hb1.size
    have hB1 : Below w.heap.size w w1 := hB0.trans (hb1.mono (by omega))
    have qt0 := oldc hb1 (by omega) qt0
    have qt1 := oldc hb1 (by omega) qt1
    have qu0 := oldc hb1 (by omega) qu0
    have qu1 := oldc hb1 (by omega) qu1
    have qr0 := oldc hb1 (by omega) qr0
    have qr1 := oldc hb1 (by omega) qr1
    have qrf : ∀ o, w1.frozen? ⟨w.heap.size + 2, o, none⟩ = false := fun o => (hb1.frozen (p := ⟨w.heap.size + 2, o, none⟩) (by show w.heap.size + 2 < _; omega)).trans (qrf o)
    have sw1 : w.heap.size + 2 < w1.heap.size := by omega
    have sw2 : w.heap.size + 1 < w1.heap.size := by omega
    have sw3 : w.heap.size < w1.heap.size := by omega
    cases B
    · have hJ0 : J = false := by rw [HJ.out]; unfold joinV; rw [← HB.out]; rfl
      have HX : X = (0, []) := by rw [HXX.out]; unfold joinX; rw [← HJ.out, hJ0]; rfl
      clear HXX
      subst hJ0 HX
      clear HT HU
      go_wp2
      exact bodyPost_ret (v := .tuple #[.agg #[.int .i64 0, .slice none 0 0], .bool false]) (by simp [results, Try.results23, go_sem, *]) rfl ⟨_, rfl, Ow.kin_mk (by unfold I64; omega) (Ow.nil _ _ _), bwT⟩
    have hKU := isKin_facts HB.out.symm
    have hul8 : ul.length ≤ 8 := hKU.2.1
    have hue : 0 ≤ ue ∧ ue ≤ 2 := hKU.1
    have HTL1 := Lib.hid (HTL.out.below hB1)
    have HUL1 := Lib.hid (HUL.out.below hB1)
    clear hKU HT HU HTL HUL
    obtain ⟨je, hje⟩ : ∃ e, e = (if te = 0 ∧ tl = [] then ue else te) := ⟨_, rfl⟩
    have HJE := Lib.hid hje
    have HJK := Lib.hid (show joinK (te, tl) (ue, ul) = (je, tl ++ ul) by unfold joinK; rw [HJE.out])
    have HIJ := Lib.hid (show I64 je by rw [hje]; split; exact HI'.out; exact HI.out)
    clear hje
    by_cases ht0 : te = 0
    · by_cases htl0 : tl = []
      · have hje : je = ue := by rw [HJE.out, if_pos ⟨ht0, htl0⟩]
        subst ht0
        have hlz : tl.length = 0 := by rw [htl0]; rfl
        have hl0 : ((tl.length : Int) == 0) = true := by rw [hlz]; rfl
        have hJEQ := Lib.hid hje.symm
        clear htl0 hlz hje
        go_upto_region 6 with fail
        obtain ⟨W2, hW2⟩ : ∃ W : World, W = w1.alloc (.cells #[.int .i64 ue, .slice none 0 0] 42) := ⟨_, rfl⟩
        have hB12 : Below w1.heap.size w1 W2 := by subst hW2; exact bwT
        have sz2 : W2.heap.size = w1.heap.size + 1 := by subst hW2; simp
        have o0 : W2.cell? ⟨w1.heap.size, 0, none⟩ = some (.int .i64 ue) := by subst hW2; simp [go_sem]
        have o1 : W2.cell? ⟨w1.heap.size, 1, none⟩ = some (.slice none 0 0) := by subst hW2; simp [go_sem]
        have of : ∀ o, W2.frozen? ⟨w1.heap.size, o, none⟩ = false := by subst hW2; intro o; simp [go_sem]
        rw [← hW2]
        clear hW2
        have pt1 := oldc hB12 (by omega) qt1
        have pu1 := oldc hB12 (by omega) qu1
        have pr0 := oldc hB12 (by omega) qr0
        have pr1 := oldc hB12 (by omega) qr1
        have pf : ∀ o, W2.frozen? ⟨w.heap.size + 2, o, none⟩ = false := fun o => (hB12.frozen (p := ⟨w.heap.size + 2, o, none⟩) (by show w.heap.size + 2 < _; omega)).trans (qrf o)
        clear qt0 qt1 qu0 qu1 qr0 qr1 qrf
        go_wp2_with (at_builtin; refine wpList_spread_flat rfl rfl slStep (by show (0 : Nat) < 2; omega) (GL.start true (w1.heap.size + 1) (w1.heap.size + 1) W2.heap.size W2 48) rfl rfl (HTL1.out.below (hB12.mono (Nat.le_refl _))) (by unfold maxLen; simp; omega) (by simp; omega) (by omega) ?_)
        intro v3 w3 hG3 _ hb3
        (try rw [List.nil_append] at hG3)
        obtain ⟨g3, cap3, rfl, -, -⟩ := hG3.len
        have HG3 := Lib.hid hG3
        have hp3 : Below w1.heap.size w1 w3 := hB12.trans (hb3.mono (by omega))
        have sz3 := hb3.size
        have x0 := oldc hb3 (by omega) o0
        have x1 := oldc hb3 (by omega) o1
        have xf : ∀ o, w3.frozen? ⟨w1.heap.size, o, none⟩ = false := fun o => (hb3.frozen (p := ⟨w1.heap.size, o, none⟩) (by show w1.heap.size < _; omega)).trans (of o)
        have pt1 := oldc hb3 (by omega) pt1
        have pu1 := oldc hb3 (by omega) pu1
        have pr0 := oldc hb3 (by omega) pr0
        have pr1 := oldc hb3 (by omega) pr1
        have pf : ∀ o, w3.frozen? ⟨w.heap.size + 2, o, none⟩ = false := fun o => (hb3.frozen (p := ⟨w.heap.size + 2, o, none⟩) (by show w.heap.size + 2 < _; omega)).trans (pf o)
        clear hG3 hb3 o0 o1 of
        obtain ⟨WA, hWA⟩ : ∃ W : World, W = w3.setCell ⟨w1.heap.size, 1, none⟩ (.slice g3 tl.length cap3) := ⟨_, rfl⟩
        have lA3 : w1.heap.size < w3.heap.size := by omega
        have v1 : ¬ w1.heap.size = w.heap.size := by omega
        have v2 : ¬ w1.heap.size = w.heap.size + 1 := by omega
        have v3 : ¬ w1.heap.size = w.heap.size + 2 := by omega
        have v4 : ¬ w.heap.size = w1.heap.size := by omega
        have v5 : ¬ w.heap.size + 1 = w1.heap.size := by omega
        have v6 : ¬ w.heap.size + 2 = w1.heap.size := by omega
        have szA : WA.heap.size = w3.heap.size := by subst hWA; simp
        have hBA : Below w1.heap.size w1 WA := by subst hWA; exact Below.setCell hp3 (by simp) _
        have HGA := Lib.hid (show GL true (w1.heap.size + 1) (w1.heap.size + 1) WA.heap.size WA 48 (.slice g3 tl.length cap3) tl by subst hWA; exact (HG3.out.keep znT znT).top)
        have y0 : WA.cell? ⟨w1.heap.size, 0, none⟩ = some (.int .i64 ue) := by subst hWA; simp [go_sem, *]
        have y1 : WA.cell? ⟨w1.heap.size, 1, none⟩ = some (.slice g3 tl.length cap3) := by subst hWA; simp [go_sem, *]
        have yf : ∀ o, WA.frozen? ⟨w1.heap.size, o, none⟩ = false := by subst hWA; intro o; simp [go_sem, *]
        have pu1 : WA.cell? ⟨w.heap.size + 1, 1, none⟩ = some (.slice ao' ul.length cap') := by subst hWA; simp [go_sem, *]
        have pr0 : WA.cell? ⟨w.heap.size + 2, 0, none⟩ = some (.int .i64 0) := by subst hWA; simp [go_sem, *]
        have pr1 : WA.cell? ⟨w.heap.size + 2, 1, none⟩ = some (.slice none 0 0) := by subst hWA; simp [go_sem, *]
        have pf : ∀ o, WA.frozen? ⟨w.heap.size + 2, o, none⟩ = false := by subst hWA; intro o; simp [go_sem, *]
        go_upto_region 7 with fail
        rw [← hWA]
        clear hWA x0 x1 xf pt1 HG3
        go_wp2_with (at_builtin; refine wpList_spread_flat rfl rfl slStep (by show (0 : Nat) < 2; omega) HGA.out rfl rfl (HUL1.out.below (hBA.mono (Nat.le_refl _))) (by unfold maxLen; omega) (by omega) (by omega) ?_)
        intro v5 w5 hG5 _ hb5
        obtain ⟨g5, cap5, rfl, -, -⟩ := hG5.len
        rw [List.length_append] at hG5 ⊢
        have HG5 := Lib.hid hG5
        have hp5 : Below w1.heap.size w1 w5 := hBA.trans (hb5.mono (by omega))
        have sz5 := hb5.size
        have x0 := oldc hb5 (by omega) y0
        have x1 := oldc hb5 (by omega) y1
        have xf : ∀ o, w5.frozen? ⟨w1.heap.size, o, none⟩ = false := fun o => (hb5.frozen (p := ⟨w1.heap.size, o, none⟩) (by show w1.heap.size < _; omega)).trans (yf o)
        have pr0 := oldc hb5 (by omega) pr0
        have pr1 := oldc hb5 (by omega) pr1
        have pf : ∀ o, w5.frozen? ⟨w.heap.size + 2, o, none⟩ = false := fun o => (hb5.frozen (p := ⟨w.heap.size + 2, o, none⟩) (by show w.heap.size + 2 < _; omega)).trans (pf o)
        clear hG5 hb5 y0 y1 yf pu1
        obtain ⟨WB, hWB⟩ : ∃ W : World, W = w5.setCell ⟨w1.heap.size, 1, none⟩ (.slice g5 (tl.length + ul.length) cap5) := ⟨_, rfl⟩
        have lA5 : w1.heap.size < w5.heap.size := by omega
        have szB : WB.heap.size = w5.heap.size := by subst hWB; simp
        have hBB : Below w1.heap.size w1 WB := by subst hWB; exact Below.setCell hp5 (by simp) _
        have HGB := Lib.hid (show GL true (w1.heap.size + 1) (w1.heap.size + 1) WB.heap.size WB 48 (.slice g5 (tl.length + ul.length) cap5) (tl ++ ul) by subst hWB; exact (HG5.out.keep znT znT).top)
        have HOB := Lib.hid (show Ow (w1.heap.size + 1) WB.heap.size WB [.int .i64 ue, .slice g5 (tl.length + ul.length) cap5] ((ue, tl ++ ul) : Kin) from Ow.kin_mk (by rw [hJEQ.out]; exact HIJ.out) (HGB.out.ow (Nat.le_refl _) (Nat.le_refl _)))
        have y0 : WB.cell? ⟨w1.heap.size, 0, none⟩ = some (.int .i64 ue) := by subst hWB; simp [go_sem, *]
        have y1 : WB.cell? ⟨w1.heap.size, 1, none⟩ = some (.slice g5 (tl.length + ul.length) cap5) := by subst hWB; simp [go_sem, *]
        have pr0 : WB.cell? ⟨w.heap.size + 2, 0, none⟩ = some (.int .i64 0) := by subst hWB; simp [go_sem, *]
        have pr1 : WB.cell? ⟨w.heap.size + 2, 1, none⟩ = some (.slice none 0 0) := by subst hWB; simp [go_sem, *]
        have pf : ∀ o, WB.frozen? ⟨w.heap.size + 2, o, none⟩ = false := by subst hWB; intro o; simp [go_sem, *]
        have HJ2 := Lib.hid (show J = isKin ((ue, tl ++ ul) : Kin) by rw [HJ.out]; unfold joinV; rw [← HB.out, HJK.out, Bool.true_and]; first | rfl | rw [hJEQ.out])
        go_upto_region 8 with fail
        rw [← hWB]
        clear hWB x0 x1 xf HG5 HGA HGB
        go_wp2_with fail
        refine (isTypeS_b _ _ _ (ue, tl ++ ul) (HOB.out.rd.below bwT) J HJ2.out).mono ?_
        rintro e w6 ⟨rfl, hb6⟩
        have hp6 : Below WB.heap.size WB w6 := Below.after bwT hb6 (by first | omega | (simp; omega) | simp)
        have sz6 := hp6.size
        have z0 := oldc hp6 (by omega) y0
        have z1 := oldc hp6 (by omega) y1
        have pr0 := oldc hp6 (by omega) pr0
        have pr1 := oldc hp6 (by omega) pr1
        have pf : ∀ o, w6.frozen? ⟨w.heap.size + 2, o, none⟩ = false := fun o => (hp6.frozen (p := ⟨w.heap.size + 2, o, none⟩) (by show w.heap.size + 2 < _; omega)).trans (pf o)
        have lA6 : w.heap.size + 2 < w6.heap.size := by omega
        have hB6 : Below w.heap.size w w6 := hB1.trans ((hBB.mono (by omega)).trans (hp6.mono (by omega)))
        have HOB := Lib.hid (HOB.out.below hp6)
        clear hb6 y0 y1 hp6
        cases J
        · have HX : X = (0, []) := by rw [HXX.out]; unfold joinX; rw [← HJ.out]; rfl
          clear HXX
          subst HX
          go_wp2
          exact bodyPost_ret (v := .tuple #[.agg #[.int .i64 0, .slice none 0 0], .bool false]) (by simp [results, Try.results23, go_sem, *]) rfl ⟨_, rfl, Ow.kin_mk (by unfold I64; omega) (Ow.nil _ _ _), bwT⟩
        · have HX : X = (ue, tl ++ ul) := by rw [HXX.out]; unfold joinX; rw [← HJ.out, HJK.out]; first | rfl | (rw [hJEQ.out]; rfl) | rw [hJEQ, if_pos rfl]
          clear HXX
          subst HX
          go_wp2
          exact bodyPost_ret (v := .tuple #[.agg #[.int .i64 ue, .slice g5 (tl.length + ul.length) cap5], .bool true]) (by simp [results, Try.results23, go_sem, *]) rfl ⟨_, rfl, (HOB.out.keep zmT).mono (by omega) (by simp; omega), bwT⟩
      · have hl0 : ((tl.length : Int) == 0) = false := by
          rw [beq_eq_false_iff_ne]
          intro e
          exact htl0 (List.eq_nil_of_length_eq_zero (by omega))
        have hje : je = te := by rw [HJE.out, if_neg (fun h => htl0 h.2)]
        have h00 : (te == 0) = true := by simpa using ht0
        have hJEQ := Lib.hid hje.symm
        clear ht0 htl0 hje
        go_upto_region 6 with fail
        obtain ⟨W2, hW2⟩ : ∃ W : World, W = w1.alloc (.cells #[.int .i64 te, .slice none 0 0] 42) := ⟨_, rfl⟩
        have hB12 : Below w1.heap.size w1 W2 := by subst hW2; exact bwT
        have sz2 : W2.heap.size = w1.heap.size + 1 := by subst hW2; simp
        have o0 : W2.cell? ⟨w1.heap.size, 0, none⟩ = some (.int .i64 te) := by subst hW2; simp [go_sem]
        have o1 : W2.cell? ⟨w1.heap.size, 1, none⟩ = some (.slice none 0 0) := by subst hW2; simp [go_sem]
        have of : ∀ o, W2.frozen? ⟨w1.heap.size, o, none⟩ = false := by subst hW2; intro o; simp [go_sem]
        rw [← hW2]
        clear hW2
        have pt1 := oldc hB12 (by omega) qt1
        have pu1 := oldc hB12 (by omega) qu1
        have pr0 := oldc hB12 (by omega) qr0
        have pr1 := oldc hB12 (by omega) qr1
        have pf : ∀ o, W2.frozen? ⟨w.heap.size + 2, o, none⟩ = false := fun o => (hB12.frozen (p := ⟨w.heap.size + 2, o, none⟩) (by show w.heap.size + 2 < _; omega)).trans (qrf o)
        clear qt0 qt1 qu0 qu1 qr0 qr1 qrf
        go_wp2_with (at_builtin; refine wpList_spread_flat rfl rfl slStep (by show (0 : Nat) < 2; omega) (GL.start true (w1.heap.size + 1) (w1.heap.size + 1) W2.heap.size W2 48) rfl rfl (HTL1.out.below (hB12.mono (Nat.le_refl _))) (by unfold maxLen; simp; omega) (by simp; omega) (by omega) ?_)
        intro v3 w3 hG3 _ hb3
        (try rw [List.nil_append] at hG3)
        obtain ⟨g3, cap3, rfl, -, -⟩ := hG3.len
        have HG3 := Lib.hid hG3
        have hp3 : Below w1.heap.size w1 w3 := hB12.trans (hb3.mono (by omega))
        have sz3 := hb3.size
        have x0 := oldc hb3 (by omega) o0
        have x1 := oldc hb3 (by omega) o1
        have xf : ∀ o, w3.frozen? ⟨w1.heap.size, o, none⟩ = false := fun o => (hb3.frozen (p := ⟨w1.heap.size, o, none⟩) (by show w1.heap.size < _; omega)).trans (of o)
        have pt1 := oldc hb3 (by omega) pt1
        have pu1 := oldc hb3 (by omega) pu1
        have pr0 := oldc hb3 (by omega) pr0
        have pr1 := oldc hb3 (by omega) pr1
        have pf : ∀ o, w3.frozen? ⟨w.heap.size + 2, o, none⟩ = false := fun o => (hb3.frozen (p := ⟨w.heap.size + 2, o, none⟩) (by show w.heap.size + 2 < _; omega)).trans (pf o)
        clear hG3 hb3 o0 o1 of
        obtain ⟨WA, hWA⟩ : ∃ W : World, W = w3.setCell ⟨w1.heap.size, 1, none⟩ (.slice g3 tl.length cap3) := ⟨_, rfl⟩
        have lA3 : w1.heap.size < w3.heap.size := by omega
        have v1 : ¬ w1.heap.size = w.heap.size := by omega
        have v2 : ¬ w1.heap.size = w.heap.size + 1 := by omega
        have v3 : ¬ w1.heap.size = w.heap.size + 2 := by omega
        have v4 : ¬ w.heap.size = w1.heap.size := by omega
        have v5 : ¬ w.heap.size + 1 = w1.heap.size := by omega
        have v6 : ¬ w.heap.size + 2 = w1.heap.size := by omega
        have szA : WA.heap.size = w3.heap.size := by subst hWA; simp
        have hBA : Below w1.heap.size w1 WA := by subst hWA; exact Below.setCell hp3 (by simp) _
        have HGA := Lib.hid (show GL true (w1.heap.size + 1) (w1.heap.size + 1) WA.heap.size WA 48 (.slice g3 tl.length cap3) tl by subst hWA; exact (HG3.out.keep znT znT).top)
        have y0 : WA.cell? ⟨w1.heap.size, 0, none⟩ = some (.int .i64 te) := by subst hWA; simp [go_sem, *]
        have y1 : WA.cell? ⟨w1.heap.size, 1, none⟩ = some (.slice g3 tl.length cap3) := by subst hWA; simp [go_sem, *]
        have yf : ∀ o, WA.frozen? ⟨w1.heap.size, o, none⟩ = false := by subst hWA; intro o; simp [go_sem, *]
        have pu1 : WA.cell? ⟨w.heap.size + 1, 1, none⟩ = some (.slice ao' ul.length cap') := by subst hWA; simp [go_sem, *]
        have pr0 : WA.cell? ⟨w.heap.size + 2, 0, none⟩ = some (.int .i64 0) := by subst hWA; simp [go_sem, *]
        have pr1 : WA.cell? ⟨w.heap.size + 2, 1, none⟩ = some (.slice none 0 0) := by subst hWA; simp [go_sem, *]
        have pf : ∀ o, WA.frozen? ⟨w.heap.size + 2, o, none⟩ = false := by subst hWA; intro o; simp [go_sem, *]
        go_upto_region 7 with fail
        rw [← hWA]
        clear hWA x0 x1 xf pt1 HG3
        go_wp2_with (at_builtin; refine wpList_spread_flat rfl rfl slStep (by show (0 : Nat) < 2; omega) HGA.out rfl rfl (HUL1.out.below (hBA.mono (Nat.le_refl _))) (by unfold maxLen; omega) (by omega) (by omega) ?_)
        intro v5 w5 hG5 _ hb5
        obtain ⟨g5, cap5, rfl, -, -⟩ := hG5.len
        rw [List.length_append] at hG5 ⊢
        have HG5 := Lib.hid hG5
        have hp5 : Below w1.heap.size w1 w5 := hBA.trans (hb5.mono (by omega))
        have sz5 := hb5.size
        have x0 := oldc hb5 (by omega) y0
        have x1 := oldc hb5 (by omega) y1
        have xf : ∀ o, w5.frozen? ⟨w1.heap.size, o, none⟩ = false := fun o => (hb5.frozen (p := ⟨w1.heap.size, o, none⟩) (by show w1.heap.size < _; omega)).trans (yf o)
        have pr0 := oldc hb5 (by omega) pr0
        have pr1 := oldc hb5 (by omega) pr1
        have pf : ∀ o, w5.frozen? ⟨w.heap.size + 2, o, none⟩ = false := fun o => (hb5.frozen (p := ⟨w.heap.size + 2, o, none⟩) (by show w.heap.size + 2 < _; omega)).trans (pf o)
        clear hG5 hb5 y0 y1 yf pu1
        obtain ⟨WB, hWB⟩ : ∃ W : World, W = w5.setCell ⟨w1.heap.size, 1, none⟩ (.slice g5 (tl.length + ul.length) cap5) := ⟨_, rfl⟩
        have lA5 : w1.heap.size < w5.heap.size := by omega
        have szB : WB.heap.size = w5.heap.size := by subst hWB; simp
        have hBB : Below w1.heap.size w1 WB := by subst hWB; exact Below.setCell hp5 (by simp) _
        have HGB := Lib.hid (show GL true (w1.heap.size + 1) (w1.heap.size + 1) WB.heap.size WB 48 (.slice g5 (tl.length + ul.length) cap5) (tl ++ ul) by subst hWB; exact (HG5.out.keep znT znT).top)
        have HOB := Lib.hid (show Ow (w1.heap.size + 1) WB.heap.size WB [.int .i64 te, .slice g5 (tl.length + ul.length) cap5] ((te, tl ++ ul) : Kin) from Ow.kin_mk (by rw [hJEQ.out]; exact HIJ.out) (HGB.out.ow (Nat.le_refl _) (Nat.le_refl _)))
        have y0 : WB.cell? ⟨w1.heap.size, 0, none⟩ = some (.int .i64 te) := by subst hWB; simp [go_sem, *]
        have y1 : WB.cell? ⟨w1.heap.size, 1, none⟩ = some (.slice g5 (tl.length + ul.length) cap5) := by subst hWB; simp [go_sem, *]
        have pr0 : WB.cell? ⟨w.heap.size + 2, 0, none⟩ = some (.int .i64 0) := by subst hWB; simp [go_sem, *]
        have pr1 : WB.cell? ⟨w.heap.size + 2, 1, none⟩ = some (.slice none 0 0) := by subst hWB; simp [go_sem, *]
        have pf : ∀ o, WB.frozen? ⟨w.heap.size + 2, o, none⟩ = false := by subst hWB; intro o; simp [go_sem, *]
        have HJ2 := Lib.hid (show J = isKin ((te, tl ++ ul) : Kin) by rw [HJ.out]; unfold joinV; rw [← HB.out, HJK.out, Bool.true_and]; first | rfl | rw [hJEQ.out])
        go_upto_region 8 with fail
        rw [← hWB]
        clear hWB x0 x1 xf HG5 HGA HGB
        go_wp2_with fail
        refine (isTypeS_b _ _ _ (te, tl ++ ul) (HOB.out.rd.below bwT) J HJ2.out).mono ?_
        rintro e w6 ⟨rfl, hb6⟩
        have hp6 : Below WB.heap.size WB w6 := Below.after bwT hb6 (by first | omega | (simp; omega) | simp)
        have sz6 := hp6.size
        have z0 := oldc hp6 (by omega) y0
        have z1 := oldc hp6 (by omega) y1
        have pr0 := oldc hp6 (by omega) pr0
        have pr1 := oldc hp6 (by omega) pr1
        have pf : ∀ o, w6.frozen? ⟨w.heap.size + 2, o, none⟩ = false := fun o => (hp6.frozen (p := ⟨w.heap.size + 2, o, none⟩) (by show w.heap.size + 2 < _; omega)).trans (pf o)
        have lA6 : w.heap.size + 2 < w6.heap.size := by omega
        have hB6 : Below w.heap.size w w6 := hB1.trans ((hBB.mono (by omega)).trans (hp6.mono (by omega)))
        have HOB := Lib.hid (HOB.out.below hp6)
        clear hb6 y0 y1 hp6
        cases J
        · have HX : X = (0, []) := by rw [HXX.out]; unfold joinX; rw [← HJ.out]; rfl
          clear HXX
          subst HX
          go_wp2
          exact bodyPost_ret (v := .tuple #[.agg #[.int .i64 0, .slice none 0 0], .bool false]) (by simp [results, Try.results23, go_sem, *]) rfl ⟨_, rfl, Ow.kin_mk (by unfold I64; omega) (Ow.nil _ _ _), bwT⟩
        · have HX : X = (te, tl ++ ul) := by rw [HXX.out]; unfold joinX; rw [← HJ.out, HJK.out]; first | rfl | (rw [hJEQ.out]; rfl) | rw [hJEQ, if_pos rfl]
          clear HXX
          subst HX
          go_wp2
          exact bodyPost_ret (v := .tuple #[.agg #[.int .i64 te, .slice g5 (tl.length + ul.length) cap5], .bool true]) (by simp [results, Try.results23, go_sem, *]) rfl ⟨_, rfl, (HOB.out.keep zmT).mono (by omega) (by simp; omega), bwT⟩
    · have hje : je = te := by rw [HJE.out, if_neg (fun h => ht0 h.1)]
      have h00 : (te == 0) = false := by simpa using ht0
      have hJEQ := Lib.hid hje.symm
      clear ht0 hje
      go_upto_region 6 with fail
      obtain ⟨W2, hW2⟩ : ∃ W : World, W = w1.alloc (.cells #[.int .i64 te, .slice none 0 0] 42) := ⟨_, rfl⟩
      have hB12 : Below w1.heap.size w1 W2 := by subst hW2; exact bwT
      have sz2 : W2.heap.size = w1.heap.size + 1 := by subst hW2; simp
      have o0 : W2.cell? ⟨w1.heap.size, 0, none⟩ = some (.int .i64 te) := by subst hW2; simp [go_sem]
      have o1 : W2.cell? ⟨w1.heap.size, 1, none⟩ = some (.slice none 0 0) := by subst hW2; simp [go_sem]
      have of : ∀ o, W2.frozen? ⟨w1.heap.size, o, none⟩ = false := by subst hW2; intro o; simp [go_sem]
      rw [← hW2]
      clear hW2
      have pt1 := oldc hB12 (by omega) qt1
      have pu1 := oldc hB12 (by omega) qu1
      have pr0 := oldc hB12 (by omega) qr0
      have pr1 := oldc hB12 (by omega) qr1
      have pf : ∀ o, W2.frozen? ⟨w.heap.size + 2, o, none⟩ = false := fun o => (hB12.frozen (p := ⟨w.heap.size + 2, o, none⟩) (by show w.heap.size + 2 < _; omega)).trans (qrf o)
      clear qt0 qt1 qu0 qu1 qr0 qr1 qrf
      go_wp2_with (at_builtin; refine wpList_spread_flat rfl rfl slStep (by show (0 : Nat) < 2; omega) (GL.start true (w1.heap.size + 1) (w1.heap.size + 1) W2.heap.size W2 48) rfl rfl (HTL1.out.below (hB12.mono (Nat.le_refl _))) (by unfold maxLen; simp; omega) (by simp; omega) (by omega) ?_)
      intro v3 w3 hG3 _ hb3
      (try rw [List.nil_append] at hG3)
      obtain ⟨g3, cap3, rfl, -, -⟩ := hG3.len
      have HG3 := Lib.hid hG3
      have hp3 : Below w1.heap.size w1 w3 := hB12.trans (hb3.mono (by omega))
      have sz3 := hb3.size
      have x0 := oldc hb3 (by omega) o0
      have x1 := oldc hb3 (by omega) o1
      have xf : ∀ o, w3.frozen? ⟨w1.heap.size, o, none⟩ = false := fun o => (hb3.frozen (p := ⟨w1.heap.size, o, none⟩) (by show w1.heap.size < _; omega)).trans (of o)
      have pt1 := oldc hb3 (by omega) pt1
      have pu1 := oldc hb3 (by omega) pu1
      have pr0 := oldc hb3 (by omega) pr0
      have pr1 := oldc hb3 (by omega) pr1
      have pf : ∀ o, w3.frozen? ⟨w.heap.size + 2, o, none⟩ = false := fun o => (hb3.frozen (p := ⟨w.heap.size + 2, o, none⟩) (by show w.heap.size + 2 < _; omega)).trans (pf o)
      clear hG3 hb3 o0 o1 of
      obtain ⟨WA, hWA⟩ : ∃ W : World, W = w3.setCell ⟨w1.heap.size, 1, none⟩ (.slice g3 tl.length cap3) := ⟨_, rfl⟩
      have lA3 : w1.heap.size < w3.heap.size := by omega
      have v1 : ¬ w1.heap.size = w.heap.size := by omega
      have v2 : ¬ w1.heap.size = w.heap.size + 1 := by omega
      have v3 : ¬ w1.heap.size = w.heap.size + 2 := by omega
      have v4 : ¬ w.heap.size = w1.heap.size := by omega
      have v5 : ¬ w.heap.size + 1 = w1.heap.size := by omega
      have v6 : ¬ w.heap.size + 2 = w1.heap.size := by omega
      have szA : WA.heap.size = w3.heap.size := by subst hWA; simp
      have hBA : Below w1.heap.size w1 WA := by subst hWA; exact Below.setCell hp3 (by simp) _
      have HGA := Lib.hid (show GL true (w1.heap.size + 1) (w1.heap.size + 1) WA.heap.size WA 48 (.slice g3 tl.length cap3) tl by subst hWA; exact (HG3.out.keep znT znT).top)
      have y0 : WA.cell? ⟨w1.heap.size, 0, none⟩ = some (.int .i64 te) := by subst hWA; simp [go_sem, *]
      have y1 : WA.cell? ⟨w1.heap.size, 1, none⟩ = some (.slice g3 tl.length cap3) := by subst hWA; simp [go_sem, *]
      have yf : ∀ o, WA.frozen? ⟨w1.heap.size, o, none⟩ = false := by subst hWA; intro o; simp [go_sem, *]
      have pu1 : WA.cell? ⟨w.heap.size + 1, 1, none⟩ = some (.slice ao' ul.length cap') := by subst hWA; simp [go_sem, *]
      have pr0 : WA.cell? ⟨w.heap.size + 2, 0, none⟩ = some (.int .i64 0) := by subst hWA; simp [go_sem, *]
      have pr1 : WA.cell? ⟨w.heap.size + 2, 1, none⟩ = some (.slice none 0 0) := by subst hWA; simp [go_sem, *]
      have pf : ∀ o, WA.frozen? ⟨w.heap.size + 2, o, none⟩ = false := by subst hWA; intro o; simp [go_sem, *]
      go_upto_region 7 with fail
      rw [← hWA]
      clear hWA x0 x1 xf pt1 HG3
      go_wp2_with (at_builtin; refine wpList_spread_flat rfl rfl slStep (by show (0 : Nat) < 2; omega) HGA.out rfl rfl (HUL1.out.below (hBA.mono (Nat.le_refl _))) (by unfold maxLen; omega) (by omega) (by omega) ?_)
      intro v5 w5 hG5 _ hb5
      obtain ⟨g5, cap5, rfl, -, -⟩ := hG5.len
      rw [List.length_append] at hG5 ⊢
      have HG5 := Lib.hid hG5
      have hp5 : Below w1.heap.size w1 w5 := hBA.trans (hb5.mono (by omega))
      have sz5 := hb5.size
      have x0 := oldc hb5 (by omega) y0
      have x1 := oldc hb5 (by omega) y1
      have xf : ∀ o, w5.frozen? ⟨w1.heap.size, o, none⟩ = false := fun o => (hb5.frozen (p := ⟨w1.heap.size, o, none⟩) (by show w1.heap.size < _; omega)).trans (yf o)
      have pr0 := oldc hb5 (by omega) pr0
      have pr1 := oldc hb5 (by omega) pr1
      have pf : ∀ o, w5.frozen? ⟨w.heap.size + 2, o, none⟩ = false := fun o => (hb5.frozen (p := ⟨w.heap.size + 2, o, none⟩) (by show w.heap.size + 2 < _; omega)).trans (pf o)
      clear hG5 hb5 y0 y1 yf pu1
      obtain ⟨WB, hWB⟩ : ∃ W : World, W = w5.setCell ⟨w1.heap.size, 1, none⟩ (.slice g5 (tl.length + ul.length) cap5) := ⟨_, rfl⟩
      have lA5 : w1.heap.size < w5.heap.size := by omega
      have szB : WB.heap.size = w5.heap.size := by subst hWB; simp
      have hBB : Below w1.heap.size w1 WB := by subst hWB; exact Below.setCell hp5 (by simp) _
      have HGB := Lib.hid (show GL true (w1.heap.size + 1) (w1.heap.size + 1) WB.heap.size WB 48 (.slice g5 (tl.length + ul.length) cap5) (tl ++ ul) by subst hWB; exact (HG5.out.keep znT znT).top)
      have HOB := Lib.hid (show Ow (w1.heap.size + 1) WB.heap.size WB [.int .i64 te, .slice g5 (tl.length + ul.length) cap5] ((te, tl ++ ul) : Kin) from Ow.kin_mk (by rw [hJEQ.out]; exact HIJ.out) (HGB.out.ow (Nat.le_refl _) (Nat.le_refl _)))
      have y0 : WB.cell? ⟨w1.heap.size, 0, none⟩ = some (.int .i64 te) := by subst hWB; simp [go_sem, *]
      have y1 : WB.cell? ⟨w1.heap.size, 1, none⟩ = some (.slice g5 (tl.length + ul.length) cap5) := by subst hWB; simp [go_sem, *]
      have pr0 : WB.cell? ⟨w.heap.size + 2, 0, none⟩ = some (.int .i64 0) := by subst hWB; simp [go_sem, *]
      have pr1 : WB.cell? ⟨w.heap.size + 2, 1, none⟩ = some (.slice none 0 0) := by subst hWB; simp [go_sem, *]
      have pf : ∀ o, WB.frozen? ⟨w.heap.size + 2, o, none⟩ = false := by subst hWB; intro o; simp [go_sem, *]
      have HJ2 := Lib.hid (show J = isKin ((te, tl ++ ul) : Kin) by rw [HJ.out]; unfold joinV; rw [← HB.out, HJK.out, Bool.true_and]; first | rfl | rw [hJEQ.out])
      go_upto_region 8 with fail
      rw [← hWB]
      clear hWB x0 x1 xf HG5 HGA HGB
      go_wp2_with fail
      refine (isTypeS_b _ _ _ (te, tl ++ ul) (HOB.out.rd.below bwT) J HJ2.out).mono ?_
      rintro e w6 ⟨rfl, hb6⟩
      have hp6 : Below WB.heap.size WB w6 := Below.after bwT hb6 (by first | omega | (simp; omega) | simp)
      have sz6 := hp6.size
      have z0 := oldc hp6 (by omega) y0
      have z1 := oldc hp6 (by omega) y1
      have pr0 := oldc hp6 (by omega) pr0
      have pr1 := oldc hp6 (by omega) pr1
      have pf : ∀ o, w6.frozen? ⟨w.heap.size + 2, o, none⟩ = false := fun o => (hp6.frozen (p := ⟨w.heap.size + 2, o, none⟩) (by show w.heap.size + 2 < _; omega)).trans (pf o)
      have lA6 : w.heap.size + 2 < w6.heap.size := by omega
      have hB6 : Below w.heap.size w w6 := hB1.trans ((hBB.mono (by omega)).trans (hp6.mono (by omega)))
      have HOB := Lib.hid (HOB.out.below hp6)
      clear hb6 y0 y1 hp6
      cases J
      · have HX : X = (0, []) := by rw [HXX.out]; unfold joinX; rw [← HJ.out]; rfl
        clear HXX
        subst HX
        go_wp2
        exact bodyPost_ret (v := .tuple #[.agg #[.int .i64 0, .slice none 0 0], .bool false]) (by simp [results, Try.results23, go_sem, *]) rfl ⟨_, rfl, Ow.kin_mk (by unfold I64; omega) (Ow.nil _ _ _), bwT⟩
      · have HX : X = (te, tl ++ ul) := by rw [HXX.out]; unfold joinX; rw [← HJ.out, HJK.out]; first | rfl | (rw [hJEQ.out]; rfl) | rw [hJEQ, if_pos rfl]
        clear HXX
        subst HX
        go_wp2
        exact bodyPost_ret (v := .tuple #[.agg #[.int .i64 te, .slice g5 (tl.length + ul.length) cap5], .bool true]) (by simp [results, Try.results23, go_sem, *]) rfl ⟨_, rfl, (HOB.out.keep zmT).mono (by omega) (by simp; omega), bwT⟩
end Go.Proofs.Ytlfpnncjdoaelaa
