/- Contracts: FindRules and what it calls, of both programs. Written by fnr_gen.py. -/
import Derived.Test.YtlfpnncjdoaelaaTrmA
import Derived.Test.YtlfpnncjdoaelaaDTypePair
import Derived.Test.YtlfpnncjdoaelaaFnr
namespace Go.Proofs.Ytlfpnncjdoaelaa
set_option linter.unusedVariables false
set_option linter.unusedSimpArgs false
open Go.RowKit

set_option maxRecDepth 20000 in
set_option maxHeartbeats 8000000 in
theorem solvesI_b {z z1 z2 : Bool} {lo hi lo1 hi1 lo2 hi2 : Nat} (w : World) (v sv av : Value) (rs : List Rul) (same apart : List TPr) (h : Rd z lo hi w [v] rs) (h1 : Rd z1 lo1 hi1 w [sv] same) (h2 : Rd z2 lo2 hi2 w [av] apart) (hall : allRules rs) (hk1 : ∀ p ∈ same, isKin p.1 = true ∧ isKin p.2 = true) (hk2 : ∀ p ∈ apart, isKin p.1 = true ∧ isKin p.2 = true) (R : Bool) (hR : R = solvB rs same apart) :
    Calls Try.prog 91 #[v, sv, av] w (PostB w R) := by
  obtain ⟨ao, n, cap, rfl, hn, -⟩ := h.shape
  obtain ⟨sao, sn, scap, rfl, hsn, hsc, hsm, -⟩ := h1.shape
  obtain ⟨pao, pn, pcap, rfl, hpn, hpc, hpm, -⟩ := h2.shape
  subst hn hsn hpn
  unfold maxLen at hsm hpm
  have HRS := Lib.hid h
  have HSM := Lib.hid h1
  have HAP := Lib.hid h2
  have HALL := Lib.hid hall
  have HP1 := Lib.hid hk1
  have HP2 := Lib.hid hk2
  have HR := Lib.hid hR
  clear h h1 h2 hall hk1 hk2 hR
  go_enter Try.func91, Try.ntmps91
  go_wp2
  go_loopw [8, 13] (fun _ sc wr => ∃ i : Nat, i ≤ same.length ∧ sc = .int .i64 i ∧ Hid ((same.take i).all (sameB rs) = true) ∧ Below w.heap.size w wr) (fun _ sc _ => same.length - (intOf sc).toNat)
  case atStart => exact ⟨0, Nat.zero_le _, rfl, Lib.hid rfl, Below.refl _ _⟩
  case round =>
    obtain ⟨wb, hwb⟩ : ∃ wm : World, wm = wr := ⟨_, rfl⟩
    subst hwb
    obtain ⟨i, hi, rfl, HI, hbb⟩ := hrel
    have sB := hbb.size
    by_cases hli : i < same.length
    · have hIi : (i : Int) < (same.length : Int) := by omega
      obtain ⟨tb, toff, kae, kal, kbe, kbl, v1, v2, rfl, hx, c0, c1, c2, c3, -, -, hv1, hv2, hpr, -, -, tlt⟩ := HSM.out.dTPr_at hli
      obtain ⟨a1, n1, p1, rfl, -⟩ := hv1.shape
      obtain ⟨a2, n2, p2, rfl, -⟩ := hv2.shape
      have k0 := oldc hbb tlt c0
      have k1 := oldc hbb tlt c1
      have k2 := oldc hbb tlt c2
      have k3 := oldc hbb tlt c3
      have HA := Lib.hid hpr.part_ka
      have HB := Lib.hid hpr.part_kb
      have HPX := Lib.hid hx.out
      have hpk := HP1.out _ (List.mem_of_getElem? hx.out)
      have HK1 := Lib.hid hpk.1
      have HK2 := Lib.hid hpk.2
      obtain ⟨q, hlet_q⟩ : ∃ r, r = decide (nf rs (kae, kal) = nf rs (kbe, kbl)) := ⟨_, rfl⟩
      have HQ := Lib.hid hlet_q
      clear hlet_q
      obtain ⟨WA, hWA⟩ : ∃ W : World, W = wb.alloc (.cells #[.int .i64 kae, .slice a1 n1 p1, .int .i64 kbe, .slice a2 n2 p2] 55) := ⟨_, rfl⟩
      have hbA : Below wb.heap.size wb WA := by subst hWA; exact bwT
      have e0 : WA.cell? ⟨wb.heap.size, 0, none⟩ = some (.int .i64 kae) := by subst hWA; simp [go_sem]
      have e1 : WA.cell? ⟨wb.heap.size, 1, none⟩ = some (.slice a1 n1 p1) := by subst hWA; simp [go_sem]
      have e2 : WA.cell? ⟨wb.heap.size, 2, none⟩ = some (.int .i64 kbe) := by subst hWA; simp [go_sem]
      have e3 : WA.cell? ⟨wb.heap.size, 3, none⟩ = some (.slice a2 n2 p2) := by subst hWA; simp [go_sem]
      have lA : wb.heap.size < WA.heap.size := by subst hWA; simp
      have hBA : Below w.heap.size w WA := hbb.trans (hbA.mono sB)
      have sA := hBA.size
      clear hx c0 c1 c2 c3 hv1 hv2 hpr hpk
      go_upto_region 4 with fail
      rw [← hWA]
      clear hWA k0 k1 k2 k3
      refine wp_region_held_drew (S := (fun w' => w'.cell? ⟨wb.heap.size, 0, none⟩ = some (.int .i64 kae) ∧ w'.cell? ⟨wb.heap.size, 1, none⟩ = some (.slice a1 n1 p1) ∧ w'.cell? ⟨wb.heap.size, 2, none⟩ = some (.int .i64 kbe) ∧ w'.cell? ⟨wb.heap.size, 3, none⟩ = some (.slice a2 n2 p2))) (by kernel_rfl) ?_ (fun hHeld => ?_)
      · first | exact trivial | ((try dsimp only); go_keep)
      refine tkR 0 (v := ?_) ?_ ?_
      rotate_left
      · intro w hSw; (try dsimp only at hSw); go_simp <;> with_reducible rfl
      try simp only [Act.put, List.setIfInBounds_toArray, List.set_cons_zero, List.set_cons_succ]
      refine tkR 1 (v := ?_) ?_ ?_
      rotate_left
      · intro w hSw; (try dsimp only at hSw); go_simp <;> with_reducible rfl
      try simp only [Act.put, List.setIfInBounds_toArray, List.set_cons_zero, List.set_cons_succ]
      refine tkR 4 (v := ?_) ?_ ?_
      rotate_left
      · intro w hSw; (try dsimp only at hSw); go_simp <;> with_reducible rfl
      try simp only [Act.put, List.setIfInBounds_toArray, List.set_cons_zero, List.set_cons_succ]
      refine tkR 5 (v := ?_) ?_ ?_
      rotate_left
      · intro w hSw; (try dsimp only at hSw); go_simp <;> with_reducible rfl
      try simp only [Act.put, List.setIfInBounds_toArray, List.set_cons_zero, List.set_cons_succ]
      refine tkR 2 (v := ?_) ?_ ?_
      rotate_left
      · intro w hSw; (try dsimp only at hSw); go_simp <;> with_reducible rfl
      try simp only [Act.put, List.setIfInBounds_toArray, List.set_cons_zero, List.set_cons_succ]
      refine tkR 6 (v := ?_) ?_ ?_
      rotate_left
      · intro w hSw; (try dsimp only at hSw); go_simp <;> with_reducible rfl
      try simp only [Act.put, List.setIfInBounds_toArray, List.set_cons_zero, List.set_cons_succ]
      refine wpAnyH_ready (rs := [3]) (by kernel_rfl) (by simp) ?_
      refine rdR (fun K hK => ?_) ?_
      · go_simp
        refine (nfI_any _ _ _ _ rs (kae, kal) (HRS.out.below ?b0) (HA.out.below ?b1) HALL.out HK1.out).mono ?_
        case b0 => exact Below.trans hBA (Below.mono bwT sA)
        case b1 => exact Below.trans hBA (Below.mono bwT sA)
        rintro e5 w5 ⟨x1, y1, rfl, ho1, hb5⟩
        obtain ⟨rfl, -, hs1⟩ := ho1.rd.kin
        obtain ⟨ao1, m1, cp1, rfl, -⟩ := hs1.shape
        have hp5 : Below WA.heap.size WA w5 := Below.trans (show Below WA.heap.size WA _ from bwT) (hb5.mono szT)
        have s5 := hp5.size
        have hS5 := And.intro (oldc hp5 lA e0) (And.intro (oldc hp5 lA e1) (And.intro (oldc hp5 lA e2) (oldc hp5 lA e3)))
        have HO1 := Lib.hid ho1.rd
        clear hb5 hs1 ho1
        refine hK.out _ _ ?_ (fun hHeld => ?_)
        · exact kpT
        clear hK K
        try simp only [Act.put, List.setIfInBounds_toArray, List.set_cons_zero, List.set_cons_succ]
        refine wpAnyH_ready (rs := [7]) (by kernel_rfl) (by simp) ?_
        refine rdR (fun K hK => ?_) ?_
        · go_simp
          refine (nfI_any _ _ _ _ rs (kbe, kbl) (HRS.out.below ?b0) (HB.out.below ?b1) HALL.out HK2.out).mono ?_
          case b0 => exact Below.trans hBA (Below.mono bwT sA)
          case b1 => exact Below.trans hBA (Below.mono bwT sA)
          rintro e6 w6 ⟨x2, y2, rfl, ho2, hb6⟩
          obtain ⟨rfl, -, hs2⟩ := ho2.rd.kin
          obtain ⟨ao2, m2, cp2, rfl, -⟩ := hs2.shape
          have hp6 : Below WA.heap.size WA w6 := Below.trans (show Below WA.heap.size WA _ from bwT) (hb6.mono szT)
          have hp56 : Below w5.heap.size w5 w6 := Below.trans (show Below w5.heap.size w5 _ from bwT) (hb6.mono szT)
          have s6 := hp6.size
          have hS6 := And.intro (oldc hp6 lA e0) (And.intro (oldc hp6 lA e1) (And.intro (oldc hp6 lA e2) (oldc hp6 lA e3)))
          have HO2 := Lib.hid ho2.rd
          replace HO1 := Lib.hid (HO1.out.below hp56)
          clear hb6 hs2 ho2
          refine hK.out _ _ ?_ (fun hHeld => ?_)
          · exact kpT
          clear hK K
          try simp only [Act.put, List.setIfInBounds_toArray, List.set_cons_zero, List.set_cons_succ]
          refine wpAnyH_ready (rs := [8]) (by kernel_rfl) (by simp) ?_
          refine rdR (fun K hK => ?_) ?_
          · go_simp
            refine (eqTypesI_b _ _ _ _ _ (nf rs (kae, kal)) (nf rs (kbe, kbl)) (HO1.out.below ?b0) (HO2.out.below ?b1) q HQ.out).mono ?_
            case b0 => exact bwT
            case b1 => exact bwT
            rintro e7 w7 ⟨rfl, hb7⟩
            have hp7 : Below WA.heap.size WA w7 := Below.trans (show Below WA.heap.size WA _ from bwT) (hb7.mono szT)
            have hS7 := And.intro (oldc hp7 lA e0) (And.intro (oldc hp7 lA e1) (And.intro (oldc hp7 lA e2) (oldc hp7 lA e3)))
            clear hb7
            refine hK.out _ _ ?_ (fun hHeld => ?_)
            · exact kpT
            clear hK K
            try simp only [Act.put, List.setIfInBounds_toArray, List.set_cons_zero, List.set_cons_succ]
            refine tkR 9 (v := ?_) ?_ ?_
            rotate_left
            · intro w hSw; (try dsimp only at hSw); go_simp <;> with_reducible rfl
            try simp only [Act.put, List.setIfInBounds_toArray, List.set_cons_zero, List.set_cons_succ]
            refine wpAnyH_done (by kernel_rfl) ?_ _
            have hB7 : Below w.heap.size w w7 := hBA.trans (hp7.mono sA)
            cases q
            · have HF := Lib.hid (show R = false by rw [HR.out, solvB, all_bad HPX.out (sameB rs) HQ.out.symm]; rfl)
              clear HR HI HQ HPX
              go_wp2
              go_ret
              exact ⟨ret_bool HF.out.symm, hB7⟩
            · have HI2 := Lib.hid (same_step HPX.out (sameB rs) HI.out HQ.out.symm)
              clear HI HPX HQ
              go_wp2
              go_roundw
              case rel => exact ⟨i + 1, by omega, by go_num, HI2, hB7⟩
              case measure => simp [intOf]; omega
          exact AllReadyH.nil
        exact AllReadyH.nil
      exact AllReadyH.nil
    · obtain rfl : i = same.length := by omega
      have nI : ¬ (same.length : Int) < (same.length : Int) := by omega
      rw [List.take_length] at HI
      have HSA := HI
      clear HI
      go_wp2
      go_loopw [10, 30] (fun _ sc wr => ∃ i : Nat, i ≤ apart.length ∧ sc = .int .i64 i ∧ Hid ((apart.take i).all (fun p => !sameB rs p) = true) ∧ Below w.heap.size w wr) (fun _ sc _ => apart.length - (intOf sc).toNat)
      case atStart => exact ⟨0, Nat.zero_le _, rfl, Lib.hid rfl, hbb⟩
      case round =>
        obtain ⟨wd, hwd⟩ : ∃ wm : World, wm = wr := ⟨_, rfl⟩
        subst hwd
        obtain ⟨i, hi, rfl, HI, hbd⟩ := hrel
        have sB := hbd.size
        by_cases hli : i < apart.length
        · have hIi : (i : Int) < (apart.length : Int) := by omega
          obtain ⟨tb, toff, kae, kal, kbe, kbl, v1, v2, rfl, hx, c0, c1, c2, c3, -, -, hv1, hv2, hpr, -, -, tlt⟩ := HAP.out.dTPr_at hli
          obtain ⟨a1, n1, p1, rfl, -⟩ := hv1.shape
          obtain ⟨a2, n2, p2, rfl, -⟩ := hv2.shape
          have k0 := oldc hbd tlt c0
          have k1 := oldc hbd tlt c1
          have k2 := oldc hbd tlt c2
          have k3 := oldc hbd tlt c3
          have HA := Lib.hid hpr.part_ka
          have HB := Lib.hid hpr.part_kb
          have HPX := Lib.hid hx.out
          have hpk := HP2.out _ (List.mem_of_getElem? hx.out)
          have HK1 := Lib.hid hpk.1
          have HK2 := Lib.hid hpk.2
          obtain ⟨q, hlet_q⟩ : ∃ r, r = decide (nf rs (kae, kal) = nf rs (kbe, kbl)) := ⟨_, rfl⟩
          have HQ := Lib.hid hlet_q
          clear hlet_q
          obtain ⟨WA, hWA⟩ : ∃ W : World, W = wd.alloc (.cells #[.int .i64 kae, .slice a1 n1 p1, .int .i64 kbe, .slice a2 n2 p2] 55) := ⟨_, rfl⟩
          have hbA : Below wd.heap.size wd WA := by subst hWA; exact bwT
          have e0 : WA.cell? ⟨wd.heap.size, 0, none⟩ = some (.int .i64 kae) := by subst hWA; simp [go_sem]
          have e1 : WA.cell? ⟨wd.heap.size, 1, none⟩ = some (.slice a1 n1 p1) := by subst hWA; simp [go_sem]
          have e2 : WA.cell? ⟨wd.heap.size, 2, none⟩ = some (.int .i64 kbe) := by subst hWA; simp [go_sem]
          have e3 : WA.cell? ⟨wd.heap.size, 3, none⟩ = some (.slice a2 n2 p2) := by subst hWA; simp [go_sem]
          have lA : wd.heap.size < WA.heap.size := by subst hWA; simp
          have hBA : Below w.heap.size w WA := hbd.trans (hbA.mono sB)
          have sA := hBA.size
          clear hx c0 c1 c2 c3 hv1 hv2 hpr hpk
          go_upto_region 10 with fail
          rw [← hWA]
          clear hWA k0 k1 k2 k3
          refine wp_region_held_drew (S := (fun w' => w'.cell? ⟨wd.heap.size, 0, none⟩ = some (.int .i64 kae) ∧ w'.cell? ⟨wd.heap.size, 1, none⟩ = some (.slice a1 n1 p1) ∧ w'.cell? ⟨wd.heap.size, 2, none⟩ = some (.int .i64 kbe) ∧ w'.cell? ⟨wd.heap.size, 3, none⟩ = some (.slice a2 n2 p2))) (by kernel_rfl) ?_ (fun hHeld => ?_)
          · first | exact trivial | ((try dsimp only); go_keep)
          refine tkR 0 (v := ?_) ?_ ?_
          rotate_left
          · intro w hSw; (try dsimp only at hSw); go_simp <;> with_reducible rfl
          try simp only [Act.put, List.setIfInBounds_toArray, List.set_cons_zero, List.set_cons_succ]
          refine tkR 1 (v := ?_) ?_ ?_
          rotate_left
          · intro w hSw; (try dsimp only at hSw); go_simp <;> with_reducible rfl
          try simp only [Act.put, List.setIfInBounds_toArray, List.set_cons_zero, List.set_cons_succ]
          refine tkR 4 (v := ?_) ?_ ?_
          rotate_left
          · intro w hSw; (try dsimp only at hSw); go_simp <;> with_reducible rfl
          try simp only [Act.put, List.setIfInBounds_toArray, List.set_cons_zero, List.set_cons_succ]
          refine tkR 5 (v := ?_) ?_ ?_
          rotate_left
          · intro w hSw; (try dsimp only at hSw); go_simp <;> with_reducible rfl
          try simp only [Act.put, List.setIfInBounds_toArray, List.set_cons_zero, List.set_cons_succ]
          refine tkR 2 (v := ?_) ?_ ?_
          rotate_left
          · intro w hSw; (try dsimp only at hSw); go_simp <;> with_reducible rfl
          try simp only [Act.put, List.setIfInBounds_toArray, List.set_cons_zero, List.set_cons_succ]
          refine tkR 6 (v := ?_) ?_ ?_
          rotate_left
          · intro w hSw; (try dsimp only at hSw); go_simp <;> with_reducible rfl
          try simp only [Act.put, List.setIfInBounds_toArray, List.set_cons_zero, List.set_cons_succ]
          refine wpAnyH_ready (rs := [3]) (by kernel_rfl) (by simp) ?_
          refine rdR (fun K hK => ?_) ?_
          · go_simp
            refine (nfI_any _ _ _ _ rs (kae, kal) (HRS.out.below ?b0) (HA.out.below ?b1) HALL.out HK1.out).mono ?_
            case b0 => exact Below.trans hBA (Below.mono bwT sA)
            case b1 => exact Below.trans hBA (Below.mono bwT sA)
            rintro e5 w5 ⟨x1, y1, rfl, ho1, hb5⟩
            obtain ⟨rfl, -, hs1⟩ := ho1.rd.kin
            obtain ⟨ao1, m1, cp1, rfl, -⟩ := hs1.shape
            have hp5 : Below WA.heap.size WA w5 := Below.trans (show Below WA.heap.size WA _ from bwT) (hb5.mono szT)
            have s5 := hp5.size
            have hS5 := And.intro (oldc hp5 lA e0) (And.intro (oldc hp5 lA e1) (And.intro (oldc hp5 lA e2) (oldc hp5 lA e3)))
            have HO1 := Lib.hid ho1.rd
            clear hb5 hs1 ho1
            refine hK.out _ _ ?_ (fun hHeld => ?_)
            · exact kpT
            clear hK K
            try simp only [Act.put, List.setIfInBounds_toArray, List.set_cons_zero, List.set_cons_succ]
            refine wpAnyH_ready (rs := [7]) (by kernel_rfl) (by simp) ?_
            refine rdR (fun K hK => ?_) ?_
            · go_simp
              refine (nfI_any _ _ _ _ rs (kbe, kbl) (HRS.out.below ?b0) (HB.out.below ?b1) HALL.out HK2.out).mono ?_
              case b0 => exact Below.trans hBA (Below.mono bwT sA)
              case b1 => exact Below.trans hBA (Below.mono bwT sA)
              rintro e6 w6 ⟨x2, y2, rfl, ho2, hb6⟩
              obtain ⟨rfl, -, hs2⟩ := ho2.rd.kin
              obtain ⟨ao2, m2, cp2, rfl, -⟩ := hs2.shape
              have hp6 : Below WA.heap.size WA w6 := Below.trans (show Below WA.heap.size WA _ from bwT) (hb6.mono szT)
              have hp56 : Below w5.heap.size w5 w6 := Below.trans (show Below w5.heap.size w5 _ from bwT) (hb6.mono szT)
              have s6 := hp6.size
              have hS6 := And.intro (oldc hp6 lA e0) (And.intro (oldc hp6 lA e1) (And.intro (oldc hp6 lA e2) (oldc hp6 lA e3)))
              have HO2 := Lib.hid ho2.rd
              replace HO1 := Lib.hid (HO1.out.below hp56)
              clear hb6 hs2 ho2
              refine hK.out _ _ ?_ (fun hHeld => ?_)
              · exact kpT
              clear hK K
              try simp only [Act.put, List.setIfInBounds_toArray, List.set_cons_zero, List.set_cons_succ]
              refine wpAnyH_ready (rs := [8]) (by kernel_rfl) (by simp) ?_
              refine rdR (fun K hK => ?_) ?_
              · go_simp
                refine (eqTypesI_b _ _ _ _ _ (nf rs (kae, kal)) (nf rs (kbe, kbl)) (HO1.out.below ?b0) (HO2.out.below ?b1) q HQ.out).mono ?_
                case b0 => exact bwT
                case b1 => exact bwT
                rintro e7 w7 ⟨rfl, hb7⟩
                have hp7 : Below WA.heap.size WA w7 := Below.trans (show Below WA.heap.size WA _ from bwT) (hb7.mono szT)
                have hS7 := And.intro (oldc hp7 lA e0) (And.intro (oldc hp7 lA e1) (And.intro (oldc hp7 lA e2) (oldc hp7 lA e3)))
                clear hb7
                refine hK.out _ _ ?_ (fun hHeld => ?_)
                · exact kpT
                clear hK K
                try simp only [Act.put, List.setIfInBounds_toArray, List.set_cons_zero, List.set_cons_succ]
                refine wpAnyH_done (by kernel_rfl) ?_ _
                have hB7 : Below w.heap.size w w7 := hBA.trans (hp7.mono sA)
                cases q
                · have HI2 := Lib.hid (same_step HPX.out (fun p => !sameB rs p) HI.out (show (!sameB rs ((kae, kal), (kbe, kbl))) = true by rw [sameB, ← HQ.out]; rfl))
                  clear HI HPX HQ
                  go_wp2
                  go_roundw
                  case rel => exact ⟨i + 1, by omega, by go_num, HI2, hB7⟩
                  case measure => simp [intOf]; omega
                · have HF := Lib.hid (show R = false by rw [HR.out, solvB, HSA.out, all_bad HPX.out (fun p => !sameB rs p) (show (!sameB rs ((kae, kal), (kbe, kbl))) = false by rw [sameB, ← HQ.out]; rfl)]; rfl)
                  clear HR HI HQ HPX
                  go_wp2
                  go_ret
                  exact ⟨ret_bool HF.out.symm, hB7⟩
              exact AllReadyH.nil
            exact AllReadyH.nil
          exact AllReadyH.nil
        · obtain rfl : i = apart.length := by omega
          have nI : ¬ (apart.length : Int) < (apart.length : Int) := by omega
          rw [List.take_length] at HI
          have HF := Lib.hid (show R = true by rw [HR.out, solvB, HSA.out, HI.out]; rfl)
          go_wp2
          go_ret
          exact ⟨ret_bool HF.out.symm, hbd⟩

set_option maxRecDepth 20000 in
set_option maxHeartbeats 8000000 in
theorem solvesS_b {z z1 z2 : Bool} {lo hi lo1 hi1 lo2 hi2 : Nat} (w : World) (v sv av : Value) (rs : List Rul) (same apart : List TPr) (h : Rd z lo hi w [v] rs) (h1 : Rd z1 lo1 hi1 w [sv] same) (h2 : Rd z2 lo2 hi2 w [av] apart) (hall : allRules rs) (hk1 : ∀ p ∈ same, isKin p.1 = true ∧ isKin p.2 = true) (hk2 : ∀ p ∈ apart, isKin p.1 = true ∧ isKin p.2 = true) (R : Bool) (hR : R = solvB rs same apart) :
    Calls Try.prog 92 #[v, sv, av] w (PostB w R) := by
  obtain ⟨ao, n, cap, rfl, hn, -⟩ := h.shape
  obtain ⟨sao, sn, scap, rfl, hsn, hsc, hsm, -⟩ := h1.shape
  obtain ⟨pao, pn, pcap, rfl, hpn, hpc, hpm, -⟩ := h2.shape
  subst hn hsn hpn
  unfold maxLen at hsm hpm
  have HRS := Lib.hid h
  have HSM := Lib.hid h1
  have HAP := Lib.hid h2
  have HALL := Lib.hid hall
  have HP1 := Lib.hid hk1
  have HP2 := Lib.hid hk2
  have HR := Lib.hid hR
  clear h h1 h2 hall hk1 hk2 hR
  go_enter Try.func92, Try.ntmps92
  go_wp2
  go_loopw [8, 13] (fun _ sc wr => ∃ i : Nat, i ≤ same.length ∧ sc = .int .i64 i ∧ Hid ((same.take i).all (sameB rs) = true) ∧ Below w.heap.size w wr) (fun _ sc _ => same.length - (intOf sc).toNat)
  case atStart => exact ⟨0, Nat.zero_le _, rfl, Lib.hid rfl, Below.refl _ _⟩
  case round =>
    obtain ⟨wb, hwb⟩ : ∃ wm : World, wm = wr := ⟨_, rfl⟩
    subst hwb
    obtain ⟨i, hi, rfl, HI, hbb⟩ := hrel
    have sB := hbb.size
    by_cases hli : i < same.length
    · have hIi : (i : Int) < (same.length : Int) := by omega
      obtain ⟨tb, toff, kae, kal, kbe, kbl, v1, v2, rfl, hx, c0, c1, c2, c3, -, -, hv1, hv2, hpr, -, -, tlt⟩ := HSM.out.dTPr_at hli
      obtain ⟨a1, n1, p1, rfl, -⟩ := hv1.shape
      obtain ⟨a2, n2, p2, rfl, -⟩ := hv2.shape
      have k0 := oldc hbb tlt c0
      have k1 := oldc hbb tlt c1
      have k2 := oldc hbb tlt c2
      have k3 := oldc hbb tlt c3
      have HA := Lib.hid hpr.part_ka
      have HB := Lib.hid hpr.part_kb
      have HPX := Lib.hid hx.out
      have hpk := HP1.out _ (List.mem_of_getElem? hx.out)
      have HK1 := Lib.hid hpk.1
      have HK2 := Lib.hid hpk.2
      obtain ⟨q, hlet_q⟩ : ∃ r, r = decide (nf rs (kae, kal) = nf rs (kbe, kbl)) := ⟨_, rfl⟩
      have HQ := Lib.hid hlet_q
      clear hlet_q
      obtain ⟨WA, hWA⟩ : ∃ W : World, W = wb.alloc (.cells #[.int .i64 kae, .slice a1 n1 p1, .int .i64 kbe, .slice a2 n2 p2] 55) := ⟨_, rfl⟩
      have hbA : Below wb.heap.size wb WA := by subst hWA; exact bwT
      have e0 : WA.cell? ⟨wb.heap.size, 0, none⟩ = some (.int .i64 kae) := by subst hWA; simp [go_sem]
      have e1 : WA.cell? ⟨wb.heap.size, 1, none⟩ = some (.slice a1 n1 p1) := by subst hWA; simp [go_sem]
      have e2 : WA.cell? ⟨wb.heap.size, 2, none⟩ = some (.int .i64 kbe) := by subst hWA; simp [go_sem]
      have e3 : WA.cell? ⟨wb.heap.size, 3, none⟩ = some (.slice a2 n2 p2) := by subst hWA; simp [go_sem]
      have lA : wb.heap.size < WA.heap.size := by subst hWA; simp
      have hBA : Below w.heap.size w WA := hbb.trans (hbA.mono sB)
      have sA := hBA.size
      clear hx c0 c1 c2 c3 hv1 hv2 hpr hpk
      go_upto_region 4 with fail
      rw [← hWA]
      clear hWA k0 k1 k2 k3
      refine wp_region_held_drew (S := (fun w' => w'.cell? ⟨wb.heap.size, 0, none⟩ = some (.int .i64 kae) ∧ w'.cell? ⟨wb.heap.size, 1, none⟩ = some (.slice a1 n1 p1) ∧ w'.cell? ⟨wb.heap.size, 2, none⟩ = some (.int .i64 kbe) ∧ w'.cell? ⟨wb.heap.size, 3, none⟩ = some (.slice a2 n2 p2))) (by kernel_rfl) ?_ (fun hHeld => ?_)
      · first | exact trivial | ((try dsimp only); go_keep)
      refine tkR 0 (v := ?_) ?_ ?_
      rotate_left
      · intro w hSw; (try dsimp only at hSw); go_simp <;> with_reducible rfl
      try simp only [Act.put, List.setIfInBounds_toArray, List.set_cons_zero, List.set_cons_succ]
      refine tkR 1 (v := ?_) ?_ ?_
      rotate_left
      · intro w hSw; (try dsimp only at hSw); go_simp <;> with_reducible rfl
      try simp only [Act.put, List.setIfInBounds_toArray, List.set_cons_zero, List.set_cons_succ]
      refine tkR 4 (v := ?_) ?_ ?_
      rotate_left
      · intro w hSw; (try dsimp only at hSw); go_simp <;> with_reducible rfl
      try simp only [Act.put, List.setIfInBounds_toArray, List.set_cons_zero, List.set_cons_succ]
      refine tkR 5 (v := ?_) ?_ ?_
      rotate_left
      · intro w hSw; (try dsimp only at hSw); go_simp <;> with_reducible rfl
      try simp only [Act.put, List.setIfInBounds_toArray, List.set_cons_zero, List.set_cons_succ]
      refine tkR 2 (v := ?_) ?_ ?_
      rotate_left
      · intro w hSw; (try dsimp only at hSw); go_simp <;> with_reducible rfl
      try simp only [Act.put, List.setIfInBounds_toArray, List.set_cons_zero, List.set_cons_succ]
      refine tkR 6 (v := ?_) ?_ ?_
      rotate_left
      · intro w hSw; (try dsimp only at hSw); go_simp <;> with_reducible rfl
      try simp only [Act.put, List.setIfInBounds_toArray, List.set_cons_zero, List.set_cons_succ]
      refine wpAnyH_ready (rs := [3]) (by kernel_rfl) (by simp) ?_
      refine rdR (fun K hK => ?_) ?_
      · go_simp
        refine (nfS_any _ _ _ _ rs (kae, kal) (HRS.out.below ?b0) (HA.out.below ?b1) HALL.out HK1.out).mono ?_
        case b0 => exact Below.trans hBA (Below.mono bwT sA)
        case b1 => exact Below.trans hBA (Below.mono bwT sA)
        rintro e5 w5 ⟨x1, y1, rfl, ho1, hb5⟩
        obtain ⟨rfl, -, hs1⟩ := ho1.rd.kin
        obtain ⟨ao1, m1, cp1, rfl, -⟩ := hs1.shape
        have hp5 : Below WA.heap.size WA w5 := Below.trans (show Below WA.heap.size WA _ from bwT) (hb5.mono szT)
        have s5 := hp5.size
        have hS5 := And.intro (oldc hp5 lA e0) (And.intro (oldc hp5 lA e1) (And.intro (oldc hp5 lA e2) (oldc hp5 lA e3)))
        have HO1 := Lib.hid ho1.rd
        clear hb5 hs1 ho1
        refine hK.out _ _ ?_ (fun hHeld => ?_)
        · exact kpT
        clear hK K
        try simp only [Act.put, List.setIfInBounds_toArray, List.set_cons_zero, List.set_cons_succ]
        refine wpAnyH_ready (rs := [7]) (by kernel_rfl) (by simp) ?_
        refine rdR (fun K hK => ?_) ?_
        · go_simp
          refine (nfS_any _ _ _ _ rs (kbe, kbl) (HRS.out.below ?b0) (HB.out.below ?b1) HALL.out HK2.out).mono ?_
          case b0 => exact Below.trans hBA (Below.mono bwT sA)
          case b1 => exact Below.trans hBA (Below.mono bwT sA)
          rintro e6 w6 ⟨x2, y2, rfl, ho2, hb6⟩
          obtain ⟨rfl, -, hs2⟩ := ho2.rd.kin
          obtain ⟨ao2, m2, cp2, rfl, -⟩ := hs2.shape
          have hp6 : Below WA.heap.size WA w6 := Below.trans (show Below WA.heap.size WA _ from bwT) (hb6.mono szT)
          have hp56 : Below w5.heap.size w5 w6 := Below.trans (show Below w5.heap.size w5 _ from bwT) (hb6.mono szT)
          have s6 := hp6.size
          have hS6 := And.intro (oldc hp6 lA e0) (And.intro (oldc hp6 lA e1) (And.intro (oldc hp6 lA e2) (oldc hp6 lA e3)))
          have HO2 := Lib.hid ho2.rd
          replace HO1 := Lib.hid (HO1.out.below hp56)
          clear hb6 hs2 ho2
          refine hK.out _ _ ?_ (fun hHeld => ?_)
          · exact kpT
          clear hK K
          try simp only [Act.put, List.setIfInBounds_toArray, List.set_cons_zero, List.set_cons_succ]
          refine wpAnyH_ready (rs := [8]) (by kernel_rfl) (by simp) ?_
          refine rdR (fun K hK => ?_) ?_
          · go_simp
            refine (eqTypesS_b _ _ _ _ _ (nf rs (kae, kal)) (nf rs (kbe, kbl)) (HO1.out.below ?b0) (HO2.out.below ?b1) q HQ.out).mono ?_
            case b0 => exact bwT
            case b1 => exact bwT
            rintro e7 w7 ⟨rfl, hb7⟩
            have hp7 : Below WA.heap.size WA w7 := Below.trans (show Below WA.heap.size WA _ from bwT) (hb7.mono szT)
            have hS7 := And.intro (oldc hp7 lA e0) (And.intro (oldc hp7 lA e1) (And.intro (oldc hp7 lA e2) (oldc hp7 lA e3)))
            clear hb7
            refine hK.out _ _ ?_ (fun hHeld => ?_)
            · exact kpT
            clear hK K
            try simp only [Act.put, List.setIfInBounds_toArray, List.set_cons_zero, List.set_cons_succ]
            refine tkR 9 (v := ?_) ?_ ?_
            rotate_left
            · intro w hSw; (try dsimp only at hSw); go_simp <;> with_reducible rfl
            try simp only [Act.put, List.setIfInBounds_toArray, List.set_cons_zero, List.set_cons_succ]
            refine wpAnyH_done (by kernel_rfl) ?_ _
            have hB7 : Below w.heap.size w w7 := hBA.trans (hp7.mono sA)
            cases q
            · have HF := Lib.hid (show R = false by rw [HR.out, solvB, all_bad HPX.out (sameB rs) HQ.out.symm]; rfl)
              clear HR HI HQ HPX
              go_wp2
              go_ret
              exact ⟨ret_bool HF.out.symm, hB7⟩
            · have HI2 := Lib.hid (same_step HPX.out (sameB rs) HI.out HQ.out.symm)
              clear HI HPX HQ
              go_wp2
              go_roundw
              case rel => exact ⟨i + 1, by omega, by go_num, HI2, hB7⟩
              case measure => simp [intOf]; omega
          exact AllReadyH.nil
        exact AllReadyH.nil
      exact AllReadyH.nil
    · obtain rfl : i = same.length := by omega
      have nI : ¬ (same.length : Int) < (same.length : Int) := by omega
      rw [List.take_length] at HI
      have HSA := HI
      clear HI
      go_wp2
      go_loopw [10, 30] (fun _ sc wr => ∃ i : Nat, i ≤ apart.length ∧ sc = .int .i64 i ∧ Hid ((apart.take i).all (fun p => !sameB rs p) = true) ∧ Below w.heap.size w wr) (fun _ sc _ => apart.length - (intOf sc).toNat)
      case atStart => exact ⟨0, Nat.zero_le _, rfl, Lib.hid rfl, hbb⟩
      case round =>
        obtain ⟨wd, hwd⟩ : ∃ wm : World, wm = wr := ⟨_, rfl⟩
        subst hwd
        obtain ⟨i, hi, rfl, HI, hbd⟩ := hrel
        have sB := hbd.size
        by_cases hli : i < apart.length
        · have hIi : (i : Int) < (apart.length : Int) := by omega
          obtain ⟨tb, toff, kae, kal, kbe, kbl, v1, v2, rfl, hx, c0, c1, c2, c3, -, -, hv1, hv2, hpr, -, -, tlt⟩ := HAP.out.dTPr_at hli
          obtain ⟨a1, n1, p1, rfl, -⟩ := hv1.shape
          obtain ⟨a2, n2, p2, rfl, -⟩ := hv2.shape
          have k0 := oldc hbd tlt c0
          have k1 := oldc hbd tlt c1
          have k2 := oldc hbd tlt c2
          have k3 := oldc hbd tlt c3
          have HA := Lib.hid hpr.part_ka
          have HB := Lib.hid hpr.part_kb
          have HPX := Lib.hid hx.out
          have hpk := HP2.out _ (List.mem_of_getElem? hx.out)
          have HK1 := Lib.hid hpk.1
          have HK2 := Lib.hid hpk.2
          obtain ⟨q, hlet_q⟩ : ∃ r, r = decide (nf rs (kae, kal) = nf rs (kbe, kbl)) := ⟨_, rfl⟩
          have HQ := Lib.hid hlet_q
          clear hlet_q
          obtain ⟨WA, hWA⟩ : ∃ W : World, W = wd.alloc (.cells #[.int .i64 kae, .slice a1 n1 p1, .int .i64 kbe, .slice a2 n2 p2] 55) := ⟨_, rfl⟩
          have hbA : Below wd.heap.size wd WA := by subst hWA; exact bwT
          have e0 : WA.cell? ⟨wd.heap.size, 0, none⟩ = some (.int .i64 kae) := by subst hWA; simp [go_sem]
          have e1 : WA.cell? ⟨wd.heap.size, 1, none⟩ = some (.slice a1 n1 p1) := by subst hWA; simp [go_sem]
          have e2 : WA.cell? ⟨wd.heap.size, 2, none⟩ = some (.int .i64 kbe) := by subst hWA; simp [go_sem]
          have e3 : WA.cell? ⟨wd.heap.size, 3, none⟩ = some (.slice a2 n2 p2) := by subst hWA; simp [go_sem]
          have lA : wd.heap.size < WA.heap.size := by subst hWA; simp
          have hBA : Below w.heap.size w WA := hbd.trans (hbA.mono sB)
          have sA := hBA.size
          clear hx c0 c1 c2 c3 hv1 hv2 hpr hpk
          go_upto_region 10 with fail
          rw [← hWA]
          clear hWA k0 k1 k2 k3
          refine wp_region_held_drew (S := (fun w' => w'.cell? ⟨wd.heap.size, 0, none⟩ = some (.int .i64 kae) ∧ w'.cell? ⟨wd.heap.size, 1, none⟩ = some (.slice a1 n1 p1) ∧ w'.cell? ⟨wd.heap.size, 2, none⟩ = some (.int .i64 kbe) ∧ w'.cell? ⟨wd.heap.size, 3, none⟩ = some (.slice a2 n2 p2))) (by kernel_rfl) ?_ (fun hHeld => ?_)
          · first | exact trivial | ((try dsimp only); go_keep)
          refine tkR 0 (v := ?_) ?_ ?_
          rotate_left
          · intro w hSw; (try dsimp only at hSw); go_simp <;> with_reducible rfl
          try simp only [Act.put, List.setIfInBounds_toArray, List.set_cons_zero, List.set_cons_succ]
          refine tkR 1 (v := ?_) ?_ ?_
          rotate_left
          · intro w hSw; (try dsimp only at hSw); go_simp <;> with_reducible rfl
          try simp only [Act.put, List.setIfInBounds_toArray, List.set_cons_zero, List.set_cons_succ]
          refine tkR 4 (v := ?_) ?_ ?_
          rotate_left
          · intro w hSw; (try dsimp only at hSw); go_simp <;> with_reducible rfl
          try simp only [Act.put, List.setIfInBounds_toArray, List.set_cons_zero, List.set_cons_succ]
          refine tkR 5 (v := ?_) ?_ ?_
          rotate_left
          · intro w hSw; (try dsimp only at hSw); go_simp <;> with_reducible rfl
          try simp only [Act.put, List.setIfInBounds_toArray, List.set_cons_zero, List.set_cons_succ]
          refine tkR 2 (v := ?_) ?_ ?_
          rotate_left
          · intro w hSw; (try dsimp only at hSw); go_simp <;> with_reducible rfl
          try simp only [Act.put, List.setIfInBounds_toArray, List.set_cons_zero, List.set_cons_succ]
          refine tkR 6 (v := ?_) ?_ ?_
          rotate_left
          · intro w hSw; (try dsimp only at hSw); go_simp <;> with_reducible rfl
          try simp only [Act.put, List.setIfInBounds_toArray, List.set_cons_zero, List.set_cons_succ]
          refine wpAnyH_ready (rs := [3]) (by kernel_rfl) (by simp) ?_
          refine rdR (fun K hK => ?_) ?_
          · go_simp
            refine (nfS_any _ _ _ _ rs (kae, kal) (HRS.out.below ?b0) (HA.out.below ?b1) HALL.out HK1.out).mono ?_
            case b0 => exact Below.trans hBA (Below.mono bwT sA)
            case b1 => exact Below.trans hBA (Below.mono bwT sA)
            rintro e5 w5 ⟨x1, y1, rfl, ho1, hb5⟩
            obtain ⟨rfl, -, hs1⟩ := ho1.rd.kin
            obtain ⟨ao1, m1, cp1, rfl, -⟩ := hs1.shape
            have hp5 : Below WA.heap.size WA w5 := Below.trans (show Below WA.heap.size WA _ from bwT) (hb5.mono szT)
            have s5 := hp5.size
            have hS5 := And.intro (oldc hp5 lA e0) (And.intro (oldc hp5 lA e1) (And.intro (oldc hp5 lA e2) (oldc hp5 lA e3)))
            have HO1 := Lib.hid ho1.rd
            clear hb5 hs1 ho1
            refine hK.out _ _ ?_ (fun hHeld => ?_)
            · exact kpT
            clear hK K
            try simp only [Act.put, List.setIfInBounds_toArray, List.set_cons_zero, List.set_cons_succ]
            refine wpAnyH_ready (rs := [7]) (by kernel_rfl) (by simp) ?_
            refine rdR (fun K hK => ?_) ?_
            · go_simp
              refine (nfS_any _ _ _ _ rs (kbe, kbl) (HRS.out.below ?b0) (HB.out.below ?b1) HALL.out HK2.out).mono ?_
              case b0 => exact Below.trans hBA (Below.mono bwT sA)
              case b1 => exact Below.trans hBA (Below.mono bwT sA)
              rintro e6 w6 ⟨x2, y2, rfl, ho2, hb6⟩
              obtain ⟨rfl, -, hs2⟩ := ho2.rd.kin
              obtain ⟨ao2, m2, cp2, rfl, -⟩ := hs2.shape
              have hp6 : Below WA.heap.size WA w6 := Below.trans (show Below WA.heap.size WA _ from bwT) (hb6.mono szT)
              have hp56 : Below w5.heap.size w5 w6 := Below.trans (show Below w5.heap.size w5 _ from bwT) (hb6.mono szT)
              have s6 := hp6.size
              have hS6 := And.intro (oldc hp6 lA e0) (And.intro (oldc hp6 lA e1) (And.intro (oldc hp6 lA e2) (oldc hp6 lA e3)))
              have HO2 := Lib.hid ho2.rd
              replace HO1 := Lib.hid (HO1.out.below hp56)
              clear hb6 hs2 ho2
              refine hK.out _ _ ?_ (fun hHeld => ?_)
              · exact kpT
              clear hK K
              try simp only [Act.put, List.setIfInBounds_toArray, List.set_cons_zero, List.set_cons_succ]
              refine wpAnyH_ready (rs := [8]) (by kernel_rfl) (by simp) ?_
              refine rdR (fun K hK => ?_) ?_
              · go_simp
                refine (eqTypesS_b _ _ _ _ _ (nf rs (kae, kal)) (nf rs (kbe, kbl)) (HO1.out.below ?b0) (HO2.out.below ?b1) q HQ.out).mono ?_
                case b0 => exact bwT
                case b1 => exact bwT
                rintro e7 w7 ⟨rfl, hb7⟩
                have hp7 : Below WA.heap.size WA w7 := Below.trans (show Below WA.heap.size WA _ from bwT) (hb7.mono szT)
                have hS7 := And.intro (oldc hp7 lA e0) (And.intro (oldc hp7 lA e1) (And.intro (oldc hp7 lA e2) (oldc hp7 lA e3)))
                clear hb7
                refine hK.out _ _ ?_ (fun hHeld => ?_)
                · exact kpT
                clear hK K
                try simp only [Act.put, List.setIfInBounds_toArray, List.set_cons_zero, List.set_cons_succ]
                refine wpAnyH_done (by kernel_rfl) ?_ _
                have hB7 : Below w.heap.size w w7 := hBA.trans (hp7.mono sA)
                cases q
                · have HI2 := Lib.hid (same_step HPX.out (fun p => !sameB rs p) HI.out (show (!sameB rs ((kae, kal), (kbe, kbl))) = true by rw [sameB, ← HQ.out]; rfl))
                  clear HI HPX HQ
                  go_wp2
                  go_roundw
                  case rel => exact ⟨i + 1, by omega, by go_num, HI2, hB7⟩
                  case measure => simp [intOf]; omega
                · have HF := Lib.hid (show R = false by rw [HR.out, solvB, HSA.out, all_bad HPX.out (fun p => !sameB rs p) (show (!sameB rs ((kae, kal), (kbe, kbl))) = false by rw [sameB, ← HQ.out]; rfl)]; rfl)
                  clear HR HI HQ HPX
                  go_wp2
                  go_ret
                  exact ⟨ret_bool HF.out.symm, hB7⟩
              exact AllReadyH.nil
            exact AllReadyH.nil
          exact AllReadyH.nil
        · obtain rfl : i = apart.length := by omega
          have nI : ¬ (apart.length : Int) < (apart.length : Int) := by omega
          rw [List.take_length] at HI
          have HF := Lib.hid (show R = true by rw [HR.out, solvB, HSA.out, HI.out]; rfl)
          go_wp2
          go_ret
          exact ⟨ret_bool HF.out.symm, hbd⟩

/-- What a search answers: a list of the call's own (from LO on), if one was found. -/
def PostFR (LO : Nat) (w : World) (r : Option (List Int)) (e : Ending) (w' : World) : Prop :=
  ∃ v, e = .returned (.tuple #[v, .bool r.isSome]) ∧ (∀ l, r = some l → Ow LO w'.heap.size w' [v] l) ∧ Below w.heap.size w w'
set_option maxRecDepth 20000 in
set_option maxHeartbeats 16000000 in
theorem chooseI_any (cat : List Rul) (same apart : List TPr) (hc8 : cat.length ≤ 8) (hall : allRules cat) (hk1 : ∀ p ∈ same, isKin p.1 = true ∧ isKin p.2 = true) (hk2 : ∀ p ∈ apart, isKin p.1 = true ∧ isKin p.2 = true) (n : Nat) : ∀ (z z1 z2 : Bool) (lo hi lo1 hi1 lo2 hi2 : Nat) (w : World) (v sv av fv : Value) (N F : Int) (f : Nat) (front : List Int) (LO : Nat)
    (h : Rd z lo hi w [v] cat) (h1 : Rd z1 lo1 hi1 w [sv] same) (h2 : Rd z2 lo2 hi2 w [av] apart) (h3 : Ow LO w.heap.size w [fv] front) (hLO : LO ≤ w.heap.size) (hN : N = (n : Int)) (hF : F = (f : Int)) (hn8 : front.length + n ≤ 20) (hf8 : f ≤ 9) (hin : InC cat.length front) (r : Option (List Int)) (hr : r = chooseN cat same apart n f front),
    Calls Try.prog 62 #[v, sv, av, .int .i64 N, .int .i64 F, fv] w (PostFR LO w r) := by
  induction n with
  | zero =>
    intro z z1 z2 lo hi lo1 hi1 lo2 hi2 w v sv av fv N F f front LO h h1 h2 h3 hLO hN hF hn8 hf8 hin r hr
    obtain ⟨ao, cn, cap, rfl, hcn, -⟩ := h.shape
    obtain ⟨fao, fnn, fcap, rfl, hfn, -⟩ := h3.rd.shape
    subst hcn hfn
    obtain rfl : N = 0 := by rw [hN]; rfl
    subst hF
    have HC := Lib.hid h
    have HSM := Lib.hid h1
    have HAP := Lib.hid h2
    have HFR := Lib.hid h3
    have HIN := Lib.hid hin
    have HALL := Lib.hid hall
    have HP1 := Lib.hid hk1
    have HP2 := Lib.hid hk2
    obtain ⟨b, hlet_b⟩ : ∃ r, r = solvB (pickR cat front) same apart := ⟨_, rfl⟩
    have HB := Lib.hid hlet_b
    clear hlet_b
    have HR := Lib.hid (show r = if b = true then some front else none by rw [hr, HB.out]; rfl)
    have hfl : front.length ≤ 20 := by omega
    clear h h1 h2 h3 hin hN hr hall hk1 hk2
    go_enter Try.func62, Try.ntmps62
    go_wp2
    go_loopw [14, 16, 24] (fun s14 _ sc wr => ∃ i : Nat, i ≤ front.length ∧ sc = .int .i64 i ∧ Hid (GL false w.heap.size 0 wr.heap.size wr 37 s14 (pickR cat (front.take i))) ∧ Below w.heap.size w wr) (fun _ _ sc _ => front.length - (intOf sc).toNat)
    case atStart => exact ⟨0, Nat.zero_le _, rfl, Lib.hid (GL.start _ _ _ _ _ _), bwT⟩
    case round =>
      obtain ⟨wb, hwb⟩ : ∃ wm : World, wm = wr := ⟨_, rfl⟩
      subst hwb
      obtain ⟨i, hi, rfl, hG, hbb⟩ := hrel
      have sB := hbb.size
      by_cases hli : i < front.length
      · have hIi : (i : Int) < (front.length : Int) := by omega
        obtain ⟨fb, foff, kk, rfl, hkx, fc, -, -, -, -, fl, -⟩ := HFR.out.rd.int_at hli
        have hkr := HIN.out kk (List.mem_of_getElem? hkx.out)
        obtain ⟨k, rfl⟩ := Int.eq_ofNat_of_zero_le hkr.1
        have hkl : k < cat.length := by omega
        have hkI : (k : Int) < (cat.length : Int) := by omega
        obtain ⟨rb, roff, nm, sx, pl, fr, tw, vfr, vtw, rfl, hx, c0, c1, c2, c3, c4, gnm, gsx, gpl, hfr, htw, hri, -, -, rbl⟩ := HC.out.dRul_at hkl
        obtain ⟨x1, x2, x3, rfl, -⟩ := hfr.shape
        obtain ⟨t1, t2, t3, rfl, -⟩ := htw.shape
        have g0 := oldc hbb fl fc
        have k0 := oldc hbb rbl c0
        have k1 := oldc hbb rbl c1
        have k2 := oldc hbb rbl c2
        have k3 := oldc hbb rbl c3
        have k4 := oldc hbb rbl c4
        have HNX := Lib.hid (show pickR cat (front.take i) ++ [(nm, sx, pl, fr, tw)] = pickR cat (front.take (i + 1)) by rw [take_snoc hkx.out, pickR_snoc (r := (nm, sx, pl, fr, tw)) (by simpa using hx.out)])
        have hpl : (pickR cat (front.take i)).length ≤ 20 := by
          have := pickR_len cat (front.take i)
          rw [List.length_take] at this; omega
        have HIT := Lib.hid ((hri.top).mono (Nat.zero_le _) (Nat.le_refl _)).it
        have hG2 := Lib.hid (hG.out.alloc (.cells #[.string nm, .int .i64 sx, .int .i64 pl, .slice x1 x2 x3, .slice t1 t2 t3] 37))
        have HIT2 := Lib.hid (HIT.out.keep (w' := wb.alloc (.cells #[.string nm, .int .i64 sx, .int .i64 pl, .slice x1 x2 x3, .slice t1 t2 t3] 37)) (fun b h1 h2 => (hbb.alloc sB _).block b h2))
        clear hx hkx c0 c1 c2 c3 c4 gnm gsx gpl hfr htw hri fc hG HIT
        go_wp2_with (at_builtin; refine wpList_push rfl rfl slRule (by show (0 : Nat) < 5; omega) hG2.out rfl (ad := ⟨wb.heap.size, 0, none⟩) rfl (cs := [.string nm, .int .i64 sx, .int .i64 pl, .slice x1 x2 x3, .slice t1 t2 t3]) (y := (nm, sx, pl, fr, tw)) ?c1 HIT2.out (Nat.le_refl _) (.inr ⟨Nat.le_refl _, fun h => by cases h⟩) (by unfold maxLen; omega) (by omega) (by simp; omega) ?_)
        case c1 =>
          intro j c hj
          match j, hj with
          | 0, hj => simp at hj; subst hj; simp [Addr.add, go_sem]
          | 1, hj => simp at hj; subst hj; simp [Addr.add, go_sem]
          | 2, hj => simp at hj; subst hj; simp [Addr.add, go_sem]
          | 3, hj => simp at hj; subst hj; simp [Addr.add, go_sem]
          | 4, hj => simp at hj; subst hj; simp [Addr.add, go_sem]
        intro v1 w3 hL3 _ hb3
        have HN := Lib.hid hL3
        rw [HNX.out] at HN
        have hbb3 : Below w.heap.size w w3 := Below.trans bwT hb3
        clear hL3 hb3 hG2 HIT2 HNX
        go_wp2
        go_roundw
        case rel => exact ⟨i + 1, by omega, by go_num, HN, hbb3⟩
        case measure => simp [intOf]; omega
      · obtain rfl : i = front.length := by omega
        have nI : ¬ (front.length : Int) < (front.length : Int) := by omega
        have hG2 := hG.out
        rw [List.take_length] at hG2
        have HRR := Lib.hid (hG2.rd (l0 := 0) (Nat.zero_le _) (Nat.zero_le _))
        clear hG hG2
        go_wp2_with fail
        refine (solvesI_b _ _ _ _ (pickR cat front) same apart HRR.out (HSM.out.below hbb) (HAP.out.below hbb) (pickR_all HALL.out _) HP1.out HP2.out b HB.out).mono ?_
        rintro e4 w4 ⟨rfl, hb4⟩
        have hbb4 : Below w.heap.size w w4 := hbb.trans (hb4.mono sB)
        have HO := Lib.hid (show ∀ l, r = some l → Ow LO w4.heap.size w4 [.slice fao front.length fcap] l from fun l hl => by
          rw [HR.out] at hl
          split at hl
          · cases hl; exact (HFR.out.below hbb4).mono (Nat.le_refl _) hbb4.size
          · cases hl)
        have hb : b = r.isSome := by rw [HR.out]; cases b <;> rfl
        clear hb4 HRR HB HR
        subst hb
        go_wp2
        go_ret2
        exact ⟨_, rfl, HO.out, hbb4⟩
  | succ n ih =>
    intro z z1 z2 lo hi lo1 hi1 lo2 hi2 w v sv av fv N F f front LO h h1 h2 h3 hLO hN hF hn8 hf8 hin r hr
    obtain ⟨ao, cn, cap, rfl, hcn, -⟩ := h.shape
    obtain ⟨fao, fnn, fcap, rfl, hfn, -⟩ := h3.rd.shape
    subst hcn hfn
    have n0 : (N == 0) = false := by simp; omega
    have hwN : wrap64 (N - 1) = N - 1 := IntWalk.wrap64_in _ (by omega)
    have HNN := Lib.hid (show N - 1 = (n : Int) by omega)
    clear hN
    have HC := Lib.hid h
    have HSM := Lib.hid h1
    have HAP := Lib.hid h2
    have HFR := Lib.hid h3
    have HIN := Lib.hid hin
    have HR := Lib.hid (show firstK (fun k => chooseN cat same apart n (k + 1) (front ++ [(k : Int)])) f (cat.length - f) = r from hr.symm)
    have hfl : front.length ≤ 19 := by omega
    have IH := Lib.hid ih
    subst hF
    clear ih h h1 h2 h3 hin hr hall hk1 hk2
    go_enter Try.func62, Try.ntmps62
    go_wp2
    go_loopw [17, 18, 19] (fun s17 _ _ wr => ∃ k : Nat, f ≤ k ∧ k ≤ 9 ∧ s17 = .int .i64 k ∧ Hid (firstK (fun k => chooseN cat same apart n (k + 1) (front ++ [(k : Int)])) k (cat.length - k) = r) ∧ Below w.heap.size w wr) (fun s17 _ _ _ => 10 - (intOf s17).toNat)
    case atStart => exact ⟨f, Nat.le_refl _, hf8, rfl, HR, Below.refl _ _⟩
    case round =>
      obtain ⟨wb, hwb⟩ : ∃ wm : World, wm = wr := ⟨_, rfl⟩
      subst hwb
      obtain ⟨k, hfk, hk9, rfl, HK, hbb⟩ := hrel
      have sB := hbb.size
      by_cases hkl : k < cat.length
      · have hkI : (k : Int) < (cat.length : Int) := by omega
        obtain ⟨m, hm⟩ : ∃ m, cat.length - k = m + 1 := ⟨cat.length - k - 1, by omega⟩
        have hm2 : cat.length - (k + 1) = m := by omega
        obtain ⟨o1, hlet_o1⟩ : ∃ r, r = chooseN cat same apart n (k + 1) (front ++ [(k : Int)]) := ⟨_, rfl⟩
        have HO1 := Lib.hid hlet_o1
        clear hlet_o1
        have HIN2 := Lib.hid (HIN.out.snoc hkl)
        have hrdF := Lib.hid (HFR.out.rd.below hbb)
        have HMM := Lib.hid hm
        have HMM2 := Lib.hid hm2
        clear hm hm2
        go_wp2_with (at_builtin; refine wpList_spread_flat rfl rfl slInt (by show (0 : Nat) < 1; omega) (GL.start true wb.heap.size wb.heap.size wb.heap.size _ _) rfl rfl hrdF.out (by simp; unfold maxLen; omega) (by simp; omega) (Nat.le_refl _) ?_)
        rintro v3 w3 hG3 - hb3
        have hG3' := Lib.hid (show GL true wb.heap.size wb.heap.size w3.heap.size w3 3 v3 front from hG3)
        have hb3' : Below wb.heap.size wb w3 := Below.trans (show Below wb.heap.size wb _ from bwT) hb3
        have s3 := hb3'.size
        have hG3a := Lib.hid (hG3'.out.alloc (.cells #[.int .i64 k] 3))
        clear hG3 hb3 hG3'
        go_wp2_with (at_builtin; refine wpList_push rfl rfl slInt (by show (0 : Nat) < 1; omega) hG3a.out rfl (ad := ⟨w3.heap.size, 0, none⟩) rfl (cs := [.int .i64 k]) (y := (k : Int)) (lx := w3.heap.size) (hx' := w3.heap.size) ?c1 (It.flat (z := true) (w0 := w3) (fp := []) ⟨rfl, ⟨by omega, by omega⟩, rfl⟩) (by omega) (.inl (Nat.le_refl _)) (by unfold maxLen; omega) (by omega) (by simp; omega) ?_)
        case c1 => intro j c hj; match j, hj with | 0, hj => simp at hj; subst hj; simp [Addr.add, go_sem]
        rintro v4 w4 hG4 - hb4
        have hb34 : Below wb.heap.size wb w4 := Below.trans (show Below wb.heap.size wb _ from bwT) hb4
        have hB4 : Below w.heap.size w w4 := hbb.trans (hb34.mono sB)
        obtain ⟨ao4, cap4, hv4, -, -⟩ := hG4.len
        rw [show (front ++ [(k : Int)]).length = front.length + 1 by simp] at hv4
        subst hv4
        have HOW := Lib.hid (hG4.ow (l0 := wb.heap.size) (Nat.le_refl _) (Nat.le_refl _))
        have s4 := hb34.size
        clear hG4 hb4 hG3a
        go_wp2_with fail
        refine (IH.out _ _ _ _ _ _ _ _ _ _ _ _ _ _ _ _ (k + 1) (front ++ [(k : Int)]) wb.heap.size (HC.out.below hB4) (HSM.out.below hB4) (HAP.out.below hB4) HOW.out s4 HNN.out (by simp) (by simp; omega) (by omega) HIN2.out o1 HO1.out).mono ?_
        rintro e5 w5 ⟨v5, rfl, ho5, hb5⟩
        have hB5 : Below w.heap.size w w5 := hB4.trans (hb5.mono hB4.size)
        have HO5 := Lib.hid ho5
        clear hb5 ho5 HOW
        rcases o1 with _ | l1
        · have HK2 := Lib.hid (show firstK (fun k => chooseN cat same apart n (k + 1) (front ++ [(k : Int)])) (k + 1) (cat.length - (k + 1)) = r by
            have := HK.out
            rw [HMM.out, firstK_none (f := fun k => chooseN cat same apart n (k + 1) (front ++ [(k : Int)])) HO1.out.symm] at this
            rw [HMM2.out]; exact this)
          clear HK HO1 HO5
          go_wp2
          go_roundw
          case rel => exact ⟨k + 1, by omega, by omega, by go_num, HK2, hB5⟩
          case measure => simp [intOf]; omega
        · have HRL := Lib.hid (show some l1 = r by
            have := HK.out
            rw [HMM.out, firstK_some (f := fun k => chooseN cat same apart n (k + 1) (front ++ [(k : Int)])) HO1.out.symm] at this
            exact this)
          have HOL := Lib.hid (HO5.out l1 rfl)
          obtain rfl : r = some l1 := HRL.out.symm
          clear HK HO1 HO5 HR
          go_wp2
          go_ret2
          exact ⟨_, rfl, fun l hl => by cases hl; exact HOL.out.mono (by omega) (Nat.le_refl _), hB5⟩
      · have nI : ¬ (k : Int) < (cat.length : Int) := by omega
        have HRN := Lib.hid (show r = none by
          have := HK.out
          rw [show cat.length - k = 0 by omega] at this
          exact this.symm)
        obtain rfl : r = none := HRN.out
        clear HK HR
        go_wp2
        go_ret2
        exact ⟨_, rfl, (fun l hl => by cases hl), hbb⟩
set_option maxRecDepth 20000 in
set_option maxHeartbeats 16000000 in
theorem chooseS_any (cat : List Rul) (same apart : List TPr) (hc8 : cat.length ≤ 8) (hall : allRules cat) (hk1 : ∀ p ∈ same, isKin p.1 = true ∧ isKin p.2 = true) (hk2 : ∀ p ∈ apart, isKin p.1 = true ∧ isKin p.2 = true) (n : Nat) : ∀ (z z1 z2 : Bool) (lo hi lo1 hi1 lo2 hi2 : Nat) (w : World) (v sv av fv : Value) (N F : Int) (f : Nat) (front : List Int) (LO : Nat)
    (h : Rd z lo hi w [v] cat) (h1 : Rd z1 lo1 hi1 w [sv] same) (h2 : Rd z2 lo2 hi2 w [av] apart) (h3 : Ow LO w.heap.size w [fv] front) (hLO : LO ≤ w.heap.size) (hN : N = (n : Int)) (hF : F = (f : Int)) (hn8 : front.length + n ≤ 20) (hf8 : f ≤ 9) (hin : InC cat.length front) (r : Option (List Int)) (hr : r = chooseN cat same apart n f front),
    Calls Try.prog 64 #[v, fv, .int .i64 F, .int .i64 N, sv, av] w (PostFR LO w r) := by
  induction n with
  | zero =>
    intro z z1 z2 lo hi lo1 hi1 lo2 hi2 w v sv av fv N F f front LO h h1 h2 h3 hLO hN hF hn8 hf8 hin r hr
    obtain ⟨ao, cn, cap, rfl, hcn, -⟩ := h.shape
    obtain ⟨fao, fnn, fcap, rfl, hfn, -⟩ := h3.rd.shape
    subst hcn hfn
    obtain rfl : N = 0 := by rw [hN]; rfl
    subst hF
    have HC := Lib.hid h
    have HSM := Lib.hid h1
    have HAP := Lib.hid h2
    have HFR := Lib.hid h3
    have HIN := Lib.hid hin
    have HALL := Lib.hid hall
    have HP1 := Lib.hid hk1
    have HP2 := Lib.hid hk2
    obtain ⟨b, hlet_b⟩ : ∃ r, r = solvB (pickR cat front) same apart := ⟨_, rfl⟩
    have HB := Lib.hid hlet_b
    clear hlet_b
    have HR := Lib.hid (show r = if b = true then some front else none by rw [hr, HB.out]; rfl)
    have hfl : front.length ≤ 20 := by omega
    clear h h1 h2 h3 hin hN hr hall hk1 hk2
    go_enter Try.func64, Try.ntmps64
    go_wp2
    go_loopw [14, 16, 25] (fun s14 _ sc wr => ∃ i : Nat, i ≤ front.length ∧ sc = .int .i64 i ∧ Hid (GL false w.heap.size 0 wr.heap.size wr 37 s14 (pickR cat (front.take i))) ∧ Below w.heap.size w wr) (fun _ _ sc _ => front.length - (intOf sc).toNat)
    case atStart => exact ⟨0, Nat.zero_le _, rfl, Lib.hid ((GL.lit0 false w.heap.size 0 w _ (Nat.le_refl _)).top), bwT⟩
    case round =>
      obtain ⟨wb, hwb⟩ : ∃ wm : World, wm = wr := ⟨_, rfl⟩
      subst hwb
      obtain ⟨i, hi, rfl, hG, hbb⟩ := hrel
      have sB := hbb.size
      by_cases hli : i < front.length
      · have hIi : (i : Int) < (front.length : Int) := by omega
        obtain ⟨fb, foff, kk, rfl, hkx, fc, -, -, -, -, fl, -⟩ := HFR.out.rd.int_at hli
        have hkr := HIN.out kk (List.mem_of_getElem? hkx.out)
        obtain ⟨k, rfl⟩ := Int.eq_ofNat_of_zero_le hkr.1
        have hkl : k < cat.length := by omega
        have hkI : (k : Int) < (cat.length : Int) := by omega
        obtain ⟨rb, roff, nm, sx, pl, fr, tw, vfr, vtw, rfl, hx, c0, c1, c2, c3, c4, gnm, gsx, gpl, hfr, htw, hri, -, -, rbl⟩ := HC.out.dRul_at hkl
        obtain ⟨x1, x2, x3, rfl, -⟩ := hfr.shape
        obtain ⟨t1, t2, t3, rfl, -⟩ := htw.shape
        have g0 := oldc hbb fl fc
        have k0 := oldc hbb rbl c0
        have k1 := oldc hbb rbl c1
        have k2 := oldc hbb rbl c2
        have k3 := oldc hbb rbl c3
        have k4 := oldc hbb rbl c4
        have HNX := Lib.hid (show pickR cat (front.take i) ++ [(nm, sx, pl, fr, tw)] = pickR cat (front.take (i + 1)) by rw [take_snoc hkx.out, pickR_snoc (r := (nm, sx, pl, fr, tw)) (by simpa using hx.out)])
        have hpl : (pickR cat (front.take i)).length ≤ 20 := by
          have := pickR_len cat (front.take i)
          rw [List.length_take] at this; omega
        have HIT := Lib.hid ((hri.top).mono (Nat.zero_le _) (Nat.le_refl _)).it
        have hG2 := Lib.hid (hG.out.alloc (.cells #[.string nm, .int .i64 sx, .int .i64 pl, .slice x1 x2 x3, .slice t1 t2 t3] 37))
        have HIT2 := Lib.hid (HIT.out.keep (w' := wb.alloc (.cells #[.string nm, .int .i64 sx, .int .i64 pl, .slice x1 x2 x3, .slice t1 t2 t3] 37)) (fun b h1 h2 => (hbb.alloc sB _).block b h2))
        clear hx hkx c0 c1 c2 c3 c4 gnm gsx gpl hfr htw hri fc hG HIT
        go_wp2_with (at_builtin; refine wpList_push rfl rfl slRule (by show (0 : Nat) < 5; omega) hG2.out rfl (ad := ⟨wb.heap.size, 0, none⟩) rfl (cs := [.string nm, .int .i64 sx, .int .i64 pl, .slice x1 x2 x3, .slice t1 t2 t3]) (y := (nm, sx, pl, fr, tw)) ?c1 HIT2.out (Nat.le_refl _) (.inr ⟨Nat.le_refl _, fun h => by cases h⟩) (by unfold maxLen; omega) (by omega) (by simp; omega) ?_)
        case c1 =>
          intro j c hj
          match j, hj with
          | 0, hj => simp at hj; subst hj; simp [Addr.add, go_sem]
          | 1, hj => simp at hj; subst hj; simp [Addr.add, go_sem]
          | 2, hj => simp at hj; subst hj; simp [Addr.add, go_sem]
          | 3, hj => simp at hj; subst hj; simp [Addr.add, go_sem]
          | 4, hj => simp at hj; subst hj; simp [Addr.add, go_sem]
        intro v1 w3 hL3 _ hb3
        have HN := Lib.hid hL3
        rw [HNX.out] at HN
        have hbb3 : Below w.heap.size w w3 := Below.trans bwT hb3
        clear hL3 hb3 hG2 HIT2 HNX
        go_wp2
        go_roundw
        case rel => exact ⟨i + 1, by omega, by go_num, HN, hbb3⟩
        case measure => simp [intOf]; omega
      · obtain rfl : i = front.length := by omega
        have nI : ¬ (front.length : Int) < (front.length : Int) := by omega
        have hG2 := hG.out
        rw [List.take_length] at hG2
        have HRR := Lib.hid (hG2.rd (l0 := 0) (Nat.zero_le _) (Nat.zero_le _))
        clear hG hG2
        go_wp2_with fail
        refine (solvesS_b _ _ _ _ (pickR cat front) same apart HRR.out (HSM.out.below hbb) (HAP.out.below hbb) (pickR_all HALL.out _) HP1.out HP2.out b HB.out).mono ?_
        rintro e4 w4 ⟨rfl, hb4⟩
        have hbb4 : Below w.heap.size w w4 := hbb.trans (hb4.mono sB)
        have HO := Lib.hid (show ∀ l, r = some l → Ow LO w4.heap.size w4 [.slice fao front.length fcap] l from fun l hl => by
          rw [HR.out] at hl
          split at hl
          · cases hl; exact (HFR.out.below hbb4).mono (Nat.le_refl _) hbb4.size
          · cases hl)
        have hb : b = r.isSome := by rw [HR.out]; cases b <;> rfl
        clear hb4 HRR HB HR
        subst hb
        go_wp2
        go_ret2
        exact ⟨_, rfl, HO.out, hbb4⟩
  | succ n ih =>
    intro z z1 z2 lo hi lo1 hi1 lo2 hi2 w v sv av fv N F f front LO h h1 h2 h3 hLO hN hF hn8 hf8 hin r hr
    obtain ⟨ao, cn, cap, rfl, hcn, -⟩ := h.shape
    obtain ⟨fao, fnn, fcap, rfl, hfn, -⟩ := h3.rd.shape
    subst hcn hfn
    have n0 : (N == 0) = false := by simp; omega
    have hwN : wrap64 (N - 1) = N - 1 := IntWalk.wrap64_in _ (by omega)
    have HNN := Lib.hid (show N - 1 = (n : Int) by omega)
    clear hN
    have HC := Lib.hid h
    have HSM := Lib.hid h1
    have HAP := Lib.hid h2
    have HFR := Lib.hid h3
    have HIN := Lib.hid hin
    have HR := Lib.hid (show firstK (fun k => chooseN cat same apart n (k + 1) (front ++ [(k : Int)])) f (cat.length - f) = r from hr.symm)
    have hfl : front.length ≤ 19 := by omega
    have IH := Lib.hid ih
    subst hF
    clear ih h h1 h2 h3 hin hr hall hk1 hk2
    go_enter Try.func64, Try.ntmps64
    go_wp2
    go_loopw [17, 18, 19] (fun s17 _ _ wr => ∃ k : Nat, f ≤ k ∧ k ≤ 9 ∧ s17 = .int .i64 k ∧ Hid (firstK (fun k => chooseN cat same apart n (k + 1) (front ++ [(k : Int)])) k (cat.length - k) = r) ∧ Below w.heap.size w wr) (fun s17 _ _ _ => 10 - (intOf s17).toNat)
    case atStart => exact ⟨f, Nat.le_refl _, hf8, rfl, HR, Below.refl _ _⟩
    case round =>
      obtain ⟨wb, hwb⟩ : ∃ wm : World, wm = wr := ⟨_, rfl⟩
      subst hwb
      obtain ⟨k, hfk, hk9, rfl, HK, hbb⟩ := hrel
      have sB := hbb.size
      by_cases hkl : k < cat.length
      · have hkI : (k : Int) < (cat.length : Int) := by omega
        obtain ⟨m, hm⟩ : ∃ m, cat.length - k = m + 1 := ⟨cat.length - k - 1, by omega⟩
        have hm2 : cat.length - (k + 1) = m := by omega
        obtain ⟨o1, hlet_o1⟩ : ∃ r, r = chooseN cat same apart n (k + 1) (front ++ [(k : Int)]) := ⟨_, rfl⟩
        have HO1 := Lib.hid hlet_o1
        clear hlet_o1
        have HIN2 := Lib.hid (HIN.out.snoc hkl)
        have hrdF := Lib.hid (HFR.out.rd.below hbb)
        have HMM := Lib.hid hm
        have HMM2 := Lib.hid hm2
        clear hm hm2
        go_wp2_with (at_builtin; refine wpList_spread_flat rfl rfl slInt (by show (0 : Nat) < 1; omega) ((GL.lit0 true wb.heap.size wb.heap.size wb _ (Nat.le_refl _)).top) rfl rfl (hrdF.out.below bwT) (by simp; unfold maxLen; omega) (by simp; omega) (by simp) ?_)
        rintro v3 w3 hG3 - hb3
        have hG3' := Lib.hid (show GL true wb.heap.size wb.heap.size w3.heap.size w3 3 v3 front from hG3)
        have hb3' : Below wb.heap.size wb w3 := Below.trans (show Below wb.heap.size wb _ from bwT) hb3
        have s3 := hb3'.size
        have hG3a := Lib.hid (hG3'.out.alloc (.cells #[.int .i64 k] 3))
        clear hG3 hb3 hG3'
        go_wp2_with (at_builtin; refine wpList_push rfl rfl slInt (by show (0 : Nat) < 1; omega) hG3a.out rfl (ad := ⟨w3.heap.size, 0, none⟩) rfl (cs := [.int .i64 k]) (y := (k : Int)) (lx := w3.heap.size) (hx' := w3.heap.size) ?c1 (It.flat (z := true) (w0 := w3) (fp := []) ⟨rfl, ⟨by omega, by omega⟩, rfl⟩) (by omega) (.inl (Nat.le_refl _)) (by unfold maxLen; omega) (by omega) (by simp; omega) ?_)
        case c1 => intro j c hj; match j, hj with | 0, hj => simp at hj; subst hj; simp [Addr.add, go_sem]
        rintro v4 w4 hG4 - hb4
        have hb34 : Below wb.heap.size wb w4 := Below.trans (show Below wb.heap.size wb _ from bwT) hb4
        have hB4 : Below w.heap.size w w4 := hbb.trans (hb34.mono sB)
        obtain ⟨ao4, cap4, hv4, -, -⟩ := hG4.len
        rw [show (front ++ [(k : Int)]).length = front.length + 1 by simp] at hv4
        subst hv4
        have HOW := Lib.hid (hG4.ow (l0 := wb.heap.size) (Nat.le_refl _) (Nat.le_refl _))
        have s4 := hb34.size
        clear hG4 hb4 hG3a
        go_wp2_with fail
        refine (IH.out _ _ _ _ _ _ _ _ _ _ _ _ _ _ _ _ (k + 1) (front ++ [(k : Int)]) wb.heap.size (HC.out.below hB4) (HSM.out.below hB4) (HAP.out.below hB4) HOW.out s4 HNN.out (by simp) (by simp; omega) (by omega) HIN2.out o1 HO1.out).mono ?_
        rintro e5 w5 ⟨v5, rfl, ho5, hb5⟩
        have hB5 : Below w.heap.size w w5 := hB4.trans (hb5.mono hB4.size)
        have HO5 := Lib.hid ho5
        clear hb5 ho5 HOW
        rcases o1 with _ | l1
        · have HK2 := Lib.hid (show firstK (fun k => chooseN cat same apart n (k + 1) (front ++ [(k : Int)])) (k + 1) (cat.length - (k + 1)) = r by
            have := HK.out
            rw [HMM.out, firstK_none (f := fun k => chooseN cat same apart n (k + 1) (front ++ [(k : Int)])) HO1.out.symm] at this
            rw [HMM2.out]; exact this)
          clear HK HO1 HO5
          go_wp2
          go_roundw
          case rel => exact ⟨k + 1, by omega, by omega, by go_num, HK2, hB5⟩
          case measure => simp [intOf]; omega
        · have HRL := Lib.hid (show some l1 = r by
            have := HK.out
            rw [HMM.out, firstK_some (f := fun k => chooseN cat same apart n (k + 1) (front ++ [(k : Int)])) HO1.out.symm] at this
            exact this)
          have HOL := Lib.hid (HO5.out l1 rfl)
          obtain rfl : r = some l1 := HRL.out.symm
          clear HK HO1 HO5 HR
          go_wp2
          go_ret2
          exact ⟨_, rfl, fun l hl => by cases hl; exact HOL.out.mono (by omega) (Nat.le_refl _), hB5⟩
      · have nI : ¬ (k : Int) < (cat.length : Int) := by omega
        have HRN := Lib.hid (show r = none by
          have := HK.out
          rw [show cat.length - k = 0 by omega] at this
          exact this.symm)
        obtain rfl : r = none := HRN.out
        clear HK HR
        go_wp2
        go_ret2
        exact ⟨_, rfl, (fun l hl => by cases hl), hbb⟩
/-- A list of the call's own and a Bool come back. -/
def PostOB {α : Type} [Rep α] (w : World) (x : α) (b : Bool) (e : Ending) (w' : World) : Prop :=
  ∃ u, e = .returned (.tuple #[u, .bool b]) ∧ Ow w.heap.size w'.heap.size w' [u] x ∧ Below w.heap.size w w'
theorem pairsOk_mem {ps : List TPr} (h : pairsOk ps = true) : ∀ p ∈ ps, isKin p.1 = true ∧ isKin p.2 = true := by
  intro p hp
  unfold pairsOk at h
  rw [List.all_eq_true] at h
  have := h p hp
  simpa using this
theorem pairsOk_app (a b : List TPr) : pairsOk (a ++ b) = (pairsOk a && pairsOk b) := by unfold pairsOk; rw [List.all_append]
set_option maxRecDepth 20000 in
set_option maxHeartbeats 8000000 in
theorem typesS_b {z : Bool} {lo hi : Nat} (w : World) (v : Value) (ps : List TPr) (h : Rd z lo hi w [v] ps) (R : Bool) (hR : R = pairsOk ps) : Calls Try.prog 63 #[v] w (PostB w R) := by
  obtain ⟨ao, n, cap, rfl, hn, hnc, hcm, -⟩ := h.shape
  subst hn
  unfold maxLen at hcm
  have HP := Lib.hid h
  have HR := Lib.hid hR
  clear h hR
  go_enter Try.func63, Try.ntmps63
  go_wp2
  go_loopw [4, 7] (fun _ sc wr => ∃ i : Nat, i ≤ (ps).length ∧ sc = .int .i64 i ∧ Hid (pairsOk ((ps).take i) = true) ∧ Below w.heap.size w wr) (fun _ sc _ => (ps).length - (intOf sc).toNat)
  case atStart => exact ⟨0, Nat.zero_le _, rfl, Lib.hid rfl, Below.refl _ _⟩
  case round =>
    obtain ⟨wb, hwb⟩ : ∃ wm : World, wm = wr := ⟨_, rfl⟩
    subst hwb
    obtain ⟨i, hi, rfl, HI, hbb⟩ := hrel
    have sB := hbb.size
    by_cases hli : i < (ps).length
    · have hIi : (i : Int) < ((ps).length : Int) := by omega
      obtain ⟨tb, toff, kae, kal, kbe, kbl, v1, v2, rfl, hx, c0, c1, c2, c3, -, -, hv1, hv2, hpr, -, -, tlt⟩ := HP.out.dTPr_at hli
      obtain ⟨a1, n1, p1, rfl, -⟩ := hv1.shape
      obtain ⟨a2, n2, p2, rfl, -⟩ := hv2.shape
      have k0 := oldc hbb tlt c0
      have k1 := oldc hbb tlt c1
      have k2 := oldc hbb tlt c2
      have k3 := oldc hbb tlt c3
      have HA := Lib.hid hpr.part_ka
      have HB := Lib.hid hpr.part_kb
      have HPX := Lib.hid hx.out
      obtain ⟨q1, hlet_q1⟩ : ∃ r, r = isKin (kae, kal) := ⟨_, rfl⟩
      have HQ1 := Lib.hid hlet_q1
      clear hlet_q1
      obtain ⟨q2, hlet_q2⟩ : ∃ r, r = isKin (kbe, kbl) := ⟨_, rfl⟩
      have HQ2 := Lib.hid hlet_q2
      clear hlet_q2
      clear hx c0 c1 c2 c3 hv1 hv2 hpr
      go_wp2_with fail
      refine (isTypeS_b _ _ _ (kae, kal) (HA.out.below ?b1) q1 HQ1.out).mono ?_
      case b1 => exact bwT
      rintro e5 w5 ⟨rfl, hb5⟩
      have hW5 : Below w.heap.size w w5 := Below.trans (show Below w.heap.size w _ from bwT) (hb5.mono szT)
      have d2 : w5.cell? ⟨wb.heap.size, 2, none⟩ = some (.int .i64 kbe) := oldc hb5 ltT (by simp [go_sem])
      have d3 : w5.cell? ⟨wb.heap.size, 3, none⟩ = some (.slice a2 n2 p2) := oldc hb5 ltT (by simp [go_sem])
      clear hb5 k0 k1 k2 k3
      cases q1
      · have HBAD := Lib.hid (show pairsOk (ps) = false from all_bad HPX.out (fun p => isKin p.1 && isKin p.2) (by dsimp only; rw [← HQ1.out]; rfl))
        clear HI HPX HQ1 HQ2
        have HF := Lib.hid (show R = false by rw [HR.out, HBAD.out])
        clear HBAD HR
        go_wp2
        go_ret
        exact ⟨ret_bool HF.out.symm, hW5⟩
      go_wp2_with fail
      refine (isTypeS_b _ _ _ (kbe, kbl) (HB.out.below hW5) q2 HQ2.out).mono ?_
      rintro e6 w6 ⟨rfl, hb6⟩
      have hW6 : Below w.heap.size w w6 := hW5.trans (hb6.mono hW5.size)
      clear hb6 d2 d3
      cases q2
      · have HBAD := Lib.hid (show pairsOk (ps) = false from all_bad HPX.out (fun p => isKin p.1 && isKin p.2) (by dsimp only; rw [← HQ2.out, Bool.and_false]))
        clear HI HPX HQ1 HQ2
        have HF := Lib.hid (show R = false by rw [HR.out, HBAD.out])
        clear HBAD HR
        go_wp2
        go_ret
        exact ⟨ret_bool HF.out.symm, hW6⟩
      have HI2 := Lib.hid (show pairsOk ((ps).take (i + 1)) = true from same_step HPX.out (fun p => isKin p.1 && isKin p.2) HI.out (by dsimp only; rw [← HQ1.out, ← HQ2.out]; rfl))
      clear HI HPX HQ1 HQ2
      go_wp2
      go_roundw
      case rel => exact ⟨i + 1, by omega, by go_num, HI2, hW6⟩
      case measure => simp [intOf]; omega
    · obtain rfl : i = (ps).length := by omega
      have nI : ¬ ((ps).length : Int) < ((ps).length : Int) := by omega
      rw [List.take_length] at HI
      have HF := Lib.hid (show R = true by rw [HR.out, HI.out])
      go_wp2
      go_ret
      exact ⟨ret_bool HF.out.symm, hbb⟩
set_option maxRecDepth 20000 in
set_option maxHeartbeats 16000000 in
theorem findI_any {z z1 z2 : Bool} {lo hi lo1 hi1 lo2 hi2 : Nat} (w : World) (v sv av : Value) (cat : List Rul) (same apart : List TPr) (h : Rd z lo hi w [v] cat) (h1 : Rd z1 lo1 hi1 w [sv] same) (h2 : Rd z2 lo2 hi2 w [av] apart) (hs1 : same.length ≤ 1048576) (hs2 : apart.length ≤ 1048576) (V : Bool) (hV : V = (findO cat same apart).isSome) :
    Calls Try.prog 27 #[v, sv, av] w (PostOB w (findX cat same apart) V) := by
  obtain ⟨ao, n, cap, rfl, hn, -⟩ := h.shape
  obtain ⟨sao, sn, scap, rfl, hsn, -⟩ := h1.shape
  obtain ⟨pao, pn, pcap, rfl, hpn, -⟩ := h2.shape
  subst hn hsn hpn
  have HC := Lib.hid h
  have HSM := Lib.hid h1
  have HAP := Lib.hid h2
  obtain ⟨r1, hlet_r1⟩ : ∃ r, r = areRules cat := ⟨_, rfl⟩
  have H1 := Lib.hid hlet_r1
  clear hlet_r1
  obtain ⟨O, hlet_O⟩ : ∃ r, r = findO cat same apart := ⟨_, rfl⟩
  have HO := Lib.hid hlet_O
  clear hlet_O
  obtain ⟨X, hX⟩ : ∃ X, X = findX cat same apart := ⟨_, rfl⟩
  rw [← hX]
  have HX := Lib.hid (show X = O.getD [] by rw [hX, HO.out]; rfl)
  have HV := Lib.hid (show V = O.isSome by rw [hV, HO.out])
  have HOV := Lib.hid (show O = if (r1 && (decide (cat.length ≤ 8) && (decide (same.length + apart.length ≤ 40) && (pairsOk same && pairsOk apart)))) = true then leastK cat same apart 0 (cat.length + 1) else none by rw [HO.out, H1.out]; rfl)
  clear h h1 h2 hX hV
  go_enter Try.func27, Try.ntmps27
  go_wp2_with fail
  refine (areRulesI_b _ _ cat (HC.out.below bwT) r1 H1.out).mono ?_
  rintro e1 w1 ⟨rfl, hbw1⟩
  have hpw1 : Below w.heap.size w w1 := Below.after bwT hbw1 szT
  have sw1 := hpw1.size
  have hBw1 : Below w.heap.size w w1 := hpw1
  clear hbw1 hpw1
  cases r1
  · obtain rfl : O = none := HOV.out
    obtain rfl : V = false := HV.out
    obtain rfl : X = [] := HX.out
    clear HV HX
    go_wp2
    go_ret2
    exact ⟨_, rfl, Ow.nil _ _ _, hBw1⟩
  have HALL := Lib.hid (show allRules cat from (areRules_facts H1.out.symm).2.1)
  by_cases hc8 : 8 < cat.length
  · have hc8' : (8 : Int) < (cat.length : Int) := by omega
    obtain rfl : O = none := by rw [HOV.out, decide_eq_false (show ¬ cat.length ≤ 8 by omega)]; rfl
    obtain rfl : V = false := HV.out
    obtain rfl : X = [] := HX.out
    clear HV HX
    go_wp2
    go_ret2
    exact ⟨_, rfl, Ow.nil _ _ _, hBw1⟩
  have hc8' : ¬ (8 : Int) < (cat.length : Int) := by omega
  by_cases h40 : 40 < same.length + apart.length
  · have h40' : (40 : Int) < (same.length : Int) + (apart.length : Int) := by omega
    obtain rfl : O = none := by rw [HOV.out, decide_eq_false (show ¬ same.length + apart.length ≤ 40 by omega), Bool.false_and, Bool.and_false, Bool.and_false]; rfl
    obtain rfl : V = false := HV.out
    obtain rfl : X = [] := HX.out
    clear HV HX
    go_wp2
    go_ret2
    exact ⟨_, rfl, Ow.nil _ _ _, hBw1⟩
  have h40' : ¬ (40 : Int) < (same.length : Int) + (apart.length : Int) := by omega
  have HOW := Lib.hid (show O = if (pairsOk same && pairsOk apart) = true then leastK cat same apart 0 (cat.length + 1) else none by
    rw [HOV.out, decide_eq_true (show cat.length ≤ 8 by omega), decide_eq_true (show same.length + apart.length ≤ 40 by omega), Bool.true_and, Bool.true_and, Bool.true_and])
  clear HOV
  obtain ⟨W1, hW1⟩ : ∃ W : World, W = w1 := ⟨_, rfl⟩
  subst hW1
  have hB1 : Below w.heap.size w W1 := hBw1
  have s1 := hB1.size
  have HS1 := Lib.hid (((HSM.out.below hB1).top.mono (Nat.zero_le _) (Nat.le_refl _)).it)
  have HA1 := Lib.hid (((HAP.out.below hB1).top.mono (Nat.zero_le _) (Nat.le_refl _)).it)
  go_wp2_with (at_builtin; refine wpList_spread rfl rfl slTypePair (by show (0 : Nat) < 4; omega) (GL.start false W1.heap.size 0 0 _ _) rfl rfl HS1.out (Nat.le_refl _) (.inr ⟨Nat.le_refl _, fun h => by cases h⟩) (by simp; unfold maxLen; omega) (by simp; omega) (Nat.le_refl _) ?_)
  rintro v2 w2 hG2 - hb2
  have hG2' := Lib.hid (show GL false W1.heap.size 0 w2.heap.size w2 55 v2 same from hG2)
  have s2' := hb2.size
  have HA2 := Lib.hid (HA1.out.keep (fun b h1 h2 => hb2.block b h2))
  have hb2' := Lib.hid hb2
  clear hG2 hb2
  go_wp2_with (at_builtin; refine wpList_spread rfl rfl slTypePair (by show (0 : Nat) < 4; omega) hG2'.out rfl rfl HA2.out (Nat.le_refl _) (.inr ⟨Nat.le_refl _, fun h => by cases h⟩) (by unfold maxLen; omega) (by omega) s2' ?_)
  rintro v3 w3 hG3 - hb3
  obtain ⟨cao, ccap, rfl, -, -⟩ := hG3.len
  have hb13 : Below W1.heap.size W1 w3 := hb2'.out.trans hb3
  have hB2 : Below w.heap.size w w3 := hB1.trans (hb13.mono s1)
  have s2 := hB2.size
  obtain ⟨PS, hPS⟩ : ∃ PS, PS = same ++ apart := ⟨_, rfl⟩
  have hpl : PS.length ≤ 40 := by rw [hPS, List.length_append]; omega
  rw [← hPS] at hG3 ⊢
  have HPS := Lib.hid hPS
  clear hPS
  have HPP := Lib.hid (hG3.rd (l0 := 0) (Nat.zero_le _) (Nat.zero_le _))
  clear hG3 hb3 hG2' HA2 HS1 HA1
  go_wp2
  go_loopw [9, 34] (fun _ sc wr => ∃ i : Nat, i ≤ (PS).length ∧ sc = .int .i64 i ∧ Hid (pairsOk ((PS).take i) = true) ∧ Below w3.heap.size w3 wr) (fun _ sc _ => (PS).length - (intOf sc).toNat)
  case atStart => exact ⟨0, Nat.zero_le _, rfl, Lib.hid rfl, Below.refl _ _⟩
  case round =>
    obtain ⟨wb, hwb⟩ : ∃ wm : World, wm = wr := ⟨_, rfl⟩
    subst hwb
    obtain ⟨i, hi, rfl, HI, hbb⟩ := hrel
    have sB := hbb.size
    by_cases hli : i < (PS).length
    · have hIi : (i : Int) < ((PS).length : Int) := by omega
      obtain ⟨tb, toff, kae, kal, kbe, kbl, v1, v2, rfl, hx, c0, c1, c2, c3, -, -, hv1, hv2, hpr, -, -, tlt⟩ := HPP.out.dTPr_at hli
      obtain ⟨a1, n1, p1, rfl, -⟩ := hv1.shape
      obtain ⟨a2, n2, p2, rfl, -⟩ := hv2.shape
      have k0 := oldc hbb tlt c0
      have k1 := oldc hbb tlt c1
      have k2 := oldc hbb tlt c2
      have k3 := oldc hbb tlt c3
      have HA := Lib.hid hpr.part_ka
      have HB := Lib.hid hpr.part_kb
      have HPX := Lib.hid hx.out
      obtain ⟨q1, hlet_q1⟩ : ∃ r, r = isKin (kae, kal) := ⟨_, rfl⟩
      have HQ1 := Lib.hid hlet_q1
      clear hlet_q1
      obtain ⟨q2, hlet_q2⟩ : ∃ r, r = isKin (kbe, kbl) := ⟨_, rfl⟩
      have HQ2 := Lib.hid hlet_q2
      clear hlet_q2
      clear hx c0 c1 c2 c3 hv1 hv2 hpr
      go_wp2_with fail
      refine (isTypeI_b _ _ _ (kae, kal) (HA.out.below ?b1) q1 HQ1.out).mono ?_
      case b1 => exact bwT
      rintro e5 w5 ⟨rfl, hb5⟩
      have hW5 : Below w3.heap.size w3 w5 := Below.trans (show Below w3.heap.size w3 _ from bwT) (hb5.mono szT)
      have d2 : w5.cell? ⟨wb.heap.size, 2, none⟩ = some (.int .i64 kbe) := oldc hb5 ltT (by simp [go_sem])
      have d3 : w5.cell? ⟨wb.heap.size, 3, none⟩ = some (.slice a2 n2 p2) := oldc hb5 ltT (by simp [go_sem])
      clear hb5 k0 k1 k2 k3
      cases q1
      · have HBAD := Lib.hid (show pairsOk (PS) = false from all_bad HPX.out (fun p => isKin p.1 && isKin p.2) (by dsimp only; rw [← HQ1.out]; rfl))
        clear HI HPX HQ1 HQ2
        have HOO := Lib.hid (show O = none by rw [HOW.out, ← pairsOk_app, ← HPS.out, HBAD.out]; rfl)
        obtain rfl : V = false := by rw [HV.out, HOO.out]; rfl
        obtain rfl : X = [] := by rw [HX.out, HOO.out]; rfl
        clear HBAD HOW HOO HV HX
        go_wp2
        go_ret2
        exact ⟨_, rfl, Ow.nil _ _ _, hB2.trans (Below.mono hW5 s2)⟩
      go_wp2_with fail
      refine (isTypeI_b _ _ _ (kbe, kbl) (HB.out.below hW5) q2 HQ2.out).mono ?_
      rintro e6 w6 ⟨rfl, hb6⟩
      have hW6 : Below w3.heap.size w3 w6 := hW5.trans (hb6.mono hW5.size)
      clear hb6 d2 d3
      cases q2
      · have HBAD := Lib.hid (show pairsOk (PS) = false from all_bad HPX.out (fun p => isKin p.1 && isKin p.2) (by dsimp only; rw [← HQ2.out, Bool.and_false]))
        clear HI HPX HQ1 HQ2
        have HOO := Lib.hid (show O = none by rw [HOW.out, ← pairsOk_app, ← HPS.out, HBAD.out]; rfl)
        obtain rfl : V = false := by rw [HV.out, HOO.out]; rfl
        obtain rfl : X = [] := by rw [HX.out, HOO.out]; rfl
        clear HBAD HOW HOO HV HX
        go_wp2
        go_ret2
        exact ⟨_, rfl, Ow.nil _ _ _, hB2.trans (Below.mono hW6 s2)⟩
      have HI2 := Lib.hid (show pairsOk ((PS).take (i + 1)) = true from same_step HPX.out (fun p => isKin p.1 && isKin p.2) HI.out (by dsimp only; rw [← HQ1.out, ← HQ2.out]; rfl))
      clear HI HPX HQ1 HQ2
      go_wp2
      go_roundw
      case rel => exact ⟨i + 1, by omega, by go_num, HI2, hW6⟩
      case measure => simp [intOf]; omega
    · obtain rfl : i = (PS).length := by omega
      have nI : ¬ ((PS).length : Int) < ((PS).length : Int) := by omega
      rw [List.take_length] at HI
      rw [HPS.out, pairsOk_app, Bool.and_eq_true] at HI
      have HP1 := Lib.hid HI.out.1
      have HP2 := Lib.hid HI.out.2
      have HLK := Lib.hid (show leastK cat same apart 0 (cat.length + 1 - 0) = O by rw [HOW.out, HP1.out, HP2.out]; rfl)
      have hBb : Below w.heap.size w wb := hB2.trans (hbb.mono s2)
      clear HI HOW
      go_wp2
      go_loopw [10, 11, 12] (fun s10 _ _ wr => ∃ m : Nat, m ≤ cat.length + 1 ∧ s10 = .int .i64 m ∧ Hid (leastK cat same apart m (cat.length + 1 - m) = O) ∧ Below w.heap.size w wr) (fun s10 _ _ _ => cat.length + 1 - (intOf s10).toNat)
      case atStart => exact ⟨0, Nat.zero_le _, rfl, HLK, hBb⟩
      case round =>
        obtain ⟨wk, hwk⟩ : ∃ wm : World, wm = wr := ⟨_, rfl⟩
        subst hwk
        obtain ⟨m, hm, rfl, HM, hbk⟩ := hrel
        have sK := hbk.size
        by_cases hml : m ≤ cat.length
        · have hmI : (m : Int) ≤ (cat.length : Int) := by omega
          obtain ⟨t, ht⟩ : ∃ t, cat.length + 1 - m = t + 1 := ⟨cat.length - m, by omega⟩
          have HT := Lib.hid ht
          have HT2 := Lib.hid (show cat.length + 1 - (m + 1) = t by omega)
          obtain ⟨o1, hlet_o1⟩ : ∃ r, r = chooseN cat same apart m 0 [] := ⟨_, rfl⟩
          have HO1 := Lib.hid hlet_o1
          clear hlet_o1
          clear ht
          go_wp2_with fail
          refine (chooseI_any cat same apart (by omega) HALL.out (pairsOk_mem HP1.out) (pairsOk_mem HP2.out) m _ _ _ _ _ _ _ _ _ _ _ _ _ _ _ _ 0 [] wk.heap.size (HC.out.below hbk) (HSM.out.below hbk) (HAP.out.below hbk) (Ow.nil _ _ _) (Nat.le_refl _) rfl rfl (by simp; omega) (by omega) (fun _ h => by cases h) o1 HO1.out).mono ?_
          rintro e7 w7 ⟨v7, rfl, ho7, hb7⟩
          have hB7 : Below w.heap.size w w7 := hbk.trans (hb7.mono sK)
          have HO7 := Lib.hid ho7
          clear hb7 ho7
          rcases o1 with _ | l1
          · have HM2 := Lib.hid (show leastK cat same apart (m + 1) (cat.length + 1 - (m + 1)) = O by
              have := HM.out
              rw [HT.out, leastK_none HO1.out.symm] at this
              rw [HT2.out]; exact this)
            clear HM HO1 HO7
            go_wp2
            go_roundw
            case rel => exact ⟨m + 1, by omega, by go_num, HM2, hB7⟩
            case measure => simp [intOf]; omega
          · have HOL := Lib.hid (HO7.out l1 rfl)
            have HOO := Lib.hid (show O = some l1 by
              have := HM.out
              rw [HT.out, leastK_some HO1.out.symm] at this
              exact this.symm)
            obtain rfl : V = true := by rw [HV.out, HOO.out]; rfl
            obtain rfl : X = l1 := by rw [HX.out, HOO.out]; rfl
            clear HM HO1 HO7 HV HX
            go_wp2
            go_ret2
            exact ⟨_, rfl, HOL.out.mono (by omega) (Nat.le_refl _), hB7⟩
        · have nM : ¬ (m : Int) ≤ (cat.length : Int) := by omega
          have HOO := Lib.hid (show O = none by
            have := HM.out
            rw [show cat.length + 1 - m = 0 by omega] at this
            exact this.symm)
          obtain rfl : V = false := by rw [HV.out, HOO.out]; rfl
          obtain rfl : X = [] := by rw [HX.out, HOO.out]; rfl
          clear HM HV HX
          go_wp2
          go_ret2
          exact ⟨_, rfl, Ow.nil _ _ _, hbk⟩
set_option maxRecDepth 20000 in
set_option maxHeartbeats 16000000 in
theorem findS_any {z z1 z2 : Bool} {lo hi lo1 hi1 lo2 hi2 : Nat} (w : World) (v sv av : Value) (cat : List Rul) (same apart : List TPr) (h : Rd z lo hi w [v] cat) (h1 : Rd z1 lo1 hi1 w [sv] same) (h2 : Rd z2 lo2 hi2 w [av] apart) (hs1 : same.length ≤ 1048576) (hs2 : apart.length ≤ 1048576) (V : Bool) (hV : V = (findO cat same apart).isSome) :
    Calls Try.prog 28 #[v, sv, av] w (PostOB w (findX cat same apart) V) := by
  obtain ⟨ao, n, cap, rfl, hn, -⟩ := h.shape
  obtain ⟨sao, sn, scap, rfl, hsn, -⟩ := h1.shape
  obtain ⟨pao, pn, pcap, rfl, hpn, -⟩ := h2.shape
  subst hn hsn hpn
  have HC := Lib.hid h
  have HSM := Lib.hid h1
  have HAP := Lib.hid h2
  obtain ⟨r1, hlet_r1⟩ : ∃ r, r = areRules cat := ⟨_, rfl⟩
  have H1 := Lib.hid hlet_r1
  clear hlet_r1
  obtain ⟨O, hlet_O⟩ : ∃ r, r = findO cat same apart := ⟨_, rfl⟩
  have HO := Lib.hid hlet_O
  clear hlet_O
  obtain ⟨X, hX⟩ : ∃ X, X = findX cat same apart := ⟨_, rfl⟩
  rw [← hX]
  have HX := Lib.hid (show X = O.getD [] by rw [hX, HO.out]; rfl)
  have HV := Lib.hid (show V = O.isSome by rw [hV, HO.out])
  have HOV := Lib.hid (show O = if (r1 && (decide (cat.length ≤ 8) && (decide (same.length + apart.length ≤ 40) && (pairsOk same && pairsOk apart)))) = true then leastK cat same apart 0 (cat.length + 1) else none by rw [HO.out, H1.out]; rfl)
  clear h h1 h2 hX hV
  go_enter Try.func28, Try.ntmps28
  go_wp2_with fail
  refine (areRulesS_b _ _ cat (HC.out.below bwT) r1 H1.out).mono ?_
  rintro e2 w2 ⟨rfl, hbw2⟩
  have hpw2 : Below w.heap.size w w2 := Below.after bwT hbw2 szT
  have sw2 := hpw2.size
  have hBw2 : Below w.heap.size w w2 := hpw2
  clear hbw2 hpw2
  cases r1
  · obtain rfl : O = none := HOV.out
    obtain rfl : V = false := HV.out
    obtain rfl : X = [] := HX.out
    clear HV HX
    go_wp2
    go_ret2
    exact ⟨_, rfl, Ow.nil _ _ _, hBw2⟩
  have HALL := Lib.hid (show allRules cat from (areRules_facts H1.out.symm).2.1)
  by_cases hc8 : 8 < cat.length
  · have hc8' : (8 : Int) < (cat.length : Int) := by omega
    obtain rfl : O = none := by rw [HOV.out, decide_eq_false (show ¬ cat.length ≤ 8 by omega)]; rfl
    obtain rfl : V = false := HV.out
    obtain rfl : X = [] := HX.out
    clear HV HX
    go_wp2
    go_ret2
    exact ⟨_, rfl, Ow.nil _ _ _, hBw2⟩
  have hc8' : ¬ (8 : Int) < (cat.length : Int) := by omega
  by_cases h40 : 40 < same.length + apart.length
  · have h40' : (40 : Int) < (same.length : Int) + (apart.length : Int) := by omega
    obtain rfl : O = none := by rw [HOV.out, decide_eq_false (show ¬ same.length + apart.length ≤ 40 by omega), Bool.false_and, Bool.and_false, Bool.and_false]; rfl
    obtain rfl : V = false := HV.out
    obtain rfl : X = [] := HX.out
    clear HV HX
    go_wp2
    go_ret2
    exact ⟨_, rfl, Ow.nil _ _ _, hBw2⟩
  have h40' : ¬ (40 : Int) < (same.length : Int) + (apart.length : Int) := by omega
  have HOW := Lib.hid (show O = if (pairsOk same && pairsOk apart) = true then leastK cat same apart 0 (cat.length + 1) else none by
    rw [HOV.out, decide_eq_true (show cat.length ≤ 8 by omega), decide_eq_true (show same.length + apart.length ≤ 40 by omega), Bool.true_and, Bool.true_and, Bool.true_and])
  clear HOV
  obtain ⟨p1, hlet_p1⟩ : ∃ r, r = pairsOk same := ⟨_, rfl⟩
  have HP1V := Lib.hid hlet_p1
  clear hlet_p1
  go_wp2_with fail
  refine (typesS_b _ _ same (HSM.out.below bwT) p1 HP1V.out).mono ?_
  rintro e3 w3 ⟨rfl, hbw3⟩
  have hpw3 : Below w2.heap.size w2 w3 := Below.after bwT hbw3 szT
  have sw3 := hpw3.size
  have hBw3 : Below w.heap.size w w3 := Below.trans hBw2 (Below.mono hpw3 hBw2.size)
  clear hbw3 hpw3
  cases p1
  · have HOO := Lib.hid (show O = none by rw [HOW.out, ← HP1V.out]; rfl)
    obtain rfl : V = false := by rw [HV.out, HOO.out]; rfl
    obtain rfl : X = [] := by rw [HX.out, HOO.out]; rfl
    clear HV HX
    go_wp2
    go_ret2
    exact ⟨_, rfl, Ow.nil _ _ _, hBw3⟩
  obtain ⟨p2, hlet_p2⟩ : ∃ r, r = pairsOk apart := ⟨_, rfl⟩
  have HP2V := Lib.hid hlet_p2
  clear hlet_p2
  go_wp2_with fail
  refine (typesS_b _ _ apart (HAP.out.below bwT) p2 HP2V.out).mono ?_
  rintro e4 w4 ⟨rfl, hbw4⟩
  have hpw4 : Below w3.heap.size w3 w4 := Below.after bwT hbw4 szT
  have sw4 := hpw4.size
  have hBw4 : Below w.heap.size w w4 := Below.trans hBw3 (Below.mono hpw4 hBw3.size)
  clear hbw4 hpw4
  cases p2
  · have HOO := Lib.hid (show O = none by rw [HOW.out, ← HP2V.out, Bool.and_false]; rfl)
    obtain rfl : V = false := by rw [HV.out, HOO.out]; rfl
    obtain rfl : X = [] := by rw [HX.out, HOO.out]; rfl
    clear HV HX
    go_wp2
    go_ret2
    exact ⟨_, rfl, Ow.nil _ _ _, hBw4⟩
  have HP1 := Lib.hid HP1V.out.symm
  have HP2 := Lib.hid HP2V.out.symm
  have HLK := Lib.hid (show leastK cat same apart 0 (cat.length + 1 - 0) = O by rw [HOW.out, HP1.out, HP2.out]; rfl)
  clear HOW
  go_wp2
  go_loopw [8, 9, 10] (fun s10 _ _ wr => ∃ m : Nat, m ≤ cat.length + 1 ∧ s10 = .int .i64 m ∧ Hid (leastK cat same apart m (cat.length + 1 - m) = O) ∧ Below w.heap.size w wr) (fun s10 _ _ _ => cat.length + 1 - (intOf s10).toNat)
  case atStart => exact ⟨0, Nat.zero_le _, rfl, HLK, hBw4⟩
  case round =>
    obtain ⟨wk, hwk⟩ : ∃ wm : World, wm = wr := ⟨_, rfl⟩
    subst hwk
    obtain ⟨m, hm, rfl, HM, hbk⟩ := hrel
    have sK := hbk.size
    by_cases hml : m ≤ cat.length
    · have hmI : (m : Int) ≤ (cat.length : Int) := by omega
      obtain ⟨t, ht⟩ : ∃ t, cat.length + 1 - m = t + 1 := ⟨cat.length - m, by omega⟩
      have HT := Lib.hid ht
      have HT2 := Lib.hid (show cat.length + 1 - (m + 1) = t by omega)
      obtain ⟨o1, hlet_o1⟩ : ∃ r, r = chooseN cat same apart m 0 [] := ⟨_, rfl⟩
      have HO1 := Lib.hid hlet_o1
      clear hlet_o1
      clear ht
      go_wp2_with fail
      refine (chooseS_any cat same apart (by omega) HALL.out (pairsOk_mem HP1.out) (pairsOk_mem HP2.out) m _ _ _ _ _ _ _ _ _ _ _ _ _ _ _ _ 0 [] wk.heap.size (HC.out.below hbk) (HSM.out.below hbk) (HAP.out.below hbk) (Ow.nil _ _ _) (Nat.le_refl _) rfl rfl (by simp; omega) (by omega) (fun _ h => by cases h) o1 HO1.out).mono ?_
      rintro e7 w7 ⟨v7, rfl, ho7, hb7⟩
      have hB7 : Below w.heap.size w w7 := hbk.trans (hb7.mono sK)
      have HO7 := Lib.hid ho7
      clear hb7 ho7
      rcases o1 with _ | l1
      · have HM2 := Lib.hid (show leastK cat same apart (m + 1) (cat.length + 1 - (m + 1)) = O by
          have := HM.out
          rw [HT.out, leastK_none HO1.out.symm] at this
          rw [HT2.out]; exact this)
        clear HM HO1 HO7
        go_wp2
        go_roundw
        case rel => exact ⟨m + 1, by omega, by go_num, HM2, hB7⟩
        case measure => simp [intOf]; omega
      · have HOL := Lib.hid (HO7.out l1 rfl)
        have HOO := Lib.hid (show O = some l1 by
          have := HM.out
          rw [HT.out, leastK_some HO1.out.symm] at this
          exact this.symm)
        obtain rfl : V = true := by rw [HV.out, HOO.out]; rfl
        obtain rfl : X = l1 := by rw [HX.out, HOO.out]; rfl
        clear HM HO1 HO7 HV HX
        go_wp2
        go_ret2
        exact ⟨_, rfl, HOL.out.mono (by omega) (Nat.le_refl _), hB7⟩
    · have nM : ¬ (m : Int) ≤ (cat.length : Int) := by omega
      have HOO := Lib.hid (show O = none by
        have := HM.out
        rw [show cat.length + 1 - m = 0 by omega] at this
        exact this.symm)
      obtain rfl : V = false := by rw [HV.out, HOO.out]; rfl
      obtain rfl : X = [] := by rw [HX.out, HOO.out]; rfl
      clear HM HV HX
      go_wp2
      go_ret2
      exact ⟨_, rfl, Ow.nil _ _ _, hbk⟩
end Go.Proofs.Ytlfpnncjdoaelaa
