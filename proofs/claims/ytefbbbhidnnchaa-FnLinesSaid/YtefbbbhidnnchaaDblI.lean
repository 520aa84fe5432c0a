/- Contract of DoubleLines (impl). -/
import Derived.Test.YtefbbbhidnnchaaZ14R
import Derived.Test.YtefbbbhidnnchaaGll
import Derived.Test.YtefbbbhidnnchaaPMap
namespace Go.Proofs.Ytefbbbhidnnchaa
set_option linter.unusedVariables false
set_option linter.unusedSimpArgs false
open Go.RowKit

def keysI (ps : List Per) (k : Nat) : List (Int × Int) := (dkeys ps k).map fun p => ((p.1 : Int), (p.2 : Int))
def keyI (ps : List Per) (p : Nat) : Int × Int := ((fo ps 1 p : Int), (fo ps 2 p : Int))
theorem keysI_mem {ps : List Per} {k p : Nat} : keyI ps p ∈ keysI ps k ↔ dkey ps p ∈ dkeys ps k := by
  unfold keysI keyI
  rw [List.mem_map]
  constructor
  · rintro ⟨q, h1, h2⟩
    simp only [Prod.mk.injEq] at h2
    have : q = dkey ps p := by unfold dkey; exact Prod.ext (by omega) (by omega)
    exact this ▸ h1
  · intro h; exact ⟨_, h, rfl⟩
theorem keysI_len (ps : List Per) (k : Nat) : (keysI ps k).length = (dls ps k).length := by unfold keysI dls; simp
theorem keysI_new {ps : List Per} {k : Nat} (h : dfirst ps k = true) : keysI ps (k + 1) = keysI ps k ++ [keyI ps k] := by
  unfold keysI; rw [dkeys_succ, if_pos h, List.map_append]; rfl
theorem keysI_old {ps : List Per} {k : Nat} (h : ¬ dfirst ps k = true) : keysI ps (k + 1) = keysI ps k := by
  unfold keysI; rw [dkeys_succ, if_neg h, List.append_nil]
theorem dls_len (ps : List Per) (k : Nat) : (dls ps k).length ≤ k := by unfold dls; rw [List.length_map]; exact dkeys_len ps k
/-- The place of the person k's group among those of the persons up to k. -/
theorem place {ps : List Per} {k : Nat} (h : ¬ dfirst ps k = true) : ∃ i : Nat, (keysI ps k)[i]? = some (keyI ps k) ∧ (dkeys ps (k + 1))[i]? = some (dkey ps k) := by
  have hm : dkey ps k ∈ dkeys ps k := by
    rw [dfirst_mem] at h
    simpa using h
  obtain ⟨i, hi, e⟩ := List.getElem_of_mem hm
  refine ⟨i, ?_, ?_⟩
  · unfold keysI keyI
    rw [List.getElem?_map, List.getElem?_eq_getElem hi, e]; rfl
  · rw [dkeys_succ, if_neg h, List.append_nil, List.getElem?_eq_getElem hi, e]
theorem place_new {ps : List Per} {k : Nat} (h : dfirst ps k = true) : (dkeys ps (k + 1))[(dls ps k).length]? = some (dkey ps k) := by
  have : (dls ps k).length = (dkeys ps k).length := by unfold dls; simp
  rw [dkeys_succ, if_pos h, this, List.getElem?_append_right (Nat.le_refl _), Nat.sub_self]; rfl
theorem two0 {w : World} {b : Nat} {c u u2 : Value} (h : w.cell? ⟨b, 0, none⟩ = some c) : ((w.setCell ⟨b, 0, none⟩ u).setCell ⟨b, 1, none⟩ u2).cell? ⟨b, 0, none⟩ = some u := by
  have := cell_setCell _ b 1 0 u2 _ (cell_setCell w b 0 0 u _ h)
  simpa using this
theorem two1 {w : World} {b : Nat} {c u u2 : Value} (h : w.cell? ⟨b, 1, none⟩ = some c) : ((w.setCell ⟨b, 0, none⟩ u).setCell ⟨b, 1, none⟩ u2).cell? ⟨b, 1, none⟩ = some u2 := by
  have := cell_setCell _ b 1 1 u2 _ (cell_setCell w b 0 1 u _ h)
  simpa using this
theorem fo_i64 (n : Nat) (h : n < 1000000) : I64 (n : Int) := by unfold I64; omega
set_option maxRecDepth 20000 in
set_option maxHeartbeats 8000000 in
theorem dblI_any {z : Bool} {lo hi : Nat} (w : World) (v v2 : Value) (f : Fam) (h : Rd z lo hi w [v, v2] f) (V : List (List Int)) (hV : V = dblV f) :
    Calls Try.prog 14 #[.agg #[v, v2]] w (PostOw w V) := by
  obtain ⟨ha, -⟩ := h.fam
  obtain ⟨ao, n, cap, rfl, hn, hnc, hcm, hnone⟩ := ha.shape
  subst hn
  unfold maxLen at *
  obtain ⟨r1, hlet_r1⟩ : ∃ r, r = famB f := ⟨_, rfl⟩
  have H1 := Lib.hid hlet_r1
  clear hlet_r1
  have HV := Lib.hid (show V = if r1 = true then dls f.1 f.1.length else [] by rw [hV, dblV, H1.out])
  clear hV
  have hmm := @run_makeMap Try.prog
  go_enter Try.func14, Try.ntmps14
  go_wp2_with fail
  refine (isFamI_b _ _ _ f (h.below bwT) r1 H1.out).mono ?_
  rintro e1 w1 ⟨rfl, hbw1⟩
  have hpw1 : Below w.heap.size w w1 := Below.after bwT hbw1 szT
  have sw1 := hpw1.size
  have hBw1 : Below w.heap.size w w1 := hpw1
  have l_f : w.heap.size < w1.heap.size := by have := hbw1.size; simp at this; omega
  have q_f0 : w1.cell? ⟨w.heap.size, 0, none⟩ = some (.slice ao f.1.length cap) := oldc hbw1 ltT (by simp [go_sem])
  have q_f1 : w1.cell? ⟨w.heap.size, 1, none⟩ = some (v2) := oldc hbw1 ltT (by simp [go_sem])
  clear hbw1 hpw1
  cases r1
  · have HF := Lib.hid (show V = [] by rw [HV.out]; rfl)
    clear HV h ha H1
    go_wp2
    go_ret
    exact ⟨_, rfl, by rw [HF.out]; exact Ow.nil _ _ _, bwT⟩
  have HF := Lib.hid (show V = dls f.1 f.1.length by rw [HV.out]; rfl)
  obtain ⟨h40, -, hP, -⟩ := famB_facts H1.out.symm
  have HP := Lib.hid hP
  have HFO := Lib.hid (show ∀ k, k < f.1.length → fo f.1 1 k < 1000000 ∧ fo f.1 2 k < 1000000 from fun k hk => by have h1 := fo_lt hP (Nat.le_refl _) 1 k hk; have h2 := fo_lt hP (Nat.le_refl _) 2 k hk; omega)
  clear hP HV h
  obtain ⟨W0, hW0⟩ : ∃ W : World, W = w1 := ⟨_, rfl⟩
  subst hW0
  have hB0 : Below w.heap.size w W0 := hBw1
  have s0 := hB0.size
  obtain ⟨WM, hWM⟩ : ∃ W : World, W = W0.alloc (.map #[] 0) := ⟨_, rfl⟩
  have hbM : Below W0.heap.size W0 WM := by rw [hWM]; exact (Below.refl _ _).alloc (Nat.le_refl _) _
  have HPM := Lib.hid (show PMap WM W0.heap.size 0 (keysI f.1 0) by rw [hWM]; exact PMap.made W0)
  have sM : WM.heap.size = W0.heap.size + 1 := by rw [hWM]; simp
  have q_f0 := oldc hbM l_f q_f0
  have q_f1 := oldc hbM l_f q_f1
  go_upto_region 5 with fail
  rw [← hWM]
  clear hWM
  go_wp2
  go_loopw [3, 5, 6, 7, 8, 16] (fun s3 _ _ _ _ s16 wr => ∃ (k : Nat) (vv : Value), k ≤ f.1.length ∧ s16 = .int .i64 k ∧ vv = s3 ∧ Hid (GLL 30 3 WM.heap.size wr vv (dls f.1 k)) ∧ Hid (PMap wr W0.heap.size k (keysI f.1 k)) ∧ Below W0.heap.size WM wr ∧ WM.heap.size ≤ wr.heap.size) (fun _ _ _ _ _ s16 _ => f.1.length - (intOf s16).toNat)
  case atStart => exact ⟨0, _, Nat.zero_le _, rfl, rfl, Lib.hid (GLL.nil _ _ _ _), HPM, Below.refl _ _, Nat.le_refl _⟩
  case round =>
    clear HPM
    obtain ⟨wb, hwb⟩ : ∃ wm : World, wm = wr := ⟨_, rfl⟩
    subst hwb
    obtain ⟨k, vv, hk, rfl, rfl, HG, HPM, hbb, sb⟩ := hrel
    have q_f0 := oldc hbb l_f q_f0
    have q_f1 := oldc hbb l_f q_f1
    have l_fb : w.heap.size < wb.heap.size := by omega
    have hBb : Below w.heap.size w wb := hB0.trans ((hbM.mono s0).trans (hbb.mono s0))
    by_cases hlt : k < f.1.length
    · have hI : (k : Int) < (f.1.length : Int) := by omega
      obtain ⟨a, hlet_a⟩ : ∃ r, r = fo f.1 1 k := ⟨_, rfl⟩
      have HK1 := Lib.hid hlet_a
      clear hlet_a
      obtain ⟨b, hlet_b⟩ : ∃ r, r = fo f.1 2 k := ⟨_, rfl⟩
      have HK2 := Lib.hid hlet_b
      clear hlet_b
      have HA := Lib.hid (ha.below hBb)
      have HAB := Lib.hid (show I64 (a : Int) ∧ I64 (b : Int) by rw [HK1.out, HK2.out]; exact ⟨fo_i64 _ (HFO.out k hlt).1, fo_i64 _ (HFO.out k hlt).2⟩)
      have HKI := Lib.hid (show keyI f.1 k = ((a : Int), (b : Int)) by rw [HK1.out, HK2.out]; rfl)
      go_upto_region 8 with fail
      go_cut [6] (fun s6 wx => ∃ b6 : Nat, s6 = .pointer (some ⟨b6, 0, none⟩) ∧ wb.heap.size ≤ b6 ∧ b6 < wx.heap.size ∧ wx.cell? ⟨b6, 0, none⟩ = some (.int .i64 a) ∧ wx.cell? ⟨b6, 1, none⟩ = some (.int .i64 b) ∧ Below wb.heap.size wb wx)
      case first =>
        clear HG HPM
        refine wp_region_held_drew (S := (fun w' => w'.cell? ⟨w.heap.size, 0, none⟩ = some (.slice ao f.1.length cap) ∧ w'.cell? ⟨w.heap.size, 1, none⟩ = some v2)) (by kernel_rfl) ?_ (fun hHeld => ?_)
        · first | exact trivial | ((try dsimp only); go_keep)
        refine tkR 0 (v := ?_) ?_ ?_
        rotate_left
        · intro w hSw; (try dsimp only at hSw); go_simp <;> with_reducible rfl
        try simp only [Act.put, List.setIfInBounds_toArray, List.set_cons_zero, List.set_cons_succ]
        refine tkR 1 (v := ?_) ?_ ?_
        rotate_left
        · intro w hSw; (try dsimp only at hSw); go_simp <;> with_reducible rfl
        try simp only [Act.put, List.setIfInBounds_toArray, List.set_cons_zero, List.set_cons_succ]
        refine tkR 3 (v := ?_) ?_ ?_
        rotate_left
        · intro w hSw; (try dsimp only at hSw); go_simp <;> with_reducible rfl
        try simp only [Act.put, List.setIfInBounds_toArray, List.set_cons_zero, List.set_cons_succ]
        refine tkR 4 (v := ?_) ?_ ?_
        rotate_left
        · intro w hSw; (try dsimp only at hSw); go_simp <;> with_reducible rfl
        try simp only [Act.put, List.setIfInBounds_toArray, List.set_cons_zero, List.set_cons_succ]
        refine wpAnyH_ready (rs := [2, 7]) (by kernel_rfl) (by simp) ?_
        refine rdR (fun K hK => ?_) ?_
        · go_simp
          refine (founder_any _ 1 _ _ f.1 (HA.out.below ?b0) HP.out k hlt).mono ?_
          case b0 => exact bwT
          rw [← HK1.out]
          rintro ea wa ⟨rfl, hba⟩
          have hpa : Below wb.heap.size wb wa := Below.trans (show Below wb.heap.size wb _ from bwT) (hba.mono szT)
          have sa := hpa.size
          have hSa := And.intro (oldc hpa l_fb q_f0) (oldc hpa l_fb q_f1)
          clear hba
          refine hK.out _ _ ?_ (fun hHeld => ?_)
          · exact kpT
          clear hK K
          try simp only [Act.put, List.setIfInBounds_toArray, List.set_cons_zero, List.set_cons_succ]
          refine wpAnyH_ready (rs := [5, 7]) (by kernel_rfl) (by simp) ?_
          refine rdR (fun K hK => ?_) ?_
          · go_simp
            refine (founder_any _ 2 _ _ f.1 (HA.out.below ?b0) HP.out k hlt).mono ?_
            case b0 => exact bwT
            rw [← HK2.out]
            rintro ec wc' ⟨rfl, hbc⟩
            have hpc : Below wb.heap.size wb wc' := Below.trans (show Below wb.heap.size wb _ from bwT) (hbc.mono szT)
            have sc := hpc.size
            have hSc := And.intro (oldc hpc l_fb q_f0) (oldc hpc l_fb q_f1)
            clear hbc
            refine hK.out _ _ ?_ (fun hHeld => ?_)
            · exact kpT
            clear hK K
            try simp only [Act.put, List.setIfInBounds_toArray, List.set_cons_zero, List.set_cons_succ]
            refine tkR 6 (v := ?_) ?_ ?_
            rotate_left
            · intro w hSw; (try dsimp only at hSw); go_simp <;> with_reducible rfl
            try simp only [Act.put, List.setIfInBounds_toArray, List.set_cons_zero, List.set_cons_succ]
            refine wpAnyH_ready (rs := [7]) (by kernel_rfl) (by simp) ?_
            refine rdR (fun K hK => ?_) ?_
            · go_simp
              refine hK.out _ _ ?_ (fun hHeld => ?_)
              · exact kpT
              clear hK K
              try simp only [Act.put, List.setIfInBounds_toArray, List.set_cons_zero, List.set_cons_succ]
              refine wpAnyH_ready (rs := [8]) (by kernel_rfl) (by simp) ?_
              refine rdR (fun K hK => ?_) ?_
              · go_simp
                refine hK.out _ _ ?_ (fun hHeld => ?_)
                · exact kpT
                clear hK K
                try simp only [Act.put, List.setIfInBounds_toArray, List.set_cons_zero, List.set_cons_succ]
                refine wpAnyH_done (by kernel_rfl) ?_ _
                clear hHeld
                go_wp2_with fail
                go_meet
                exact ⟨_, rfl, by omega, by simp, by simp [go_sem], by simp [go_sem], bwT⟩
              exact AllReadyH.nil
            exact AllReadyH.nil
          refine rdR (fun K hK => ?_) ?_
          · go_simp
            refine hK.out _ _ ?_ (fun hHeld => ?_)
            · exact kpT
            clear hK K
            try simp only [Act.put, List.setIfInBounds_toArray, List.set_cons_zero, List.set_cons_succ]
            refine wpAnyH_ready (rs := [5]) (by kernel_rfl) (by simp) ?_
            refine rdR (fun K hK => ?_) ?_
            · go_simp
              refine (founder_any _ 2 _ _ f.1 (HA.out.below ?b0) HP.out k hlt).mono ?_
              case b0 => exact bwT
              rw [← HK2.out]
              rintro ec wc' ⟨rfl, hbc⟩
              have hpc : Below wb.heap.size wb wc' := Below.trans (show Below wb.heap.size wb _ from bwT) (hbc.mono szT)
              have sc := hpc.size
              have hSc := And.intro (oldc hpc l_fb q_f0) (oldc hpc l_fb q_f1)
              have y0 : wc'.cell? ⟨wa.heap.size, 0, none⟩ = some (.int .i64 0) := oldc hbc (by simp) (by simp [go_sem])
              have y1 : wc'.cell? ⟨wa.heap.size, 1, none⟩ = some (.int .i64 0) := oldc hbc (by simp) (by simp [go_sem])
              have yf : ∀ o, wc'.frozen? ⟨wa.heap.size, o, none⟩ = false := fun o => (hbc.frozen (p := ⟨wa.heap.size, o, none⟩) (by simp)).trans (by simp [go_sem])
              have yl : wa.heap.size < wc'.heap.size := by have := hbc.size; simp at this; omega
              clear hbc
              refine hK.out _ _ ?_ (fun hHeld => ?_)
              · exact kpT
              clear hK K
              try simp only [Act.put, List.setIfInBounds_toArray, List.set_cons_zero, List.set_cons_succ]
              refine tkR 6 (v := ?_) ?_ ?_
              rotate_left
              · intro w hSw; (try dsimp only at hSw); go_simp <;> with_reducible rfl
              try simp only [Act.put, List.setIfInBounds_toArray, List.set_cons_zero, List.set_cons_succ]
              refine wpAnyH_ready (rs := [8]) (by kernel_rfl) (by simp) ?_
              refine rdR (fun K hK => ?_) ?_
              · go_simp
                refine hK.out _ _ ?_ (fun hHeld => ?_)
                · exact kpT
                clear hK K
                try simp only [Act.put, List.setIfInBounds_toArray, List.set_cons_zero, List.set_cons_succ]
                refine wpAnyH_done (by kernel_rfl) ?_ _
                clear hHeld
                go_wp2_with fail
                go_meet
                exact ⟨_, rfl, by omega, by simp; exact yl, two0 y0, two1 y1, (hpc.setCell (p := ⟨wa.heap.size, 0, none⟩) (by show _ ≤ wa.heap.size; omega) _).setCell (p := ⟨wa.heap.size, 1, none⟩) (by show _ ≤ wa.heap.size; omega) _⟩
              exact AllReadyH.nil
            exact AllReadyH.nil
          exact AllReadyH.nil
        refine rdR (fun K hK => ?_) ?_
        · go_simp
          refine hK.out _ _ ?_ (fun hHeld => ?_)
          · exact kpT
          clear hK K
          try simp only [Act.put, List.setIfInBounds_toArray, List.set_cons_zero, List.set_cons_succ]
          refine wpAnyH_ready (rs := [2]) (by kernel_rfl) (by simp) ?_
          refine rdR (fun K hK => ?_) ?_
          · go_simp
            refine (founder_any _ 1 _ _ f.1 (HA.out.below ?b0) HP.out k hlt).mono ?_
            case b0 => exact bwT
            rw [← HK1.out]
            rintro ea wa ⟨rfl, hba⟩
            have hpa : Below wb.heap.size wb wa := Below.trans (show Below wb.heap.size wb _ from bwT) (hba.mono szT)
            have sa := hpa.size
            have hSa := And.intro (oldc hpa l_fb q_f0) (oldc hpa l_fb q_f1)
            have y0 : wa.cell? ⟨wb.heap.size, 0, none⟩ = some (.int .i64 0) := oldc hba (by simp) (by simp [go_sem])
            have y1 : wa.cell? ⟨wb.heap.size, 1, none⟩ = some (.int .i64 0) := oldc hba (by simp) (by simp [go_sem])
            have yf : ∀ o, wa.frozen? ⟨wb.heap.size, o, none⟩ = false := fun o => (hba.frozen (p := ⟨wb.heap.size, o, none⟩) (by simp)).trans (by simp [go_sem])
            have yl : wb.heap.size < wa.heap.size := by have := hba.size; simp at this; omega
            clear hba
            refine hK.out _ _ ?_ (fun hHeld => ?_)
            · exact kpT
            clear hK K
            try simp only [Act.put, List.setIfInBounds_toArray, List.set_cons_zero, List.set_cons_succ]
            refine wpAnyH_ready (rs := [5]) (by kernel_rfl) (by simp) ?_
            refine rdR (fun K hK => ?_) ?_
            · go_simp
              refine (founder_any _ 2 _ _ f.1 (HA.out.below ?b0) HP.out k hlt).mono ?_
              case b0 => exact bwT
              rw [← HK2.out]
              rintro ec wc' ⟨rfl, hbc⟩
              have hpc : Below wb.heap.size wb wc' := Below.trans (show Below wb.heap.size wb _ from bwT) (hbc.mono szT)
              have sc := hpc.size
              have hSc := And.intro (oldc hpc l_fb q_f0) (oldc hpc l_fb q_f1)
              have y0 := oldc hbc yl y0
              have y1 := oldc hbc yl y1
              have yf : ∀ o, wc'.frozen? ⟨wb.heap.size, o, none⟩ = false := fun o => (hbc.frozen (p := ⟨wb.heap.size, o, none⟩) yl).trans (yf o)
              have yl := Nat.lt_of_lt_of_le yl hbc.size
              clear hbc
              refine hK.out _ _ ?_ (fun hHeld => ?_)
              · exact kpT
              clear hK K
              try simp only [Act.put, List.setIfInBounds_toArray, List.set_cons_zero, List.set_cons_succ]
              refine tkR 6 (v := ?_) ?_ ?_
              rotate_left
              · intro w hSw; (try dsimp only at hSw); go_simp <;> with_reducible rfl
              try simp only [Act.put, List.setIfInBounds_toArray, List.set_cons_zero, List.set_cons_succ]
              refine wpAnyH_ready (rs := [8]) (by kernel_rfl) (by simp) ?_
              refine rdR (fun K hK => ?_) ?_
              · go_simp
                refine hK.out _ _ ?_ (fun hHeld => ?_)
                · exact kpT
                clear hK K
                try simp only [Act.put, List.setIfInBounds_toArray, List.set_cons_zero, List.set_cons_succ]
                refine wpAnyH_done (by kernel_rfl) ?_ _
                clear hHeld
                go_wp2_with fail
                go_meet
                exact ⟨_, rfl, Nat.le_refl _, by simp; exact yl, two0 y0, two1 y1, (hpc.setCell (p := ⟨wb.heap.size, 0, none⟩) (Nat.le_refl _) _).setCell (p := ⟨wb.heap.size, 1, none⟩) (Nat.le_refl _) _⟩
              exact AllReadyH.nil
            exact AllReadyH.nil
          exact AllReadyH.nil
        exact AllReadyH.nil
      case rest =>
        obtain ⟨b6, rfl, hb6, hb6l, z0, z1, hbX⟩ := hcut
        obtain ⟨w1, hw1⟩ : ∃ W : World, W = wc := ⟨_, rfl⟩
        subst hw1
        have s1 := hbX.size
        have HG1 := Lib.hid (HG.out.below hbX)
        have HPM1 := Lib.hid (HPM.out.below hbX)
        have hb1 : Below W0.heap.size WM w1 := hbb.trans (hbX.mono (by omega))
        clear HG HPM HA hbX
        have hdl := dls_len f.1 k
        obtain ⟨ok, hok⟩ : ∃ ok, ok = !dfirst f.1 k := ⟨_, rfl⟩
        obtain ⟨i0, hi1, hi2, hi3⟩ : ∃ i0 : Nat, (ok = true → (keysI f.1 k)[i0]? = some ((a : Int), (b : Int))) ∧ (ok = false → ((a : Int), (b : Int)) ∉ keysI f.1 k ∧ i0 = 0) ∧ (ok = true → (dkeys f.1 (k + 1))[i0]? = some (dkey f.1 k)) := by
          cases hf : dfirst f.1 k with
          | true =>
            rw [hf] at hok
            refine ⟨0, (fun h => by rw [hok] at h; cases h), (fun _ => ⟨fun hm => ?_, rfl⟩), (fun h => by rw [hok] at h; cases h)⟩
            rw [← HKI.out, keysI_mem] at hm
            rw [dfirst_mem] at hf
            simp at hf
            exact hf hm
          | false =>
            obtain ⟨i0, h1, h2⟩ := place (ps := f.1) (k := k) (by rw [hf]; simp)
            rw [hf] at hok
            exact ⟨i0, fun _ => by rw [← HKI.out]; exact h1, fun h => (by rw [hok] at h; cases h), fun _ => h2⟩
        have HI1 := Lib.hid hi1
        have HI2 := Lib.hid hi2
        have HI3 := Lib.hid hi3
        have HOK := Lib.hid hok
        clear hi1 hi2 hi3 hok
        go_upto_if 33 with (at_lookup; refine wpList_pmap_look rfl rfl Try.underlying62 rfl HPM1.out (p := ((a : Int), (b : Int))) rfl HAB.out.1 HAB.out.2 ok i0 HI1.out HI2.out ?_)
        go_cut [3, 7] (fun s3 s7 wx => ∃ (i : Nat) (vv : Value), vv = s3 ∧ s7 = .int .i64 i ∧ Hid ((dkeys f.1 (k + 1))[i]? = some (dkey f.1 k)) ∧ Hid (GLL 30 3 WM.heap.size wx vv (dmid f.1 k)) ∧ Hid (PMap wx W0.heap.size (k + 1) (keysI f.1 (k + 1))) ∧ Below W0.heap.size WM wx ∧ WM.heap.size ≤ wx.heap.size)
        case first =>
          cases ok
          · have HDF := Lib.hid (show dfirst f.1 k = true by have := HOK.out; simpa using this)
            have HNI := Lib.hid (HI2.out rfl).1
            obtain ⟨ra, rcap, rfl, -, -⟩ := HG1.out.len
            have HLE := Lib.hid (keysI_len f.1 k)
            go_upto_region 13 with (at_mapUpdate; refine wpList_pmap_put rfl rfl Try.underlying62 rfl HPM1.out (by unfold maxLen; omega) (p := ((a : Int), (b : Int))) rfl HAB.out.1 HAB.out.2 HNI.out (by have := HLE.out; omega) (by rw [HLE.out]; rfl) ?_; intro w2 hP2 hg2)
            have s2 := hg2.size
            have hG2 := HG1.out.keep (w' := w2) fun b h1 h2 => hg2.block b h2 (fun e => by simp only [Option.some.injEq] at e; omega)
            obtain ⟨wn, hwn⟩ : ∃ W : World, W = w2.alloc (.cells #[.slice none 0 0] 30) := ⟨_, rfl⟩
            have sn : wn.heap.size = w2.heap.size + 1 := by rw [hwn]; simp
            have hbn : Below w2.heap.size w2 wn := by rw [hwn]; exact (Below.refl _ _).alloc (Nat.le_refl _) _
            have hcell : wn.cell? ⟨w2.heap.size, 0, none⟩ = some (.slice none 0 0) := by rw [hwn]; simp [go_sem]
            obtain ⟨cs, h1, h2, h3⟩ := hG2.below hbn
            have hcl : cs.length = (dls f.1 k).length := by simpa using h1.1
            have hbo : some W0.heap.size ≠ (Value.slice ra (dls f.1 k).length rcap).ownBlock := fun e => by have := (HG1.out.lt e.symm).1; omega
            have HP2 := Lib.hid (show PMap wn W0.heap.size (k + 1) (keysI f.1 (k + 1)) by
              rw [keysI_new HDF.out, HKI.out]
              exact hP2.below hbn)
            have HR1 := Lib.hid h1
            have HWN := Lib.hid hwn
            clear HG1 HPM1 hG2 hwn hP2 h1
            go_wp2_with (at_builtin; rw [← HWN.out]; refine wpList_vpush rfl rfl slInts HR1.out rfl (ad := ⟨w2.heap.size, 0, none⟩) rfl hcell rfl (by unfold maxLen; omega) (by omega) (by omega) ?_)
            intro v3 w3 ho3 hg3 hv3
            have s3 := hg3.size
            have HG3 := Lib.hid (show GLL 30 3 WM.heap.size w3 v3 (dmid f.1 k) by rw [dmid_eq, if_pos HDF.out]; exact GLL.snoc h2 h3 hcl (by first | exact ho3 | (rw [sM]; exact ho3)) hg3 (by first | exact hv3 | (rw [sn]; exact hv3)))
            have HP3 := Lib.hid (HP2.out.keepb (w' := w3) (hg3.block W0.heap.size (by omega) hbo))
            have hb3 : Below W0.heap.size WM w3 := by
              have h1 : Below W0.heap.size WM w2 := hb1.grown hg2 (by omega) (fun g hg => by simp only [Option.some.injEq] at hg; omega)
              have h2 : Below W0.heap.size WM wn := h1.trans (hbn.mono (by omega))
              exact h2.grown hg3 (by omega) (fun g hg => by have := (HR1.out.lt g hg).1; omega)
            have HPL := Lib.hid (place_new HDF.out)
            clear ho3 hg3 hv3 h2 h3 HP2 HR1 HWN
            go_wp2_with fail
            go_meet
            exact ⟨(dls f.1 k).length, v3, rfl, rfl, HPL, HG3, HP3, hb3, by omega⟩
          · have HDF := Lib.hid (show ¬ dfirst f.1 k = true by have := HOK.out; simp at this; simp [this])
            have HG2 := Lib.hid (show GLL 30 3 WM.heap.size w1 vv (dmid f.1 k) by rw [dmid_eq, if_neg HDF.out, List.append_nil]; exact HG1.out)
            have HP2 := Lib.hid (show PMap w1 W0.heap.size (k + 1) (keysI f.1 (k + 1)) by
              rw [keysI_old HDF.out]
              obtain ⟨h1, hl, D, h2, h3⟩ := HPM1.out
              exact ⟨h1, hl, D, h2.mono (by omega), h3⟩)
            have HI4 := Lib.hid (HI3.out rfl)
            clear HG1 HPM1 HI3 HI1 HI2
            go_wp2_with fail
            go_meet
            exact ⟨i0, vv, rfl, rfl, HI4, HG2, HP2, hb1, by omega⟩
        case rest =>
          clear HG1 HPM1 HI1 HI2 HI3 HOK hb1
          obtain ⟨i, vv, rfl, rfl, HI, HG, HPM, hb4, s4⟩ := hcut
          obtain ⟨w4, hw4⟩ : ∃ W : World, W = wc := ⟨_, rfl⟩
          subst hw4
          obtain ⟨l, hl⟩ : ∃ l, l = dgrp f.1 (dkey f.1 k) k := ⟨_, rfl⟩
          have hat := dmid_at HI.out
          have hst := dls_step HI.out
          rw [← hl] at hat hst
          have hll : l.length ≤ k := by rw [hl]; exact dgrp_len _ _ _
          have hil : i < (dmid f.1 k).length := (List.getElem?_eq_some_iff.1 hat).1
          have hdm : (dmid f.1 k).length ≤ 41 := by
            unfold dmid; rw [List.length_map]
            have := dkeys_len f.1 (k + 1); omega
          have hiI : (i : Int) < ((dmid f.1 k).length : Int) := by omega
          obtain ⟨g, rcap, rfl, hg1, hg2⟩ := HG.out.form (by omega)
          obtain ⟨c, hc, hfz, hrow, hcg, happ⟩ := HG.out.item hat
          obtain ⟨ca, ccap, hcv, hcl2⟩ : ∃ ca ccap, c = .slice ca l.length ccap ∧ l.length ≤ ccap := by
            rcases hrow.2 with ⟨h, h0⟩ | ⟨g', cap', cur, h, _, _, h4, _⟩
            · exact ⟨none, 0, by rw [h, h0], by omega⟩
            · exact ⟨_, cap', h, h4⟩
          subst hcv
          obtain ⟨wn, hwn⟩ : ∃ W : World, W = w4.alloc (.cells #[.int .i64 k] 3) := ⟨_, rfl⟩
          have sn : wn.heap.size = w4.heap.size + 1 := by rw [hwn]; simp
          have hbn : Below w4.heap.size w4 wn := by rw [hwn]; exact (Below.refl _ _).alloc (Nat.le_refl _) _
          have hcell : wn.cell? ⟨w4.heap.size, 0, none⟩ = some (.int .i64 k) := by rw [hwn]; simp [go_sem]
          have HROW := Lib.hid (row_keep (w' := wn) hrow fun b e => hbn.block b (hrow.lt b e).2)
          have HLT := Lib.hid (fun b (e : (Value.slice ca l.length ccap).ownBlock = some b) => hrow.lt b e)
          have HAPP := Lib.hid happ
          have HWN := Lib.hid hwn
          have HST := Lib.hid hst
          have HCG := Lib.hid hcg
          clear happ hrow hwn hat hst hcg HG HI hl
          go_wp2_with (at_builtin; rw [← HWN.out]; refine wpList_vpush rfl rfl slInt HROW.out rfl (ad := ⟨w4.heap.size, 0, none⟩) rfl hcell rfl (by unfold maxLen; omega) (by omega) (by omega) ?_)
          intro c2 w5 ho5 hg5 hv5
          have ho5 : w5.ownsRow WM.heap.size 3 1 c2 (l.length + 1) (ints1 (l ++ [(k : Int)])) := by
            unfold ints1; rw [List.map_append]
            first | exact ho5 | (rw [sM]; exact ho5)
          have hv5 : c2.ownBlock = (Value.slice ca l.length ccap).ownBlock ∨ c2.ownBlock = some wn.heap.size := by first | exact hv5 | (rw [sn]; exact hv5)
          obtain ⟨g5, cap5, hc2v⟩ : ∃ g5 cap5, c2 = .slice (some ⟨g5, 0, none⟩) (l.length + 1) cap5 := by
            rcases ho5.2 with ⟨h, h0⟩ | ⟨g', cap', cur, h, _⟩
            · omega
            · exact ⟨g', cap', h⟩
          subst hc2v
          have s5 := hg5.size
          have hne : some g ≠ (Value.slice ca l.length ccap).ownBlock := fun e => HCG.out e.symm
          have x5 : w5.cell? ⟨g, i, none⟩ = _ := (World.cell?_of_block (w := w4) (a := ⟨g, i, none⟩) ((hg5.block g (by omega) hne).trans (hbn.block g hg2))).trans hc
          have f5 : w5.frozen? ⟨g, i, none⟩ = false := (World.frozen?_of_block (w := w4) (a := ⟨g, i, none⟩) ((hg5.block g (by omega) hne).trans (hbn.block g hg2))).trans hfz
          have HG6 := Lib.hid (show GLL 30 3 WM.heap.size (w5.setCell ⟨g, i, none⟩ (.slice (some ⟨g5, 0, none⟩) (l.length + 1) cap5)) (.slice (some ⟨g, 0, none⟩) (dmid f.1 k).length rcap) (dls f.1 (k + 1)) by
            rw [HST.out]
            exact HAPP.out wn w5 _ (k : Int) (fun b _ h => hbn.block b h) (by omega) hg5 ho5 (by unfold I64; omega) hv5)
          have hbo : some W0.heap.size ≠ (Value.slice ca l.length ccap).ownBlock := fun e => by have := (HLT.out _ e.symm).1; omega
          have HP6 := Lib.hid (HPM.out.keepb (w' := w5.setCell ⟨g, i, none⟩ (.slice (some ⟨g5, 0, none⟩) (l.length + 1) cap5)) ((Below.heap_setCell w5 ⟨g, i, none⟩ _ W0.heap.size (by show W0.heap.size ≠ g; omega)).trans ((hg5.block W0.heap.size (by omega) hbo).trans (hbn.block W0.heap.size (by omega)))))
          have hb6' : Below W0.heap.size WM (w5.setCell ⟨g, i, none⟩ (.slice (some ⟨g5, 0, none⟩) (l.length + 1) cap5)) := by
            have h2 : Below W0.heap.size WM wn := hb4.trans (hbn.mono (by omega))
            have h3 : Below W0.heap.size WM w5 := h2.grown hg5 (by omega) (fun b e => by have := (HLT.out b e).1; omega)
            exact h3.setCell (p := ⟨g, i, none⟩) (by show W0.heap.size ≤ g; omega) _
          have HCL := Lib.hid (show (dmid f.1 k).length = (dls f.1 (k + 1)).length by rw [HST.out]; simp)
          clear ho5 hg5 hv5 HAPP HROW HWN HPM HLT HCG
          go_wp2
          go_roundw
          case rel => exact ⟨k + 1, _, by omega, by go_num, rfl, HG6, HP6, hb6', by simp; omega⟩
          case measure => simp [intOf]; omega
    · have hnI : ¬ (k : Int) < (f.1.length : Int) := by omega
      obtain rfl : k = f.1.length := by omega
      have HO := Lib.hid (show Ow w.heap.size wb.heap.size wb [vv] V by rw [HF.out]; exact HG.out.ow.mono (by omega) (Nat.le_refl _))
      clear HG HPM
      go_wp2
      go_ret
      exact ⟨_, rfl, HO.out, hBb⟩
end Go.Proofs.Ytefbbbhidnnchaa
