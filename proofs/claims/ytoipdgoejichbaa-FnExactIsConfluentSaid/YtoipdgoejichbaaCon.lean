/- Contracts of IsConfluent (both). -/
import Derived.Test.YtoipdgoejichbaaNfsI
import Derived.Test.YtoipdgoejichbaaTrmC
import Derived.Test.YtoipdgoejichbaaTrmA
namespace Go.Proofs.Ytoipdgoejichbaa
set_option linter.unusedVariables false
set_option linter.unusedSimpArgs false
open Go.RowKit

def conf1 (rs : List Rul) (t : Kin) : Bool := match nfB rs 500 502 0 [t] [] with
  | some l => decide (l.length = 1)
  | none => false
def confE (rs : List Rul) (n e : Int) : Bool := (typesX e n).all (conf1 rs)
def confX (rs : List Rul) (n : Int) : Bool := areRules rs && (decide (1 ≤ n ∧ n ≤ 3) && (confE rs n 1 && confE rs n 2))
theorem confX_no {rs : List Rul} {n : Int} {k : Nat} (hk : k = 1 ∨ k = 2) (h : confE rs n k = false) : confX rs n = false := by
  unfold confX
  rcases hk with rfl | rfl
  · have h1 : confE rs n 1 = false := h
    rw [h1]; simp
  · have h1 : confE rs n 2 = false := h
    rw [h1]; simp
theorem confE_no {rs : List Rul} {n e : Int} {t : Kin} {j : Nat} (h : (typesX e n)[j]? = some t) (ht : conf1 rs t = false) : confE rs n e = false := by
  unfold confE
  rw [List.all_eq_false]
  exact ⟨t, List.mem_of_getElem? h, by rw [ht]; simp⟩
theorem conf1_none {rs : List Rul} {t : Kin} (h : nfB rs 500 502 0 [t] [] = none) : conf1 rs t = false := by unfold conf1; rw [h]
theorem conf1_some {rs : List Rul} {t : Kin} {l : List Kin} (h : nfB rs 500 502 0 [t] [] = some l) : conf1 rs t = decide (l.length = 1) := by unfold conf1; rw [h]
theorem all_take {T : List Kin} {p : Kin → Bool} {j : Nat} {t : Kin} (h : T[j]? = some t) (ha : (T.take j).all p = true) (ht : p t = true) : (T.take (j + 1)).all p = true := by
  rw [take_snoc h, List.all_append, ha]; simp [ht]
set_option maxRecDepth 20000 in
set_option maxHeartbeats 8000000 in
theorem confI_b {z : Bool} {lo hi : Nat} (w : World) (v : Value) (rs : List Rul) (n : Int) (h : Rd z lo hi w [v] rs) (R : Bool) (hR : R = confX rs n) :
    Calls Try.prog 10 #[v, .int .i64 n] w (PostB w R) := by
  have HRd := Lib.hid h
  have HR := Lib.hid hR
  obtain ⟨va, vn, vcap, rfl, -⟩ := h.shape
  obtain ⟨a, ha⟩ : ∃ a, a = areRules rs := ⟨_, rfl⟩
  have HA := Lib.hid ha
  clear h hR ha
  go_enter Try.func10, Try.ntmps10
  go_wp2_with fail
  refine (areRulesI_b _ _ rs HRd.out a HA.out).mono ?_
  rintro e1 w1 ⟨rfl, hb1⟩
  have hB1 : Below w.heap.size w w1 := hb1
  clear hb1
  cases a
  · have HF := Lib.hid (show R = false by rw [HR.out]; unfold confX; rw [← HA.out]; rfl)
    go_wp2
    go_ret
    exact ⟨ret_bool HF.out.symm, hB1⟩
  · have HRS := Lib.hid (areRules_facts HA.out.symm)
    have hrl : rs.length ≤ 12 := HRS.out.1
    have hB2 := hB1
    obtain ⟨w2, hw2⟩ : ∃ W : World, W = w1 := ⟨_, rfl⟩
    subst hw2
    clear hB1
    by_cases hn1 : n < 1
    · have HF := Lib.hid (show R = false by rw [HR.out]; unfold confX; rw [decide_eq_false (by omega : ¬ (1 ≤ n ∧ n ≤ 3))]; simp)
      go_wp2
      go_ret
      exact ⟨ret_bool HF.out.symm, hB2⟩
    by_cases hn3 : 3 < n
    · have HF := Lib.hid (show R = false by rw [HR.out]; unfold confX; rw [decide_eq_false (by omega : ¬ (1 ≤ n ∧ n ≤ 3))]; simp)
      go_wp2
      go_ret
      exact ⟨ret_bool HF.out.symm, hB2⟩
    have HN := Lib.hid (show 1 ≤ n ∧ n ≤ 3 by omega)
    have s2 := hB2.size
    go_wp2
    go_loopw [4, 5, 7, 8, 9] (fun _ s5 _ _ _ wl => ∃ k : Nat, 1 ≤ k ∧ k ≤ 3 ∧ s5 = .int .i64 k ∧ Hid (∀ e : Nat, 1 ≤ e → e < k → confE rs n e = true) ∧ Below w.heap.size w wl) (fun _ s5 _ _ _ _ => 3 - (intOf s5).toNat)
    case atStart => exact ⟨1, Nat.le_refl _, by omega, rfl, Lib.hid (fun e h1 h2 => by omega), hB2⟩
    case round =>
      clear hB2 s2
      obtain ⟨wl, hwl⟩ : ∃ x : World, x = wr := ⟨_, rfl⟩
      subst hwl
      obtain ⟨k, hk1, hk3, rfl, hall, hBl⟩ := hrel
      have sl := hBl.size
      by_cases hk2 : k ≤ 2
      · have hI : (k : Int) ≤ 2 := by omega
        have hk : k = 1 ∨ k = 2 := by omega
        go_wp2_with fail
        refine (typesFromI_any _ k n).mono ?_
        obtain ⟨T, hT⟩ : ∃ T, T = typesX (k : Int) n := ⟨_, rfl⟩
        rw [← hT]
        rintro e4 w4 ⟨u4, rfl, ho4, hb4⟩
        obtain ⟨a4, n4, cap4, rfl, hn4, -⟩ := ho4.rd.shape
        subst hn4
        have hTl : T.length ≤ 600 := by rw [hT]; exact typesX_len k n
        have HTK := Lib.hid (show ∀ t ∈ T, isKin t = true by rw [hT]; exact fun t ht => (typesX_kin ht).1)
        have HT := Lib.hid hT
        have HO4 := Lib.hid ho4.rd
        have hB4 : Below w.heap.size w w4 := hBl.trans (hb4.mono sl)
        have s4 := hB4.size
        clear ho4 hb4 hT
        go_wp2
        go_loopw [4, 7, 8, 9, 29] (fun _ _ _ _ s29 wi => ∃ j : Nat, j ≤ T.length ∧ s29 = .int .i64 j ∧ Hid ((T.take j).all (conf1 rs) = true) ∧ Below w4.heap.size w4 wi) (fun _ _ _ _ s29 _ => T.length - (intOf s29).toNat)
        case atStart => exact ⟨0, Nat.zero_le _, rfl, Lib.hid rfl, Below.refl _ _⟩
        case round =>
          obtain ⟨wi, hwi⟩ : ∃ x : World, x = wr := ⟨_, rfl⟩
          subst hwi
          obtain ⟨j, hj, rfl, hA, hbi⟩ := hrel
          have si := hbi.size
          by_cases hlj : j < T.length
          · have hJ : (j : Int) < (T.length : Int) := by omega
            obtain ⟨bt, offt, ⟨te, tl⟩, vt, rfl, hx, k0, k1, -, hrv, hrt, -, -, hbt⟩ := HO4.out.kin_at hlj
            dsimp only at k0 hrv hrt
            obtain ⟨ta, tn, tcap, rfl, -⟩ := hrv.shape
            have k0 := oldc hbi hbt k0
            have k1 := oldc hbi hbt k1
            have HX := Lib.hid (show (typesX (k : Int) n)[j]? = some (te, tl) by rw [← HT.out]; exact hx.out)
            have HXT := Lib.hid hx.out
            have HRT := Lib.hid hrt
            have HKT := Lib.hid (HTK.out _ (List.mem_of_getElem? hx.out))
            obtain ⟨WA, hWA⟩ : ∃ W : World, W = wi.alloc (.cells #[.int .i64 te, .slice ta tn tcap] 36) := ⟨_, rfl⟩
            have hbA0 : Below wi.heap.size wi WA := by rw [hWA]; exact (Below.refl _ _).alloc (Nat.le_refl _) _
            have x0 : WA.cell? ⟨wi.heap.size, 0, none⟩ = some (.int .i64 te) := by rw [hWA]; simp [go_sem]
            have x1 : WA.cell? ⟨wi.heap.size, 1, none⟩ = some (.slice ta tn tcap) := by rw [hWA]; simp [go_sem]
            have lA : wi.heap.size < WA.heap.size := by rw [hWA]; simp
            have hbA : Below w4.heap.size w4 WA := hbi.trans (hbA0.mono si)
            clear hx hrv hrt hbA0
            go_upto_region 9 with fail
            rw [← hWA]
            clear hWA k0 k1
            obtain ⟨Rn, hRn⟩ : ∃ Rn, Rn = nfB rs 500 502 0 [(te, tl)] [] := ⟨_, rfl⟩
            have HRn := Lib.hid hRn
            clear hRn
            go_wp2_with fail
            refine (normalFormsI_any _ _ _ _ rs (te, tl) (HRd.out.below (hB4.trans (hbA.mono s4))) (HRT.out.below hbA) HRS.out.2.1 hrl HKT.out Rn HRn.out).mono ?_
            rintro e8 w8 hpost
            have HB8 := hpost.1
            have HB8 : Below w4.heap.size w4 w8 := hbA.trans (HB8.mono (by omega))
            cases Rn with
            | none =>
              obtain rfl : e8 = _ := hpost.2
              have HF := Lib.hid (show R = false by rw [HR.out]; exact confX_no hk (confE_no HX.out (conf1_none HRn.out.symm)))
              clear hpost
              go_wp2
              go_ret
              exact ⟨ret_bool HF.out.symm, hB4.trans (HB8.mono s4)⟩
            | some o =>
              obtain ⟨u8, l8, he8, hp8, -, hr8⟩ := hpost.2
              obtain rfl : e8 = _ := he8
              obtain ⟨a8, n8, cap8, rfl, hn8, -⟩ := hr8.rd.shape
              have hn8' : o.length = n8 := by rw [← hn8]; exact hp8.length_eq.symm
              subst hn8'
              clear hpost hr8 hn8
              by_cases h1 : o.length = 1
              · have hO : (o.length : Int) = 1 := by omega
                have HA2 := Lib.hid (all_take HXT.out hA.out (show conf1 rs (te, tl) = true by rw [conf1_some HRn.out.symm, h1]; rfl))
                clear h1 hA
                go_wp2
                go_roundw
                case rel => exact ⟨j + 1, by omega, by go_num, HA2, HB8⟩
                case measure => simp [intOf]; omega
              · have hO : ¬ (o.length : Int) = 1 := by omega
                have HF := Lib.hid (show R = false by rw [HR.out]; exact confX_no hk (confE_no HX.out (by rw [conf1_some HRn.out.symm]; exact decide_eq_false h1)))
                clear h1 hA
                go_wp2
                go_ret
                exact ⟨ret_bool HF.out.symm, hB4.trans (HB8.mono s4)⟩
          · obtain rfl : j = T.length := by omega
            have hJ : ¬ (T.length : Int) < (T.length : Int) := by omega
            have HA2 := Lib.hid (show ∀ e : Nat, 1 ≤ e → e < k + 1 → confE rs n e = true by
              intro e h1 h2
              by_cases he : e < k
              · exact hall.out e h1 he
              · obtain rfl : e = k := by omega
                have := hA.out
                rw [List.take_length] at this
                unfold confE
                rw [← HT.out]; exact this)
            clear hall hA
            go_wp2
            go_roundw
            case rel => exact ⟨k + 1, by omega, by omega, by go_num, HA2, hB4.trans (hbi.mono s4)⟩
            case measure => simp [intOf]; omega
      · obtain rfl : k = 3 := by omega
        have HF := Lib.hid (show R = true by
          rw [HR.out]
          unfold confX
          have h1 : confE rs n 1 = true := hall.out 1 (by omega) (by omega)
          have h2 : confE rs n 2 = true := hall.out 2 (by omega) (by omega)
          rw [← HA.out, decide_eq_true HN.out, h1, h2]; rfl)
        clear hall
        go_wp2
        go_ret
        exact ⟨ret_bool HF.out.symm, hBl⟩
set_option maxRecDepth 20000 in
set_option maxHeartbeats 8000000 in
theorem confS_b {z : Bool} {lo hi : Nat} (w : World) (v : Value) (rs : List Rul) (n : Int) (h : Rd z lo hi w [v] rs) (R : Bool) (hR : R = confX rs n) :
    Calls Try.prog 8 #[v, .int .i64 n] w (PostB w R) := by
  have HRd := Lib.hid h
  have HR := Lib.hid hR
  obtain ⟨va, vn, vcap, rfl, -⟩ := h.shape
  obtain ⟨a, ha⟩ : ∃ a, a = areRules rs := ⟨_, rfl⟩
  have HA := Lib.hid ha
  clear h hR ha
  go_enter Try.func8, Try.ntmps8
  go_wp2_with fail
  refine (areRulesS_b _ _ rs HRd.out a HA.out).mono ?_
  rintro e1 w1 ⟨rfl, hb1⟩
  have hB1 : Below w.heap.size w w1 := hb1
  clear hb1
  cases a
  · have HF := Lib.hid (show R = false by rw [HR.out]; unfold confX; rw [← HA.out]; rfl)
    go_wp2
    go_ret
    exact ⟨ret_bool HF.out.symm, hB1⟩
  · have HRS := Lib.hid (areRules_facts HA.out.symm)
    have hrl : rs.length ≤ 12 := HRS.out.1
    obtain ⟨g, hg⟩ : ∃ g, g = decide (1 ≤ n ∧ n ≤ 3) := ⟨_, rfl⟩
    have HG := Lib.hid hg
    clear hg
    go_wp2_with fail
    refine (l1In_b n 1 3 _ g HG.out).mono ?_
    rintro e2 w2 ⟨rfl, hb2⟩
    have hB2 : Below w.heap.size w w2 := hB1.trans (hb2.mono hB1.size)
    clear hb2
    cases g
    · have HF := Lib.hid (show R = false by rw [HR.out]; unfold confX; rw [← HG.out]; simp)
      go_wp2
      go_ret
      exact ⟨ret_bool HF.out.symm, hB2⟩
    have hn := of_decide_eq_true HG.out.symm
    have HN := Lib.hid hn
    clear HG hB1 hn
    have s2 := hB2.size
    go_wp2
    go_loopw [4, 5, 7, 8, 9] (fun _ s5 _ _ _ wl => ∃ k : Nat, 1 ≤ k ∧ k ≤ 3 ∧ s5 = .int .i64 k ∧ Hid (∀ e : Nat, 1 ≤ e → e < k → confE rs n e = true) ∧ Below w.heap.size w wl) (fun _ s5 _ _ _ _ => 3 - (intOf s5).toNat)
    case atStart => exact ⟨1, Nat.le_refl _, by omega, rfl, Lib.hid (fun e h1 h2 => by omega), hB2⟩
    case round =>
      clear hB2 s2
      obtain ⟨wl, hwl⟩ : ∃ x : World, x = wr := ⟨_, rfl⟩
      subst hwl
      obtain ⟨k, hk1, hk3, rfl, hall, hBl⟩ := hrel
      have sl := hBl.size
      by_cases hk2 : k ≤ 2
      · have hI : (k : Int) ≤ 2 := by omega
        have hk : k = 1 ∨ k = 2 := by omega
        go_wp2_with fail
        refine (typesFromS_any _ k n).mono ?_
        obtain ⟨T, hT⟩ : ∃ T, T = typesX (k : Int) n := ⟨_, rfl⟩
        rw [← hT]
        rintro e4 w4 ⟨u4, rfl, ho4, hb4⟩
        obtain ⟨a4, n4, cap4, rfl, hn4, -⟩ := ho4.rd.shape
        subst hn4
        have hTl : T.length ≤ 600 := by rw [hT]; exact typesX_len k n
        have HTK := Lib.hid (show ∀ t ∈ T, isKin t = true by rw [hT]; exact fun t ht => (typesX_kin ht).1)
        have HT := Lib.hid hT
        have HO4 := Lib.hid ho4.rd
        have hB4 : Below w.heap.size w w4 := hBl.trans (hb4.mono sl)
        have s4 := hB4.size
        clear ho4 hb4 hT
        go_wp2
        go_loopw [4, 7, 8, 9, 26] (fun _ _ _ _ s29 wi => ∃ j : Nat, j ≤ T.length ∧ s29 = .int .i64 j ∧ Hid ((T.take j).all (conf1 rs) = true) ∧ Below w4.heap.size w4 wi) (fun _ _ _ _ s29 _ => T.length - (intOf s29).toNat)
        case atStart => exact ⟨0, Nat.zero_le _, rfl, Lib.hid rfl, Below.refl _ _⟩
        case round =>
          obtain ⟨wi, hwi⟩ : ∃ x : World, x = wr := ⟨_, rfl⟩
          subst hwi
          obtain ⟨j, hj, rfl, hA, hbi⟩ := hrel
          have si := hbi.size
          by_cases hlj : j < T.length
          · have hJ : (j : Int) < (T.length : Int) := by omega
            obtain ⟨bt, offt, ⟨te, tl⟩, vt, rfl, hx, k0, k1, -, hrv, hrt, -, -, hbt⟩ := HO4.out.kin_at hlj
            dsimp only at k0 hrv hrt
            obtain ⟨ta, tn, tcap, rfl, -⟩ := hrv.shape
            have k0 := oldc hbi hbt k0
            have k1 := oldc hbi hbt k1
            have HX := Lib.hid (show (typesX (k : Int) n)[j]? = some (te, tl) by rw [← HT.out]; exact hx.out)
            have HXT := Lib.hid hx.out
            have HRT := Lib.hid hrt
            have HKT := Lib.hid (HTK.out _ (List.mem_of_getElem? hx.out))
            obtain ⟨WA, hWA⟩ : ∃ W : World, W = wi.alloc (.cells #[.int .i64 te, .slice ta tn tcap] 36) := ⟨_, rfl⟩
            have hbA0 : Below wi.heap.size wi WA := by rw [hWA]; exact (Below.refl _ _).alloc (Nat.le_refl _) _
            have x0 : WA.cell? ⟨wi.heap.size, 0, none⟩ = some (.int .i64 te) := by rw [hWA]; simp [go_sem]
            have x1 : WA.cell? ⟨wi.heap.size, 1, none⟩ = some (.slice ta tn tcap) := by rw [hWA]; simp [go_sem]
            have lA : wi.heap.size < WA.heap.size := by rw [hWA]; simp
            have hbA : Below w4.heap.size w4 WA := hbi.trans (hbA0.mono si)
            clear hx hrv hrt hbA0
            go_upto_region 9 with fail
            rw [← hWA]
            clear hWA k0 k1
            obtain ⟨Rn, hRn⟩ : ∃ Rn, Rn = nfB rs 500 502 0 [(te, tl)] [] := ⟨_, rfl⟩
            have HRn := Lib.hid hRn
            clear hRn
            go_wp2_with fail
            refine (l4Forms_any _ _ _ _ rs (te, tl) (HRd.out.below (hB4.trans (hbA.mono s4))) (HRT.out.below hbA) HRS.out.2.1 hrl HKT.out Rn HRn.out).mono ?_
            rintro e8 w8 hpost
            have HB8 := hpost.1
            have HB8 : Below w4.heap.size w4 w8 := hbA.trans (HB8.mono (by omega))
            cases Rn with
            | none =>
              obtain rfl : e8 = _ := hpost.2
              have HF := Lib.hid (show R = false by rw [HR.out]; exact confX_no hk (confE_no HX.out (conf1_none HRn.out.symm)))
              clear hpost
              go_wp2
              go_ret
              exact ⟨ret_bool HF.out.symm, hB4.trans (HB8.mono s4)⟩
            | some o =>
              obtain ⟨u8, he8, hr8⟩ := hpost.2
              obtain rfl : e8 = _ := he8
              obtain ⟨a8, n8, cap8, rfl, hn8, -⟩ := hr8.shape
              have hn8' : o.length = n8 := by rw [← hn8, ksrt_len]
              subst hn8'
              clear hpost hr8 hn8
              by_cases h1 : o.length = 1
              · have hO : (o.length : Int) = 1 := by omega
                have HA2 := Lib.hid (all_take HXT.out hA.out (show conf1 rs (te, tl) = true by rw [conf1_some HRn.out.symm, h1]; rfl))
                clear h1 hA
                go_wp2
                go_roundw
                case rel => exact ⟨j + 1, by omega, by go_num, HA2, HB8⟩
                case measure => simp [intOf]; omega
              · have hO : ¬ (o.length : Int) = 1 := by omega
                have HF := Lib.hid (show R = false by rw [HR.out]; exact confX_no hk (confE_no HX.out (by rw [conf1_some HRn.out.symm]; exact decide_eq_false h1)))
                clear h1 hA
                go_wp2
                go_ret
                exact ⟨ret_bool HF.out.symm, hB4.trans (HB8.mono s4)⟩
          · obtain rfl : j = T.length := by omega
            have hJ : ¬ (T.length : Int) < (T.length : Int) := by omega
            have HA2 := Lib.hid (show ∀ e : Nat, 1 ≤ e → e < k + 1 → confE rs n e = true by
              intro e h1 h2
              by_cases he : e < k
              · exact hall.out e h1 he
              · obtain rfl : e = k := by omega
                have := hA.out
                rw [List.take_length] at this
                unfold confE
                rw [← HT.out]; exact this)
            clear hall hA
            go_wp2
            go_roundw
            case rel => exact ⟨k + 1, by omega, by omega, by go_num, HA2, hB4.trans (hbi.mono s4)⟩
            case measure => simp [intOf]; omega
      · obtain rfl : k = 3 := by omega
        have HF := Lib.hid (show R = true by
          rw [HR.out]
          unfold confX
          have h1 : confE rs n 1 = true := hall.out 1 (by omega) (by omega)
          have h2 : confE rs n 2 = true := hall.out 2 (by omega) (by omega)
          rw [← HA.out, decide_eq_true HN.out, h1, h2]; rfl)
        clear hall
        go_wp2
        go_ret
        exact ⟨ret_bool HF.out.symm, hBl⟩
end Go.Proofs.Ytoipdgoejichbaa
