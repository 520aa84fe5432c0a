/- Texts laid one behind the other (merge.py): Con, Cfl, Tr, NfO, Rdl, NfU. -/
import Derived.Test.YtoipdgoejichbaaNfsI
import Derived.Test.YtoipdgoejichbaaTrmC
import Derived.Test.YtoipdgoejichbaaTrmA
import Derived.Test.YtoipdgoejichbaaRul
import Derived.Test.YtoipdgoejichbaaFmt
import Derived.Test.YtoipdgoejichbaaBase
import Derived.Test.YtoipdgoejichbaaTypS
import Derived.Test.YtoipdgoejichbaaStbM
namespace Go.Proofs.Ytoipdgoejichbaa
set_option linter.unusedVariables false
set_option linter.unusedSimpArgs false
open Go.RowKit

/-! ### Con -/
section

def conf1 (rs : List Rul) (t : Kin) : Bool := match nfB rs 500 502 0 [t] [] with
  | some l => decide (l.length = 1)
  | none => false
def confE (rs : List Rul) (n e : Int) : Bool := (typesX e n).all (conf1 rs)
def confX (rs : List Rul) (n : Int) : Bool := areRules rs && (decide (1 ≤ n ∧ n ≤ 3) && (confE rs n 1 && confE rs n 2))
theorem confX_no {rs : List Rul} {n : Int} {k : Nat} (hk : k = 1 ∨ k = 2) (h : confE rs n k = false) : confX rs n = false := by
  unfold confX
  rcases hk with rfl | rfl
  · have h1 : confE rs n 1 = false := h
    rw [h1]; simp
  · have h1 : confE rs n 2 = false := h
    rw [h1]; simp
theorem confE_no {rs : List Rul} {n e : Int} {t : Kin} {j : Nat} (h : (typesX e n)[j]? = some t) (ht : conf1 rs t = false) : confE rs n e = false := by
  unfold confE
  rw [List.all_eq_false]
  exact ⟨t, List.mem_of_getElem? h, by rw [ht]; simp⟩
theorem conf1_none {rs : List Rul} {t : Kin} (h : nfB rs 500 502 0 [t] [] = none) : conf1 rs t = false := by unfold conf1; rw [h]
theorem conf1_some {rs : List Rul} {t : Kin} {l : List Kin} (h : nfB rs 500 502 0 [t] [] = some l) : conf1 rs t = decide (l.length = 1) := by unfold conf1; rw [h]
theorem all_take {T : List Kin} {p : Kin → Bool} {j : Nat} {t : Kin} (h : T[j]? = some t) (ha : (T.take j).all p = true) (ht : p t = true) : (T.take (j + 1)).all p = true := by
  rw [take_snoc h, List.all_append, ha]; simp [ht]
set_option maxRecDepth 20000 in
set_option maxHeartbeats 8000000 in
theorem confI_b {z : Bool} {lo hi : Nat} (w : World) (v : Value) (rs : List Rul) (n : Int) (h : Rd z lo hi w [v] rs) (R : Bool) (hR : R = confX rs n) :
    Calls Try.prog 10 #[v, .int .i64 n] w (PostB w R) := by
  have HRd := Lib.hid h
  have HR := Lib.hid hR
  obtain ⟨va, vn, vcap, rfl, -⟩ := h.shape
  obtain ⟨a, ha⟩ : ∃ a, a = areRules rs := ⟨_, rfl⟩
  have HA := Lib.hid ha
  clear h hR ha
  go_enter Try.func10, Try.ntmps10
  go_wp2_with fail
  refine (areRulesI_b _ _ rs HRd.out a HA.out).mono ?_
  rintro e1 w1 ⟨rfl, hb1⟩
  have hB1 : Below w.heap.size w w1 := hb1
  clear hb1
  cases a
  · have HF := Lib.hid (show R = false by rw [HR.out]; unfold confX; rw [← HA.out]; rfl)
    go_wp2
    go_ret
    exact ⟨ret_bool HF.out.symm, hB1⟩
  · have HRS := Lib.hid (areRules_facts HA.out.symm)
    have hrl : rs.length ≤ 12 := HRS.out.1
    have hB2 := hB1
    obtain ⟨w2, hw2⟩ : ∃ W : World, W = w1 := ⟨_, rfl⟩
    subst hw2
    clear hB1
    by_cases hn1 : n < 1
    · have HF := Lib.hid (show R = false by rw [HR.out]; unfold confX; rw [decide_eq_false (by omega : ¬ (1 ≤ n ∧ n ≤ 3))]; simp)
      go_wp2
      go_ret
      exact ⟨ret_bool HF.out.symm, hB2⟩
    by_cases hn3 : 3 < n
    · have HF := Lib.hid (show R = false by rw [HR.out]; unfold confX; rw [decide_eq_false (by omega : ¬ (1 ≤ n ∧ n ≤ 3))]; simp)
      go_wp2
      go_ret
      exact ⟨ret_bool HF.out.symm, hB2⟩
    have HN := Lib.hid (show 1 ≤ n ∧ n ≤ 3 by omega)
    have s2 := hB2.size
    go_wp2
    go_loopw [4, 5, 7, 8, 9] (fun _ s5 _ _ _ wl => ∃ k : Nat, 1 ≤ k ∧ k ≤ 3 ∧ s5 = .int .i64 k ∧ Hid (∀ e : Nat, 1 ≤ e → e < k → confE rs n e = true) ∧ Below w.heap.size w wl) (fun _ s5 _ _ _ _ => 3 - (intOf s5).toNat)
    case atStart => exact ⟨1, Nat.le_refl _, by omega, rfl, Lib.hid (fun e h1 h2 => by omega), hB2⟩
    case round =>
      clear hB2 s2
      obtain ⟨wl, hwl⟩ : ∃ x : World, x = wr := ⟨_, rfl⟩
      subst hwl
      obtain ⟨k, hk1, hk3, rfl, hall, hBl⟩ := hrel
      have sl := hBl.size
      by_cases hk2 : k ≤ 2
      · have hI : (k : Int) ≤ 2 := by omega
        have hk : k = 1 ∨ k = 2 := by omega
        go_wp2_with fail
        refine (typesFromI_any _ k n).mono ?_
        obtain ⟨T, hT⟩ : ∃ T, T = typesX (k : Int) n := ⟨_, rfl⟩
        rw [← hT]
        rintro e4 w4 ⟨u4, rfl, ho4, hb4⟩
        obtain ⟨a4, n4, cap4, rfl, hn4, -⟩ := ho4.rd.shape
        subst hn4
        have hTl : T.length ≤ 600 := by rw [hT]; exact typesX_len k n
        have HTK := Lib.hid (show ∀ t ∈ T, isKin t = true by rw [hT]; exact fun t ht => (typesX_kin ht).1)
        have HT := Lib.hid hT
        have HO4 := Lib.hid ho4.rd
        have hB4 : Below w.heap.size w w4 := hBl.trans (hb4.mono sl)
        have s4 := hB4.size
        clear ho4 hb4 hT
        go_wp2
        go_loopw [4, 7, 8, 9, 29] (fun _ _ _ _ s29 wi => ∃ j : Nat, j ≤ T.length ∧ s29 = .int .i64 j ∧ Hid ((T.take j).all (conf1 rs) = true) ∧ Below w4.heap.size w4 wi) (fun _ _ _ _ s29 _ => T.length - (intOf s29).toNat)
        case atStart => exact ⟨0, Nat.zero_le _, rfl, Lib.hid rfl, Below.refl _ _⟩
        case round =>
          obtain ⟨wi, hwi⟩ : ∃ x : World, x = wr := ⟨_, rfl⟩
          subst hwi
          obtain ⟨j, hj, rfl, hA, hbi⟩ := hrel
          have si := hbi.size
          by_cases hlj : j < T.length
          · have hJ : (j : Int) < (T.length : Int) := by omega
            obtain ⟨bt, offt, ⟨te, tl⟩, vt, rfl, hx, k0, k1, -, hrv, hrt, -, -, hbt⟩ := HO4.out.kin_at hlj
            dsimp only at k0 hrv hrt
            obtain ⟨ta, tn, tcap, rfl, -⟩ := hrv.shape
            have k0 := oldc hbi hbt k0
            have k1 := oldc hbi hbt k1
            have HX := Lib.hid (show (typesX (k : Int) n)[j]? = some (te, tl) by rw [← HT.out]; exact hx.out)
            have HXT := Lib.hid hx.out
            have HRT := Lib.hid hrt
            have HKT := Lib.hid (HTK.out _ (List.mem_of_getElem? hx.out))
            obtain ⟨WA, hWA⟩ : ∃ W : World, W = wi.alloc (.cells #[.int .i64 te, .slice ta tn tcap] 36) := ⟨_, rfl⟩
            have hbA0 : Below wi.heap.size wi WA := by rw [hWA]; exact (Below.refl _ _).alloc (Nat.le_refl _) _
            have x0 : WA.cell? ⟨wi.heap.size, 0, none⟩ = some (.int .i64 te) := by rw [hWA]; simp [go_sem]
            have x1 : WA.cell? ⟨wi.heap.size, 1, none⟩ = some (.slice ta tn tcap) := by rw [hWA]; simp [go_sem]
            have lA : wi.heap.size < WA.heap.size := by rw [hWA]; simp
            have hbA : Below w4.heap.size w4 WA := hbi.trans (hbA0.mono si)
            clear hx hrv hrt hbA0
            go_upto_region 9 with fail
            rw [← hWA]
            clear hWA k0 k1
            obtain ⟨Rn, hRn⟩ : ∃ Rn, Rn = nfB rs 500 502 0 [(te, tl)] [] := ⟨_, rfl⟩
            have HRn := Lib.hid hRn
            clear hRn
            go_wp2_with fail
            refine (normalFormsI_any _ _ _ _ rs (te, tl) (HRd.out.below (hB4.trans (hbA.mono s4))) (HRT.out.below hbA) HRS.out.2.1 hrl HKT.out Rn HRn.out).mono ?_
            rintro e8 w8 hpost
            have HB8 := hpost.1
            have HB8 : Below w4.heap.size w4 w8 := hbA.trans (HB8.mono (by omega))
            cases Rn with
            | none =>
              obtain rfl : e8 = _ := hpost.2
              have HF := Lib.hid (show R = false by rw [HR.out]; exact confX_no hk (confE_no HX.out (conf1_none HRn.out.symm)))
              clear hpost
              go_wp2
              go_ret
              exact ⟨ret_bool HF.out.symm, hB4.trans (HB8.mono s4)⟩
            | some o =>
              obtain ⟨u8, l8, he8, hp8, -, hr8⟩ := hpost.2
              obtain rfl : e8 = _ := he8
              obtain ⟨a8, n8, cap8, rfl, hn8, -⟩ := hr8.rd.shape
              have hn8' : o.length = n8 := by rw [← hn8]; exact hp8.length_eq.symm
              subst hn8'
              clear hpost hr8 hn8
              by_cases h1 : o.length = 1
              · have hO : (o.length : Int) = 1 := by omega
                have HA2 := Lib.hid (all_take HXT.out hA.out (show conf1 rs (te, tl) = true by rw [conf1_some HRn.out.symm, h1]; rfl))
                clear h1 hA
                go_wp2
                go_roundw
                case rel => exact ⟨j + 1, by omega, by go_num, HA2, HB8⟩
                case measure => simp [intOf]; omega
              · have hO : ¬ (o.length : Int) = 1 := by omega
                have HF := Lib.hid (show R = false by rw [HR.out]; exact confX_no hk (confE_no HX.out (by rw [conf1_some HRn.out.symm]; exact decide_eq_false h1)))
                clear h1 hA
                go_wp2
                go_ret
                exact ⟨ret_bool HF.out.symm, hB4.trans (HB8.mono s4)⟩
          · obtain rfl : j = T.length := by omega
            have hJ : ¬ (T.length : Int) < (T.length : Int) := by omega
            have HA2 := Lib.hid (show ∀ e : Nat, 1 ≤ e → e < k + 1 → confE rs n e = true by
              intro e h1 h2
              by_cases he : e < k
              · exact hall.out e h1 he
              · obtain rfl : e = k := by omega
                have := hA.out
                rw [List.take_length] at this
                unfold confE
                rw [← HT.out]; exact this)
            clear hall hA
            go_wp2
            go_roundw
            case rel => exact ⟨k + 1, by omega, by omega, by go_num, HA2, hB4.trans (hbi.mono s4)⟩
            case measure => simp [intOf]; omega
      · obtain rfl : k = 3 := by omega
        have HF := Lib.hid (show R = true by
          rw [HR.out]
          unfold confX
          have h1 : confE rs n 1 = true := hall.out 1 (by omega) (by omega)
          have h2 : confE rs n 2 = true := hall.out 2 (by omega) (by omega)
          rw [← HA.out, decide_eq_true HN.out, h1, h2]; rfl)
        clear hall
        go_wp2
        go_ret
        exact ⟨ret_bool HF.out.symm, hBl⟩
set_option maxRecDepth 20000 in
set_option maxHeartbeats 8000000 in
theorem confS_b {z : Bool} {lo hi : Nat} (w : World) (v : Value) (rs : List Rul) (n : Int) (h : Rd z lo hi w [v] rs) (R : Bool) (hR : R = confX rs n) :
    Calls Try.prog 8 #[v, .int .i64 n] w (PostB w R) := by
  have HRd := Lib.hid h
  have HR := Lib.hid hR
  obtain ⟨va, vn, vcap, rfl, -⟩ := h.shape
  obtain ⟨a, ha⟩ : ∃ a, a = areRules rs := ⟨_, rfl⟩
  have HA := Lib.hid ha
  clear h hR ha
  go_enter Try.func8, Try.ntmps8
  go_wp2_with fail
  refine (areRulesS_b _ _ rs HRd.out a HA.out).mono ?_
  rintro e1 w1 ⟨rfl, hb1⟩
  have hB1 : Below w.heap.size w w1 := hb1
  clear hb1
  cases a
  · have HF := Lib.hid (show R = false by rw [HR.out]; unfold confX; rw [← HA.out]; rfl)
    go_wp2
    go_ret
    exact ⟨ret_bool HF.out.symm, hB1⟩
  · have HRS := Lib.hid (areRules_facts HA.out.symm)
    have hrl : rs.length ≤ 12 := HRS.out.1
    obtain ⟨g, hg⟩ : ∃ g, g = decide (1 ≤ n ∧ n ≤ 3) := ⟨_, rfl⟩
    have HG := Lib.hid hg
    clear hg
    go_wp2_with fail
    refine (l1In_b n 1 3 _ g HG.out).mono ?_
    rintro e2 w2 ⟨rfl, hb2⟩
    have hB2 : Below w.heap.size w w2 := hB1.trans (hb2.mono hB1.size)
    clear hb2
    cases g
    · have HF := Lib.hid (show R = false by rw [HR.out]; unfold confX; rw [← HG.out]; simp)
      go_wp2
      go_ret
      exact ⟨ret_bool HF.out.symm, hB2⟩
    have hn := of_decide_eq_true HG.out.symm
    have HN := Lib.hid hn
    clear HG hB1 hn
    have s2 := hB2.size
    go_wp2
    go_loopw [4, 5, 7, 8, 9] (fun _ s5 _ _ _ wl => ∃ k : Nat, 1 ≤ k ∧ k ≤ 3 ∧ s5 = .int .i64 k ∧ Hid (∀ e : Nat, 1 ≤ e → e < k → confE rs n e = true) ∧ Below w.heap.size w wl) (fun _ s5 _ _ _ _ => 3 - (intOf s5).toNat)
    case atStart => exact ⟨1, Nat.le_refl _, by omega, rfl, Lib.hid (fun e h1 h2 => by omega), hB2⟩
    case round =>
      clear hB2 s2
      obtain ⟨wl, hwl⟩ : ∃ x : World, x = wr := ⟨_, rfl⟩
      subst hwl
      obtain ⟨k, hk1, hk3, rfl, hall, hBl⟩ := hrel
      have sl := hBl.size
      by_cases hk2 : k ≤ 2
      · have hI : (k : Int) ≤ 2 := by omega
        have hk : k = 1 ∨ k = 2 := by omega
        go_wp2_with fail
        refine (typesFromS_any _ k n).mono ?_
        obtain ⟨T, hT⟩ : ∃ T, T = typesX (k : Int) n := ⟨_, rfl⟩
        rw [← hT]
        rintro e4 w4 ⟨u4, rfl, ho4, hb4⟩
        obtain ⟨a4, n4, cap4, rfl, hn4, -⟩ := ho4.rd.shape
        subst hn4
        have hTl : T.length ≤ 600 := by rw [hT]; exact typesX_len k n
        have HTK := Lib.hid (show ∀ t ∈ T, isKin t = true by rw [hT]; exact fun t ht => (typesX_kin ht).1)
        have HT := Lib.hid hT
        have HO4 := Lib.hid ho4.rd
        have hB4 : Below w.heap.size w w4 := hBl.trans (hb4.mono sl)
        have s4 := hB4.size
        clear ho4 hb4 hT
        go_wp2
        go_loopw [4, 7, 8, 9, 26] (fun _ _ _ _ s29 wi => ∃ j : Nat, j ≤ T.length ∧ s29 = .int .i64 j ∧ Hid ((T.take j).all (conf1 rs) = true) ∧ Below w4.heap.size w4 wi) (fun _ _ _ _ s29 _ => T.length - (intOf s29).toNat)
        case atStart => exact ⟨0, Nat.zero_le _, rfl, Lib.hid rfl, Below.refl _ _⟩
        case round =>
          obtain ⟨wi, hwi⟩ : ∃ x : World, x = wr := ⟨_, rfl⟩
          subst hwi
          obtain ⟨j, hj, rfl, hA, hbi⟩ := hrel
          have si := hbi.size
          by_cases hlj : j < T.length
          · have hJ : (j : Int) < (T.length : Int) := by omega
            obtain ⟨bt, offt, ⟨te, tl⟩, vt, rfl, hx, k0, k1, -, hrv, hrt, -, -, hbt⟩ := HO4.out.kin_at hlj
            dsimp only at k0 hrv hrt
            obtain ⟨ta, tn, tcap, rfl, -⟩ := hrv.shape
            have k0 := oldc hbi hbt k0
            have k1 := oldc hbi hbt k1
            have HX := Lib.hid (show (typesX (k : Int) n)[j]? = some (te, tl) by rw [← HT.out]; exact hx.out)
            have HXT := Lib.hid hx.out
            have HRT := Lib.hid hrt
            have HKT := Lib.hid (HTK.out _ (List.mem_of_getElem? hx.out))
            obtain ⟨WA, hWA⟩ : ∃ W : World, W = wi.alloc (.cells #[.int .i64 te, .slice ta tn tcap] 36) := ⟨_, rfl⟩
            have hbA0 : Below wi.heap.size wi WA := by rw [hWA]; exact (Below.refl _ _).alloc (Nat.le_refl _) _
            have x0 : WA.cell? ⟨wi.heap.size, 0, none⟩ = some (.int .i64 te) := by rw [hWA]; simp [go_sem]
            have x1 : WA.cell? ⟨wi.heap.size, 1, none⟩ = some (.slice ta tn tcap) := by rw [hWA]; simp [go_sem]
            have lA : wi.heap.size < WA.heap.size := by rw [hWA]; simp
            have hbA : Below w4.heap.size w4 WA := hbi.trans (hbA0.mono si)
            clear hx hrv hrt hbA0
            go_upto_region 9 with fail
            rw [← hWA]
            clear hWA k0 k1
            obtain ⟨Rn, hRn⟩ : ∃ Rn, Rn = nfB rs 500 502 0 [(te, tl)] [] := ⟨_, rfl⟩
            have HRn := Lib.hid hRn
            clear hRn
            go_wp2_with fail
            refine (l4Forms_any _ _ _ _ rs (te, tl) (HRd.out.below (hB4.trans (hbA.mono s4))) (HRT.out.below hbA) HRS.out.2.1 hrl HKT.out Rn HRn.out).mono ?_
            rintro e8 w8 hpost
            have HB8 := hpost.1
            have HB8 : Below w4.heap.size w4 w8 := hbA.trans (HB8.mono (by omega))
            cases Rn with
            | none =>
              obtain rfl : e8 = _ := hpost.2
              have HF := Lib.hid (show R = false by rw [HR.out]; exact confX_no hk (confE_no HX.out (conf1_none HRn.out.symm)))
              clear hpost
              go_wp2
              go_ret
              exact ⟨ret_bool HF.out.symm, hB4.trans (HB8.mono s4)⟩
            | some o =>
              obtain ⟨u8, he8, hr8⟩ := hpost.2
              obtain rfl : e8 = _ := he8
              obtain ⟨a8, n8, cap8, rfl, hn8, -⟩ := hr8.shape
              have hn8' : o.length = n8 := by rw [← hn8, ksrt_len]
              subst hn8'
              clear hpost hr8 hn8
              by_cases h1 : o.length = 1
              · have hO : (o.length : Int) = 1 := by omega
                have HA2 := Lib.hid (all_take HXT.out hA.out (show conf1 rs (te, tl) = true by rw [conf1_some HRn.out.symm, h1]; rfl))
                clear h1 hA
                go_wp2
                go_roundw
                case rel => exact ⟨j + 1, by omega, by go_num, HA2, HB8⟩
                case measure => simp [intOf]; omega
              · have hO : ¬ (o.length : Int) = 1 := by omega
                have HF := Lib.hid (show R = false by rw [HR.out]; exact confX_no hk (confE_no HX.out (by rw [conf1_some HRn.out.symm]; exact decide_eq_false h1)))
                clear h1 hA
                go_wp2
                go_ret
                exact ⟨ret_bool HF.out.symm, hB4.trans (HB8.mono s4)⟩
          · obtain rfl : j = T.length := by omega
            have hJ : ¬ (T.length : Int) < (T.length : Int) := by omega
            have HA2 := Lib.hid (show ∀ e : Nat, 1 ≤ e → e < k + 1 → confE rs n e = true by
              intro e h1 h2
              by_cases he : e < k
              · exact hall.out e h1 he
              · obtain rfl : e = k := by omega
                have := hA.out
                rw [List.take_length] at this
                unfold confE
                rw [← HT.out]; exact this)
            clear hall hA
            go_wp2
            go_roundw
            case rel => exact ⟨k + 1, by omega, by omega, by go_num, HA2, hB4.trans (hbi.mono s4)⟩
            case measure => simp [intOf]; omega
      · obtain rfl : k = 3 := by omega
        have HF := Lib.hid (show R = true by
          rw [HR.out]
          unfold confX
          have h1 : confE rs n 1 = true := hall.out 1 (by omega) (by omega)
          have h2 : confE rs n 2 = true := hall.out 2 (by omega) (by omega)
          rw [← HA.out, decide_eq_true HN.out, h1, h2]; rfl)
        clear hall
        go_wp2
        go_ret
        exact ⟨ret_bool HF.out.symm, hBl⟩

end

/-! ### Cfl -/
section

theorem redStep_in {t : Kin} {i : Nat} {out : List Kin} {r : Rul} {u : Kin} : u ∈ redStep t i out r ↔ u ∈ out ∨ (fitsB r t i = true ∧ u = replT r t i) := by
  unfold redStep
  split
  · rename_i hf
    split
    · rename_i hm
      constructor
      · exact .inl
      · rintro (h | ⟨_, rfl⟩)
        · exact h
        · exact hm
    · rw [List.mem_append, List.mem_singleton]
      constructor
      · rintro (h | h)
        · exact .inl h
        · exact .inr ⟨hf, h⟩
      · rintro (h | ⟨_, h⟩)
        · exact .inl h
        · exact .inr h
  · rename_i hf
    constructor
    · exact .inl
    · rintro (h | ⟨h, _⟩)
      · exact h
      · exact absurd h hf
theorem redIn_in {t : Kin} {i : Nat} {u : Kin} : ∀ {rs : List Rul} {out : List Kin}, u ∈ redIn rs t i out ↔ u ∈ out ∨ ∃ r ∈ rs, fitsB r t i = true ∧ u = replT r t i
  | [], out => by simp [redIn]
  | r :: rs, out => by
    have e : redIn (r :: rs) t i out = redIn rs t i (redStep t i out r) := rfl
    rw [e, redIn_in, redStep_in]
    constructor
    · rintro ((h | h) | ⟨q, h1, h2⟩)
      · exact .inl h
      · exact .inr ⟨r, List.mem_cons_self, h⟩
      · exact .inr ⟨q, List.mem_cons_of_mem _ h1, h2⟩
    · rintro (h | ⟨q, h1, h2⟩)
      · exact .inl (.inl h)
      · rcases List.mem_cons.1 h1 with rfl | h1
        · exact .inl (.inr h2)
        · exact .inr ⟨q, h1, h2⟩
theorem redTo_in {rs : List Rul} {t u : Kin} : ∀ {n : Nat}, u ∈ redTo rs t n ↔ ∃ i, i < n ∧ ∃ r ∈ rs, fitsB r t i = true ∧ u = replT r t i
  | 0 => by
    constructor
    · intro h; cases h
    · rintro ⟨i, h, _⟩; omega
  | n + 1 => by
    rw [redTo_succ, redIn_in, redTo_in]
    constructor
    · rintro (⟨i, h, q⟩ | q)
      · exact ⟨i, by omega, q⟩
      · exact ⟨n, by omega, q⟩
    · rintro ⟨i, h, q⟩
      by_cases hi : i < n
      · exact .inl ⟨i, hi, q⟩
      · obtain rfl : i = n := by omega
        exact .inr q
theorem redL_in {rs : List Rul} {t u : Kin} : u ∈ redL rs t ↔ ∃ i, i < t.2.length ∧ ∃ r ∈ rs, fitsB r t i = true ∧ u = replT r t i := redTo_in
theorem redL_sub {rs P : List Rul} (h : ∀ r ∈ rs, r ∈ P) {t u : Kin} (hu : u ∈ redL rs t) : u ∈ redL P t := by
  obtain ⟨i, h1, r, h2, h3⟩ := redL_in.1 hu
  exact redL_in.2 ⟨i, h1, r, h r h2, h3⟩
/-- Reached by replacements. -/
inductive Rch (rs : List Rul) : Kin → Kin → Prop
  | refl (t : Kin) : Rch rs t t
  | step {t u v : Kin} : u ∈ redL rs t → Rch rs u v → Rch rs t v
theorem Rch.snoc {rs : List Rul} {t u v : Kin} (h : Rch rs t u) (hv : v ∈ redL rs u) : Rch rs t v := by
  induction h with
  | refl t => exact .step hv (.refl _)
  | step h1 _ ih => exact .step h1 (ih hv)
theorem Rch.trans {rs : List Rul} {t u v : Kin} (h : Rch rs t u) (h2 : Rch rs u v) : Rch rs t v := by
  induction h with
  | refl t => exact h2
  | step h1 _ ih => exact .step h1 (ih h2)
theorem Rch.kin {rs : List Rul} (hrs : allRules rs) {t u : Kin} (h : Rch rs t u) (ht : isKin t = true) : isKin u = true := by
  induction h with
  | refl t => exact ht
  | step h1 _ ih => exact ih (redL_kin hrs ht _ h1)
/-- The walk has met all that is reached, and its list holds just the forms. -/
theorem nfB_ok {rs : List Rul} {most : Nat} : ∀ {f i : Nat} {o out L : List Kin}, nfB rs most f i o out = some L → i ≤ o.length → (∀ j t, j < i → o[j]? = some t → (∀ u ∈ redL rs t, u ∈ o) ∧ (redL rs t = [] → t ∈ out)) →
    ∃ O : List Kin, (∀ t ∈ o, t ∈ O) ∧ ∀ t ∈ O, (∀ u ∈ redL rs t, u ∈ O) ∧ (redL rs t = [] → t ∈ L)
  | 0, _, _, _, _, h, _, _ => by cases h
  | f + 1, i, o, out, L, h, hi, hinv => by
    cases ht : o[i]? with
    | none =>
      rw [nfB_end ht] at h
      obtain rfl := Option.some.inj h
      refine ⟨o, fun _ h => h, fun t hm => ?_⟩
      obtain ⟨j, hj, e⟩ := List.getElem_of_mem hm
      have hl : o.length ≤ i := List.getElem?_eq_none_iff.1 ht
      exact hinv j t (by omega) (by rw [List.getElem?_eq_getElem hj, e])
    | some t =>
      have hlt : i < o.length := (List.getElem?_eq_some_iff.1 ht).1
      by_cases hb : most < (nAll o (redL rs t)).length
      · rw [nfB_big ht hb] at h; cases h
      · rw [nfB_go ht hb] at h
        obtain ⟨O, h1, h2⟩ := nfB_ok h (by have := (nAll_len (redL rs t) o).1; omega) (by
          intro j t' hj hjt
          have hso : (if redL rs t = [] then out ++ [t] else out) = outK rs t out := rfl
          have hsub : ∀ x ∈ out, x ∈ (if redL rs t = [] then out ++ [t] else out) := by
            intro x hx
            split
            · exact List.mem_append_left _ hx
            · exact hx
          by_cases hji : j < i
          · have h0 : o[j]? = some o[j] := List.getElem?_eq_getElem (by omega)
            have e := nAll_pre (redL rs t) o h0
            rw [hjt] at e
            obtain rfl := Option.some.inj e
            obtain ⟨g1, g2⟩ := hinv j _ hji h0
            exact ⟨fun u hu => nAll_mem.2 (.inl (g1 u hu)), fun hr => hsub _ (g2 hr)⟩
          · obtain rfl : j = i := by omega
            have e := nAll_pre (redL rs t) o ht
            rw [hjt] at e
            obtain rfl := Option.some.inj e
            exact ⟨fun u hu => nAll_mem.2 (.inr hu), fun hr => by rw [if_pos hr]; simp⟩)
        exact ⟨O, fun x hx => h1 x (nAll_mem.2 (.inl hx)), h2⟩
theorem nfB_has {rs : List Rul} {most f : Nat} {t : Kin} {L : List Kin} (h : nfB rs most f 0 [t] [] = some L) {u : Kin} (hu : Rch rs t u) (hr : redL rs u = []) : u ∈ L := by
  obtain ⟨O, h1, h2⟩ := nfB_ok h (Nat.zero_le _) (fun j _ hj => by omega)
  have key : ∀ {a b : Kin}, Rch rs a b → a ∈ O → b ∈ O := by
    intro a b hab
    induction hab with
    | refl t => exact id
    | step g1 _ ih => exact fun ha => ih ((h2 _ ha).1 _ g1)
  exact (h2 u (key hu (h1 t (by simp)))).2 hr
theorem rewr_red {rs : List Rul} (hrs : allRules rs) {t u : Kin} {k i : Nat} (ht : isKin t = true) (h : rewr rs t = some (u, k, i)) : u ∈ redL rs t := by
  obtain ⟨r, h1, h2, h3, h4, _⟩ := rewr_some hrs ht h
  exact redL_in.2 ⟨i, h2, r, List.mem_of_getElem? h1, h3, h4⟩
theorem rewr_end {rs : List Rul} (hrs : allRules rs) {t : Kin} (h : rewr rs t = none) : redL rs t = [] := by
  refine List.eq_nil_iff_forall_not_mem.2 fun u hu => ?_
  obtain ⟨i, h1, r, h2, h3, _⟩ := redL_in.1 hu
  unfold rewr at h
  cases hp : placeOf rs t with
  | none =>
    unfold placeOf at hp
    rw [List.findSome?_eq_none_iff] at hp
    have := hp i (List.mem_range.2 h1)
    rw [Option.map_eq_none_iff] at this
    unfold ruleAt at this
    rw [List.findIdx?_eq_none_iff] at this
    have := this r h2
    rw [h3] at this; cases this
  | some p =>
    obtain ⟨a, b⟩ := p
    obtain ⟨r', hr', -, -⟩ := placeOf_some hp
    rw [hp] at h
    simp only [Option.bind_some, hr', Option.map_some] at h
    cases h
theorem nf_rch {rs : List Rul} (hrs : allRules rs) : ∀ (n : Nat) {t : Kin}, enc t.2 ≤ n → isKin t = true → Rch rs t (nf rs t)
  | n, t, hn, ht => by
    cases hr : rewr rs t with
    | none => rw [nf_none hr]; exact .refl _
    | some p =>
      obtain ⟨u, k, i⟩ := p
      obtain ⟨r, -, -, -, -, hu, he⟩ := rewr_some hrs ht hr
      rw [nf_some hrs ht hr]
      match n with
      | 0 => omega
      | n + 1 => exact .step (rewr_red hrs ht hr) (nf_rch hrs n (by omega) hu)
theorem nf_end {rs : List Rul} (hrs : allRules rs) {t : Kin} (ht : isKin t = true) : redL rs (nf rs t) = [] := rewr_end hrs (nf_ok hrs _ (Nat.le_refl _) ht).2
/-- Where there is one form, every way ends with the normal form. -/
theorem conf_end {rs : List Rul} (hrs : allRules rs) {t u : Kin} (ht : isKin t = true) (hc : conf1 rs t = true) (hu : Rch rs t u) (hr : redL rs u = []) : u = nf rs t := by
  unfold conf1 at hc
  cases h : nfB rs 500 502 0 [t] [] with
  | none => rw [h] at hc; cases hc
  | some l =>
    rw [h] at hc
    have hl := of_decide_eq_true hc
    obtain ⟨f, rfl⟩ := List.length_eq_one_iff.1 hl
    have h1 := nfB_has h hu hr
    have h2 := nfB_has h (nf_rch hrs _ (Nat.le_refl _) ht) (nf_end hrs ht)
    rw [List.mem_singleton] at h1 h2
    rw [h1, h2]
/-- So many replacements at most. -/
def ter : Nat → List Rul → Kin → Bool
  | 0, rs, t => (redL rs t).isEmpty
  | n + 1, rs, t => (redL rs t).all (ter n rs)
theorem ter_sub {rs P : List Rul} (h : ∀ r ∈ rs, r ∈ P) : ∀ {n : Nat} {t : Kin}, ter n P t = true → ter n rs t = true
  | 0, t, ht => by
    rw [ter, List.isEmpty_iff] at ht ⊢
    exact List.eq_nil_iff_forall_not_mem.2 fun u hu => by have := redL_sub h hu; rw [ht] at this; cases this
  | n + 1, t, ht => by
    rw [ter, List.all_eq_true] at ht ⊢
    exact fun u hu => ter_sub h (ht u (redL_sub h hu))
theorem ter_next {rs : List Rul} {n : Nat} {t u : Kin} (h : ter n rs t = true) (hu : u ∈ redL rs t) : ∃ m, n = m + 1 ∧ ter m rs u = true := by
  match n with
  | 0 =>
    rw [ter, List.isEmpty_iff] at h
    rw [h] at hu; cases hu
  | n + 1 =>
    rw [ter, List.all_eq_true] at h
    exact ⟨n, rfl, h u hu⟩
set_option maxRecDepth 20000 in
set_option maxHeartbeats 4000000 in
theorem normalFormI_k {z z1 : Bool} {lo hi lo1 hi1 : Nat} (w : World) (v a b : Value) (rs : List Rul) (t : Kin) (h : Rd z lo hi w [v] rs) (h' : Rd z1 lo1 hi1 w [a, b] t) (hr : areRules rs = true) (ht : isKin t = true) :
    Calls Try.prog 15 #[v, .agg #[a, b]] w (PostOw2 w (nf rs t)) := by
  obtain ⟨ao, n, cap, rfl, -⟩ := h.shape
  have HZ := Lib.hid h
  have HT := Lib.hid h'
  obtain ⟨rfl, -, hb⟩ := h'.kin
  obtain ⟨sao, sn, scap, rfl, -⟩ := hb.shape
  have H1 := Lib.hid hr.symm
  have H2 := Lib.hid ht.symm
  have HA := Lib.hid (areRules_facts hr).2.1
  have HK := Lib.hid ht
  obtain ⟨X, hX⟩ : ∃ X, X = nf rs t := ⟨_, rfl⟩
  rw [← hX]
  have HX := Lib.hid hX
  clear h h' hr ht hb hX
  go_enter Try.func15, Try.ntmps15
  go_wp2_with fail
  refine (areRulesI_b _ _ rs (HZ.out.below bwT) true H1.out).mono ?_
  rintro e1 w1 ⟨rfl, hbw1⟩
  have hpw1 : Below w.heap.size w w1 := Below.after bwT hbw1 szT
  have sw1 := hpw1.size
  have hBw1 : Below w.heap.size w w1 := hpw1
  have l_t : w.heap.size < w1.heap.size := by have := hbw1.size; simp at this; omega
  have q_t0 : w1.cell? ⟨w.heap.size, 0, none⟩ = some (.int .i64 t.1) := oldc hbw1 ltT (by simp [go_sem])
  have q_t1 : w1.cell? ⟨w.heap.size, 1, none⟩ = some (.slice sao sn scap) := oldc hbw1 ltT (by simp [go_sem])
  have l_o : w.heap.size + 1 < w1.heap.size := by have := hbw1.size; simp at this; omega
  have q_o0 : w1.cell? ⟨w.heap.size + 1, 0, none⟩ = some (.int .i64 0) := oldc hbw1 ltT (by simp [go_sem])
  have q_o1 : w1.cell? ⟨w.heap.size + 1, 1, none⟩ = some (.slice none 0 0) := oldc hbw1 ltT (by simp [go_sem])
  have f_o : ∀ o, w1.frozen? ⟨w.heap.size + 1, o, none⟩ = false := fun o => (hbw1.frozen (p := ⟨w.heap.size + 1, o, none⟩) ltT).trans (by simp [go_sem])
  clear hbw1 hpw1
  go_wp2_with fail
  refine (isTypeI_b _ _ _ t (HT.out.below bwT) true H2.out).mono ?_
  rintro e2 w2 ⟨rfl, hbw2⟩
  have hpw2 : Below w1.heap.size w1 w2 := Below.after bwT hbw2 szT
  have sw2 := hpw2.size
  have hBw2 : Below w.heap.size w w2 := Below.trans hBw1 (Below.mono hpw2 hBw1.size)
  replace q_t0 := oldc hpw2 l_t q_t0
  replace q_t1 := oldc hpw2 l_t q_t1
  replace q_o0 := oldc hpw2 l_o q_o0
  replace q_o1 := oldc hpw2 l_o q_o1
  replace f_o : ∀ o, w2.frozen? ⟨w.heap.size + 1, o, none⟩ = false := fun o => (hpw2.frozen (p := ⟨w.heap.size + 1, o, none⟩) l_o).trans (f_o o)
  replace l_o := Nat.lt_of_lt_of_le l_o sw2
  replace l_t := Nat.lt_of_lt_of_le l_t sw2
  clear hbw2 hpw2
  have hl2 : w.heap.size + 1 < (w2).heap.size := l_o
  go_wp2_with fail
  refine (nfI_any _ _ _ _ rs t (HZ.out.below bwT) (HT.out.below bwT) HA.out HK.out).mono ?_
  rintro e3 w3 ⟨na, nb, rfl, hov, hbw3⟩
  have hpw3 : Below w2.heap.size w2 w3 := Below.after bwT hbw3 szT
  have sw3 := hpw3.size
  have hBw3 : Below w.heap.size w w3 := Below.trans hBw2 (Below.mono hpw3 hBw2.size)
  replace q_t0 := oldc hpw3 l_t q_t0
  replace q_t1 := oldc hpw3 l_t q_t1
  replace q_o0 := oldc hpw3 l_o q_o0
  replace q_o1 := oldc hpw3 l_o q_o1
  replace f_o : ∀ o, w3.frozen? ⟨w.heap.size + 1, o, none⟩ = false := fun o => (hpw3.frozen (p := ⟨w.heap.size + 1, o, none⟩) l_o).trans (f_o o)
  replace l_o := Nat.lt_of_lt_of_le l_o sw3
  replace l_t := Nat.lt_of_lt_of_le l_t sw3
  clear hbw3 hpw3
  rw [← HX.out] at hov
  obtain ⟨rfl, -, hts⟩ := hov.rd.kin
  obtain ⟨nao, nn, ncap, rfl, -⟩ := hts.shape
  have HOV := Lib.hid hov
  clear hov hts HX
  go_wp2
  exact bodyPost_ret (v := .agg #[.int .i64 X.1, .slice nao nn ncap]) (by simp [results, go_sem, *]) rfl ⟨_, _, rfl, (HOV.out.keep zmT).mono (by omega) (by simp), bwT⟩

end

/-! ### Tr -/
section

/-- What is told of one replacement: the rule's name, the type behind it. -/
def trLine (rs : List Rul) (k : Nat) (u : Kin) : ByteArray := (match rs[k]? with | some r => r.1 | none => ⟨#[]⟩) ++ ⟨#[32]⟩ ++ kinTxt u
def trN : Nat → List Rul → Kin → List ByteArray
  | 0, _, _ => []
  | n + 1, rs, t => match rewr rs t with | some (u, k, _) => trLine rs k u :: trN n rs u | none => []
def trL (rs : List Rul) (t : Kin) : List ByteArray := trN (enc t.2) rs t
def traceX (rs : List Rul) (t : Kin) : List ByteArray := if (areRules rs && isKin t) = true then kinTxt t :: trL rs t else []
theorem trN_eq {rs : List Rul} (hrs : allRules rs) : ∀ {n m : Nat} {t : Kin}, isKin t = true → enc t.2 ≤ n → enc t.2 ≤ m → trN n rs t = trN m rs t
  | 0, 0, t, _, _, _ => rfl
  | 0, m + 1, t, ht, h, _ => by
    rw [trN, trN]
    cases hr : rewr rs t with
    | none => rfl
    | some p =>
      obtain ⟨u, k, i⟩ := p
      obtain ⟨r, -, -, -, -, -, he⟩ := rewr_some hrs ht hr
      omega
  | n + 1, 0, t, ht, _, h => by
    rw [trN, trN]
    cases hr : rewr rs t with
    | none => rfl
    | some p =>
      obtain ⟨u, k, i⟩ := p
      obtain ⟨r, -, -, -, -, -, he⟩ := rewr_some hrs ht hr
      omega
  | n + 1, m + 1, t, ht, h1, h2 => by
    rw [trN, trN]
    cases hr : rewr rs t with
    | none => rfl
    | some p =>
      obtain ⟨u, k, i⟩ := p
      obtain ⟨r, -, -, -, -, hu, he⟩ := rewr_some hrs ht hr
      dsimp only
      rw [trN_eq hrs hu (show enc u.2 ≤ n by omega) (show enc u.2 ≤ m by omega)]
theorem trL_none {rs : List Rul} {t : Kin} (h : rewr rs t = none) : trL rs t = [] := by
  unfold trL
  cases enc t.2 with
  | zero => rfl
  | succ n => rw [trN, h]
theorem trL_some {rs : List Rul} {t u : Kin} {k i : Nat} (hrs : allRules rs) (ht : isKin t = true) (h : rewr rs t = some (u, k, i)) : trL rs t = trLine rs k u :: trL rs u := by
  obtain ⟨r, -, -, -, -, hu, he⟩ := rewr_some hrs ht h
  unfold trL
  obtain ⟨n, hn⟩ : ∃ n, enc t.2 = n + 1 := ⟨enc t.2 - 1, by omega⟩
  rw [hn, trN, h]
  dsimp only
  rw [trN_eq hrs hu (show enc u.2 ≤ n by omega) (Nat.le_refl _)]
theorem trN_len : ∀ (n : Nat) (rs : List Rul) (t : Kin), (trN n rs t).length ≤ n
  | 0, _, _ => Nat.le_refl _
  | n + 1, rs, t => by
    rw [trN]
    cases rewr rs t with
    | none => simp
    | some p =>
      obtain ⟨u, k, i⟩ := p
      have := trN_len n rs u
      simp; omega
theorem enc_kin {t : Kin} (h : isKin t = true) : enc t.2 < 1099511627776 := by
  have hk := isKin_facts h
  have h1 := enc_lt hk.2.2.2
  have h2 : (32 : Nat) ^ t.2.length ≤ 32 ^ 8 := Nat.pow_le_pow_right (by omega) hk.2.1
  have h3 : (32 : Nat) ^ 8 = 1099511627776 := by decide
  omega
theorem traceX_len (rs : List Rul) (t : Kin) : (traceX rs t).length ≤ 1099511627776 := by
  unfold traceX
  split
  · rename_i h
    simp only [Bool.and_eq_true] at h
    have h1 := trN_len (enc t.2) rs t
    have h2 := enc_kin h.2
    unfold trL
    simp; omega
  · simp

end

/-! ### NfO -/
section

def nfoX (rs : List Rul) (t : Kin) : Option (List Kin) := if redV rs t = true then nfB rs 500 502 0 [t] [] else none
set_option maxRecDepth 20000 in
set_option maxHeartbeats 8000000 in
theorem nfoI_any {z z1 : Bool} {lo hi lo1 hi1 : Nat} (w : World) (v a b : Value) (rs : List Rul) (t : Kin) (h : Rd z lo hi w [v] rs) (h' : Rd z1 lo1 hi1 w [a, b] t) (X : Option (List Kin)) (hX : X = nfoX rs t) :
    Calls Try.prog 21 #[v, .agg #[a, b]] w (PostNfI w X) := by
  obtain ⟨ao, n, cap, rfl, rfl, hnc, hcm, -⟩ := h.shape
  have HT := Lib.hid h'
  obtain ⟨rfl, -, hb⟩ := h'.kin
  obtain ⟨sao, sn, scap, rfl, -⟩ := hb.shape
  obtain ⟨r1, hlet_r1⟩ : ∃ r, r = areRules rs := ⟨_, rfl⟩
  have H1 := Lib.hid hlet_r1
  clear hlet_r1
  obtain ⟨r2, hlet_r2⟩ : ∃ r, r = isKin t := ⟨_, rfl⟩
  have H2 := Lib.hid hlet_r2
  clear hlet_r2
  have HX := Lib.hid (show X = if (r1 && r2) = true then nfB rs 500 502 0 [t] [] else none by rw [hX, nfoX, redV, H1.out, H2.out])
  clear hX h' hb
  go_enter Try.func21, Try.ntmps21
  go_wp2_with fail
  refine (areRulesI_b _ _ rs (h.below bwT) r1 H1.out).mono ?_
  rintro e4 w4 ⟨rfl, hbw4⟩
  have hpw4 : Below w.heap.size w w4 := Below.after bwT hbw4 szT
  have sw4 := hpw4.size
  have hBw4 : Below w.heap.size w w4 := hpw4
  have l_t : w.heap.size < w4.heap.size := by have := hbw4.size; simp at this; omega
  have q_t0 : w4.cell? ⟨w.heap.size, 0, none⟩ = some (.int .i64 t.1) := oldc hbw4 ltT (by simp [go_sem])
  have q_t1 : w4.cell? ⟨w.heap.size, 1, none⟩ = some (.slice sao sn scap) := oldc hbw4 ltT (by simp [go_sem])
  clear hbw4 hpw4
  cases r1
  · have HN := Lib.hid (show X = none by rw [HX.out]; rfl)
    have hBz : Below w.heap.size w w4 := hBw4
    clear HX H1 H2 h
    go_wp2
    go_ret2
    exact ⟨hBz, by rw [HN.out]; exact rfl⟩
  go_wp2_with fail
  refine (isTypeI_b _ _ _ t (HT.out.below bwT) r2 H2.out).mono ?_
  rintro e5 w5 ⟨rfl, hbw5⟩
  have hpw5 : Below w4.heap.size w4 w5 := Below.after bwT hbw5 szT
  have sw5 := hpw5.size
  have hBw5 : Below w.heap.size w w5 := Below.trans hBw4 (Below.mono hpw5 hBw4.size)
  have q_t0 := oldc hpw5 l_t q_t0
  have q_t1 := oldc hpw5 l_t q_t1
  have l_t := Nat.lt_of_lt_of_le l_t sw5
  clear hbw5 hpw5
  cases r2
  · have HN := Lib.hid (show X = none by rw [HX.out]; rfl)
    have hBz : Below w.heap.size w w5 := hBw5
    clear HX H1 H2 h
    go_wp2
    go_ret2
    exact ⟨hBz, by rw [HN.out]; exact rfl⟩
  have HF := areRules_facts H1.out.symm
  have HRS := Lib.hid HF.2.1
  have hrl : rs.length ≤ 12 := HF.1
  clear HF
  have hBy : Below w.heap.size w w5 := hBw5
  obtain ⟨wy, hwy⟩ : ∃ W : World, W = w5 := ⟨_, rfl⟩
  subst hwy
  have sy := hBy.size
  have HX2 := Lib.hid (show X = nfB rs 500 502 0 [t] [] by rw [HX.out]; rfl)
  go_wp2_with fail
  refine (normalFormsI_any _ _ _ _ rs t (h.below hBy) (HT.out.below hBy) HRS.out hrl H2.out.symm _ HX2.out).mono ?_
  rintro e9 w9 hpost
  have hBz : Below w.heap.size w w9 := hBy.trans (hpost.1.mono sy)
  clear HX HX2 H1 H2 h HRS
  obtain ⟨Y, hY⟩ : ∃ Y, Y = X := ⟨_, rfl⟩
  have HX := Lib.hid hY.symm
  rw [← hY] at hpost
  clear hY
  cases Y with
  | none =>
    obtain rfl : e9 = _ := hpost.2
    clear hpost
    go_wp2
    go_ret2
    exact ⟨hBz, by rw [HX.out]; exact rfl⟩
  | some o =>
    obtain ⟨u, l, he, hp, hs, hr⟩ := hpost.2
    obtain rfl : e9 = _ := he
    have HR9 := Lib.hid (And.intro hp (And.intro hs (hr.mono (lo' := w.heap.size) (by omega) (Nat.le_refl _))))
    clear hpost hr hp hs
    go_wp2
    go_ret2
    refine ⟨hBz, ?_⟩
    rw [HX.out]
    exact ⟨_, _, rfl, HR9.out.1, HR9.out.2.1, HR9.out.2.2⟩
set_option maxRecDepth 20000 in
set_option maxHeartbeats 8000000 in
theorem nfoS_any {z z1 : Bool} {lo hi lo1 hi1 : Nat} (w : World) (v a b : Value) (rs : List Rul) (t : Kin) (h : Rd z lo hi w [v] rs) (h' : Rd z1 lo1 hi1 w [a, b] t) (X : Option (List Kin)) (hX : X = nfoX rs t) :
    Calls Try.prog 19 #[v, .agg #[a, b]] w (PostNf w X) := by
  obtain ⟨ao, n, cap, rfl, rfl, hnc, hcm, -⟩ := h.shape
  have HT := Lib.hid h'
  obtain ⟨rfl, -, hb⟩ := h'.kin
  obtain ⟨sao, sn, scap, rfl, -⟩ := hb.shape
  obtain ⟨r1, hlet_r1⟩ : ∃ r, r = areRules rs := ⟨_, rfl⟩
  have H1 := Lib.hid hlet_r1
  clear hlet_r1
  obtain ⟨r2, hlet_r2⟩ : ∃ r, r = isKin t := ⟨_, rfl⟩
  have H2 := Lib.hid hlet_r2
  clear hlet_r2
  have HX := Lib.hid (show X = if (r1 && r2) = true then nfB rs 500 502 0 [t] [] else none by rw [hX, nfoX, redV, H1.out, H2.out])
  clear hX h' hb
  go_enter Try.func19, Try.ntmps19
  go_wp2_with fail
  refine (areRulesS_b _ _ rs (h.below bwT) r1 H1.out).mono ?_
  rintro e6 w6 ⟨rfl, hbw6⟩
  have hpw6 : Below w.heap.size w w6 := Below.after bwT hbw6 szT
  have sw6 := hpw6.size
  have hBw6 : Below w.heap.size w w6 := hpw6
  have l_t : w.heap.size < w6.heap.size := by have := hbw6.size; simp at this; omega
  have q_t0 : w6.cell? ⟨w.heap.size, 0, none⟩ = some (.int .i64 t.1) := oldc hbw6 ltT (by simp [go_sem])
  have q_t1 : w6.cell? ⟨w.heap.size, 1, none⟩ = some (.slice sao sn scap) := oldc hbw6 ltT (by simp [go_sem])
  clear hbw6 hpw6
  cases r1
  · have HN := Lib.hid (show X = none by rw [HX.out]; rfl)
    have hBz : Below w.heap.size w w6 := hBw6
    clear HX H1 H2 h
    go_wp2
    go_ret2
    exact ⟨hBz, by rw [HN.out]; exact rfl⟩
  go_wp2_with fail
  refine (isTypeS_b _ _ _ t (HT.out.below bwT) r2 H2.out).mono ?_
  rintro e7 w7 ⟨rfl, hbw7⟩
  have hpw7 : Below w6.heap.size w6 w7 := Below.after bwT hbw7 szT
  have sw7 := hpw7.size
  have hBw7 : Below w.heap.size w w7 := Below.trans hBw6 (Below.mono hpw7 hBw6.size)
  have q_t0 := oldc hpw7 l_t q_t0
  have q_t1 := oldc hpw7 l_t q_t1
  have l_t := Nat.lt_of_lt_of_le l_t sw7
  clear hbw7 hpw7
  cases r2
  · have HN := Lib.hid (show X = none by rw [HX.out]; rfl)
    have hBz : Below w.heap.size w w7 := hBw7
    clear HX H1 H2 h
    go_wp2
    go_ret2
    exact ⟨hBz, by rw [HN.out]; exact rfl⟩
  have HF := areRules_facts H1.out.symm
  have HRS := Lib.hid HF.2.1
  have hrl : rs.length ≤ 12 := HF.1
  clear HF
  have hBy : Below w.heap.size w w7 := hBw7
  obtain ⟨wy, hwy⟩ : ∃ W : World, W = w7 := ⟨_, rfl⟩
  subst hwy
  have sy := hBy.size
  have HX2 := Lib.hid (show X = nfB rs 500 502 0 [t] [] by rw [HX.out]; rfl)
  go_wp2_with fail
  refine (l4Forms_any _ _ _ _ rs t (h.below hBy) (HT.out.below hBy) HRS.out hrl H2.out.symm _ HX2.out).mono ?_
  rintro e9 w9 hpost
  have hBz : Below w.heap.size w w9 := hBy.trans (hpost.1.mono sy)
  clear HX HX2 H1 H2 h HRS
  obtain ⟨Y, hY⟩ : ∃ Y, Y = X := ⟨_, rfl⟩
  have HX := Lib.hid hY.symm
  rw [← hY] at hpost
  clear hY
  cases Y with
  | none =>
    obtain rfl : e9 = _ := hpost.2
    clear hpost
    go_wp2
    go_ret2
    exact ⟨hBz, by rw [HX.out]; exact rfl⟩
  | some o =>
    obtain ⟨u, he, hr⟩ := hpost.2
    obtain rfl : e9 = _ := he
    have HR9 := Lib.hid hr
    clear hpost hr
    go_wp2
    go_ret2
    refine ⟨hBz, ?_⟩
    rw [HX.out]
    exact ⟨_, rfl, HR9.out⟩

end

/-! ### Rdl -/
section

theorem sub_len {α : Type} [DecidableEq α] : ∀ {l s : List α}, l.Nodup → (∀ x ∈ l, x ∈ s) → l.length ≤ s.length
  | [], _, _, _ => Nat.zero_le _
  | a :: l, s, hn, h => by
    have hn' := List.nodup_cons.1 hn
    have ha : a ∈ s := h a List.mem_cons_self
    have h2 := sub_len (l := l) (s := s.erase a) hn'.2 (fun x hx => (List.mem_erase_of_ne (fun e : x = a => hn'.1 (by rw [← e]; exact hx))).2 (h x (List.mem_cons_of_mem _ hx)))
    rw [List.length_erase_of_mem ha] at h2
    have := List.length_pos_of_mem ha
    rw [List.length_cons]; omega
theorem red_keeps {rs : List Rul} (hrs : allRules rs) {t u : Kin} (ht : isKin t = true) (hu : u ∈ redL rs t) : sexOf u = sexOf t ∧ egoOf u = egoOf t ∧ u.2.length ≤ t.2.length ∧ isKin u = true := by
  obtain ⟨i, h1, r, h2, h3, rfl⟩ := redL_in.1 hu
  have h := repl_ok (hrs r h2) ht h3
  exact ⟨h.2.1, h.2.2.1, h.2.2.2, h.1⟩
theorem rch_keeps {rs : List Rul} (hrs : allRules rs) {t u : Kin} (h : Rch rs t u) (ht : isKin t = true) : sexOf u = sexOf t ∧ egoOf u = egoOf t ∧ u.2.length ≤ t.2.length ∧ isKin u = true := by
  induction h with
  | refl t => exact ⟨rfl, rfl, Nat.le_refl _, ht⟩
  | step h1 _ ih =>
    have g := red_keeps hrs ht h1
    have g2 := ih g.2.2.2
    exact ⟨g2.1.trans g.1, g2.2.1.trans g.2.1, Nat.le_trans g2.2.2.1 g.2.2.1, g2.2.2.2⟩
/-- What the walk over the forms tells holds just forms that are reached. -/
theorem nfB_snd {rs : List Rul} {most : Nat} {a : Kin} : ∀ {f i : Nat} {o out L : List Kin}, nfB rs most f i o out = some L → (∀ x ∈ o, Rch rs a x) → (∀ x ∈ out, Rch rs a x ∧ redL rs x = []) → ∀ x ∈ L, Rch rs a x ∧ redL rs x = []
  | 0, _, _, _, _, h, _, _ => by cases h
  | f + 1, i, o, out, L, h, h1, h2 => by
    cases ht : o[i]? with
    | none => rw [nfB_end ht] at h; obtain rfl := Option.some.inj h; exact h2
    | some t =>
      by_cases hb : most < (nAll o (redL rs t)).length
      · rw [nfB_big ht hb] at h; cases h
      · rw [nfB_go ht hb] at h
        have htm := h1 t (List.mem_of_getElem? ht)
        refine nfB_snd h (fun x hx => ?_) (fun x hx => ?_)
        · rcases nAll_mem.1 hx with hx | hx
          · exact h1 x hx
          · exact htm.snoc hx
        · split at hx
          · rename_i hr
            rcases List.mem_append.1 hx with hx | hx
            · exact h2 x hx
            · rw [List.mem_singleton] at hx; subst hx; exact ⟨htm, hr⟩
          · exact h2 x hx
theorem nfB_mem {rs : List Rul} {most f : Nat} {t x : Kin} {L : List Kin} (h : nfB rs most f 0 [t] [] = some L) (hx : x ∈ L) : Rch rs t x ∧ redL rs x = [] :=
  nfB_snd h (fun y hy => by rw [List.mem_singleton] at hy; subst hy; exact .refl _) (fun y hy => by cases hy) x hx
theorem nAdd_nd {o : List Kin} {u : Kin} (h : o.Nodup) : (nAdd o u).Nodup := by
  unfold nAdd
  split
  · exact h
  · rename_i hu
    rw [List.nodup_append]
    exact ⟨h, by simp, fun a ha b hb e => by rw [List.mem_singleton] at hb; subst hb; subst e; exact hu ha⟩
theorem nAll_nd : ∀ {next o : List Kin}, o.Nodup → (nAll o next).Nodup
  | [], _, h => h
  | u :: next, o, h => by
    have e : nAll o (u :: next) = nAll (nAdd o u) next := rfl
    rw [e]; exact nAll_nd (nAdd_nd h)
theorem nfB_set {rs : List Rul} {most : Nat} : ∀ {f i : Nat} {o out L : List Kin}, nfB rs most f i o out = some L → i ≤ o.length → o.length ≤ most → (∀ j t, j < i → o[j]? = some t → ∀ u ∈ redL rs t, u ∈ o) →
    ∃ O : List Kin, (∀ t ∈ o, t ∈ O) ∧ O.length ≤ most ∧ ∀ t ∈ O, ∀ u ∈ redL rs t, u ∈ O
  | 0, _, _, _, _, h, _, _, _ => by cases h
  | f + 1, i, o, out, L, h, hi, hm, hinv => by
    cases ht : o[i]? with
    | none =>
      refine ⟨o, fun _ h => h, hm, fun t htm => ?_⟩
      obtain ⟨j, hj, e⟩ := List.getElem_of_mem htm
      have hl : o.length ≤ i := List.getElem?_eq_none_iff.1 ht
      exact hinv j t (by omega) (by rw [List.getElem?_eq_getElem hj, e])
    | some t =>
      have hlt : i < o.length := (List.getElem?_eq_some_iff.1 ht).1
      by_cases hb : most < (nAll o (redL rs t)).length
      · rw [nfB_big ht hb] at h; cases h
      · rw [nfB_go ht hb] at h
        obtain ⟨O, h1, h2, h3⟩ := nfB_set h (by have := (nAll_len (redL rs t) o).1; omega) (by omega) (by
          intro j t' hj hjt
          by_cases hji : j < i
          · have h0 : o[j]? = some o[j] := List.getElem?_eq_getElem (by omega)
            have e := nAll_pre (redL rs t) o h0
            rw [hjt] at e
            obtain rfl := Option.some.inj e
            exact fun u hu => nAll_mem.2 (.inl (hinv j _ hji h0 u hu))
          · obtain rfl : j = i := by omega
            have e := nAll_pre (redL rs t) o ht
            rw [hjt] at e
            obtain rfl := Option.some.inj e
            exact fun u hu => nAll_mem.2 (.inr hu))
        exact ⟨O, fun x hx => h1 x (nAll_mem.2 (.inl hx)), h2, h3⟩
theorem nfB_fine {rs : List Rul} {most : Nat} {S : List Kin} (hS : ∀ t ∈ S, ∀ u ∈ redL rs t, u ∈ S) (hm : S.length ≤ most) : ∀ {f i : Nat} {o out : List Kin}, (∀ x ∈ o, x ∈ S) → o.Nodup → i ≤ o.length → most + 2 ≤ f + i → ∃ L, nfB rs most f i o out = some L
  | 0, i, o, out, h1, h2, h3, h4 => by have := sub_len h2 h1; omega
  | f + 1, i, o, out, h1, h2, h3, h4 => by
    cases ht : o[i]? with
    | none => exact ⟨_, nfB_end ht⟩
    | some t =>
      have hlt : i < o.length := (List.getElem?_eq_some_iff.1 ht).1
      have hsub : ∀ x ∈ nAll o (redL rs t), x ∈ S := fun x hx => (nAll_mem.1 hx).elim (h1 x) (hS t (h1 t (List.mem_of_getElem? ht)) x)
      have hnd : (nAll o (redL rs t)).Nodup := nAll_nd h2
      have hl := sub_len hnd hsub
      rw [nfB_go ht (by omega)]
      exact nfB_fine hS hm hsub hnd (by have := (nAll_len (redL rs t) o).1; omega) (by omega)
/-- The forms of a reduct: they are found, and all among the type's own. -/
theorem red_forms {rs : List Rul} (hrs : allRules rs) {t u : Kin} {A : List Kin} (ht : isKin t = true) (h : nfB rs 500 502 0 [t] [] = some A) (hu : u ∈ redL rs t) :
    ∃ L, nfB rs 500 502 0 [u] [] = some L ∧ 0 < L.length ∧ ∀ x ∈ L, x ∈ A := by
  obtain ⟨O, h1, h2, h3⟩ := nfB_set h (Nat.zero_le _) (by simp) (fun j _ hj => by omega)
  have htO : t ∈ O := h1 t (by simp)
  have hku := (red_keeps hrs ht hu).2.2.2
  obtain ⟨L, hL⟩ := nfB_fine (rs := rs) (most := 500) (S := O) h3 h2 (f := 502) (i := 0) (o := [u]) (out := []) (fun x hx => by rw [List.mem_singleton] at hx; subst hx; exact h3 t htO _ hu) (by simp) (Nat.zero_le _) (by omega)
  refine ⟨L, hL, List.length_pos_of_mem (nfB_has hL (nf_rch hrs _ (Nat.le_refl _) hku) (nf_end hrs hku)), fun x hx => ?_⟩
  obtain ⟨g1, g2⟩ := nfB_mem hL hx
  exact nfB_has h (.step hu g1) g2
theorem nf_forms {rs : List Rul} (hrs : allRules rs) {t : Kin} {A : List Kin} (ht : isKin t = true) (h : nfB rs 500 502 0 [t] [] = some A) : nf rs t ∈ A := nfB_has h (nf_rch hrs _ (Nat.le_refl _) ht) (nf_end hrs ht)
/-- The trace ends with the form's text. -/
theorem trL_last {rs : List Rul} (hrs : allRules rs) : ∀ (n : Nat) {t : Kin} (s : ByteArray), enc t.2 ≤ n → isKin t = true → (∃ pre : ByteArray, s = pre ++ kinTxt t) → ∃ pre : ByteArray, (s :: trL rs t).getLast? = some (pre ++ kinTxt (nf rs t))
  | n, t, s, hn, ht, ⟨pre, hs⟩ => by
    cases hr : rewr rs t with
    | none => rw [trL_none hr, nf_none hr]; exact ⟨pre, by rw [hs]; rfl⟩
    | some p =>
      obtain ⟨u, k, i⟩ := p
      obtain ⟨r, -, -, -, -, hu, he⟩ := rewr_some hrs ht hr
      rw [trL_some hrs ht hr, nf_some hrs ht hr, List.getLast?_cons_cons]
      match n with
      | 0 => omega
      | n + 1 => exact trL_last hrs n (trLine rs k u) (by omega) hu ⟨_, rfl⟩
theorem trace_last {rs : List Rul} (ha : areRules rs = true) {t : Kin} (ht : isKin t = true) : ∃ pre : ByteArray, (traceX rs t).getLast? = some (pre ++ kinTxt (nf rs t)) := by
  unfold traceX
  rw [ha, ht]
  exact trL_last (areRules_facts ha).2.1 _ (kinTxt t) (Nat.le_refl _) ht ⟨⟨#[]⟩, bL_inj (by rw [bL_app]; rfl)⟩
theorem trace_first {rs : List Rul} (ha : areRules rs = true) {t : Kin} (ht : isKin t = true) : (traceX rs t)[0]? = some (kinTxt t) := by
  unfold traceX
  rw [ha, ht]; rfl

end

/-! ### NfU -/
section
open Go.RowKit Go.Sort

theorem cmpS_self : ∀ a : List Stp, cmpS a a = 0
  | [] => rfl
  | x :: a => by simp only [cmpS, if_true]; exact cmpS_self a
theorem cmpS_cons {x y : Stp} {a b : List Stp} : cmpS (x :: a) (y :: b) < 0 ↔ x.1 < y.1 ∨ (x.1 = y.1 ∧ (x.2 < y.2 ∨ (x.2 = y.2 ∧ cmpS a b < 0))) := by
  simp only [cmpS]
  by_cases h1 : x.1 = y.1
  · rw [if_pos h1]
    by_cases h2 : x.2 = y.2
    · rw [if_pos h2]
      constructor
      · exact fun h => .inr ⟨h1, .inr ⟨h2, h⟩⟩
      · rintro (h | ⟨-, h | ⟨-, h⟩⟩)
        · omega
        · omega
        · exact h
    · rw [if_neg h2, cmpI_neg]
      constructor
      · exact fun h => .inr ⟨h1, .inl h⟩
      · rintro (h | ⟨-, h | ⟨h, -⟩⟩)
        · omega
        · exact h
        · exact absurd h h2
  · rw [if_neg h1, cmpI_neg]
    constructor
    · exact .inl
    · rintro (h | ⟨h, -⟩)
      · exact h
      · exact absurd h h1
theorem cmpS_trans : ∀ {a b c : List Stp}, cmpS a b < 0 → cmpS b c < 0 → cmpS a c < 0
  | [], [], _, h, _ => by simp [cmpS] at h
  | [], _ :: _, [], _, h => by simp [cmpS] at h
  | [], _ :: _, _ :: _, _, _ => by simp [cmpS]
  | _ :: _, [], _, h, _ => by simp [cmpS] at h
  | _ :: _, _ :: _, [], _, h => by simp [cmpS] at h
  | x :: a, y :: b, z :: c, h1, h2 => by
    rw [cmpS_cons] at *
    rcases h1 with h1 | ⟨h1, h1' | ⟨h1', h1''⟩⟩
    · rcases h2 with h2 | ⟨h2, -⟩
      · exact .inl (by omega)
      · exact .inl (by omega)
    · rcases h2 with h2 | ⟨h2, h2' | ⟨h2', -⟩⟩
      · exact .inl (by omega)
      · exact .inr ⟨by omega, .inl (by omega)⟩
      · exact .inr ⟨by omega, .inl (by omega)⟩
    · rcases h2 with h2 | ⟨h2, h2' | ⟨h2', h2''⟩⟩
      · exact .inl (by omega)
      · exact .inr ⟨by omega, .inl (by omega)⟩
      · exact .inr ⟨by omega, .inr ⟨by omega, cmpS_trans h1'' h2''⟩⟩
theorem cmpS_tri : ∀ {a b : List Stp}, ¬ cmpS a b < 0 → ¬ cmpS b a < 0 → a = b
  | [], [], _, _ => rfl
  | [], _ :: _, h, _ => absurd (by simp [cmpS]) h
  | _ :: _, [], _, h => absurd (by simp [cmpS]) h
  | x :: a, y :: b, h1, h2 => by
    rw [cmpS_cons] at h1 h2
    have e1 : x.1 = y.1 := by
      rcases Int.lt_trichotomy x.1 y.1 with h | h | h
      · exact absurd (.inl h) h1
      · exact h
      · exact absurd (.inl h) h2
    have e2 : x.2 = y.2 := by
      rcases Int.lt_trichotomy x.2 y.2 with h | h | h
      · exact absurd (.inr ⟨e1, .inl h⟩) h1
      · exact h
      · exact absurd (.inr ⟨e1.symm, .inl h⟩) h2
    rw [cmpS_tri (fun h => h1 (.inr ⟨e1, .inr ⟨e2, h⟩⟩)) (fun h => h2 (.inr ⟨e1.symm, .inr ⟨e2.symm, h⟩⟩)), Prod.ext e1 e2]
theorem kB_iff {x y : Kin} : kB x y = true ↔ x.2.length < y.2.length ∨ (x.2.length = y.2.length ∧ cmpS x.2 y.2 < 0) := by
  by_cases h : x.2.length = y.2.length
  · rw [kB_cmp h, decide_eq_true_eq]
    constructor
    · exact fun h1 => .inr ⟨h, h1⟩
    · rintro (h1 | ⟨-, h1⟩)
      · omega
      · exact h1
  · rw [kB_len h, decide_eq_true_eq]
    constructor
    · exact .inl
    · rintro (h1 | ⟨h1, -⟩)
      · exact h1
      · exact absurd h1 h
theorem kB_self (x : Kin) : kB x x = false := by
  cases h : kB x x with
  | false => rfl
  | true => rcases kB_iff.1 h with h | ⟨-, h⟩
            · omega
            · rw [cmpS_self] at h; omega
theorem kB_trans {x y z : Kin} (h1 : kB x y = true) (h2 : kB y z = true) : kB x z = true := by
  rw [kB_iff] at *
  rcases h1 with h1 | ⟨h1, h1'⟩
  · rcases h2 with h2 | ⟨h2, -⟩
    · exact .inl (by omega)
    · exact .inl (by omega)
  · rcases h2 with h2 | ⟨h2, h2'⟩
    · exact .inl (by omega)
    · exact .inr ⟨by omega, cmpS_trans h1' h2'⟩
theorem kB_tri {x y : Kin} (h1 : kB x y = false) (h2 : kB y x = false) : x.2 = y.2 := by
  have g1 : ¬ kB x y = true := by rw [h1]; exact Bool.noConfusion
  have g2 : ¬ kB y x = true := by rw [h2]; exact Bool.noConfusion
  rw [kB_iff] at g1 g2
  have hl : x.2.length = y.2.length := by omega
  exact cmpS_tri (fun h => g1 (.inr ⟨hl, h⟩)) (fun h => g2 (.inr ⟨hl.symm, h⟩))
theorem kB_swo : SWO kB where
  irrefl := kB_self
  trans _ _ _ := kB_trans
  ntrans x y z h1 h2 := by
    cases h3 : kB x z with
    | false => rfl
    | true =>
      cases h4 : kB y x with
      | true => have := kB_trans h4 h3; rw [h2] at this; cases this
      | false =>
        have e := kB_tri h1 h4
        have : kB x z = kB y z := by unfold kB; rw [e]
        rw [this, h2] at h3; cases h3
theorem kins_perm (t : Kin) : ∀ l : List Kin, (kins t l).Perm (t :: l)
  | [] => List.Perm.refl _
  | u :: l => by
    rw [kins]
    split
    · exact List.Perm.refl _
    · exact ((kins_perm t l).cons u).trans (List.Perm.swap t u l)
theorem kins_asc {t : Kin} : ∀ {l : List Kin}, l.Pairwise (fun x y => kB y x = false) → (kins t l).Pairwise (fun x y => kB y x = false)
  | [], _ => List.pairwise_singleton _ _
  | u :: l, h => by
    rw [List.pairwise_cons] at h
    rw [kins]
    split
    · rename_i hb
      have hb : kB t u = true := hb
      refine List.Pairwise.cons (fun x hx => ?_) (List.Pairwise.cons h.1 h.2)
      rcases List.mem_cons.1 hx with rfl | hx
      · exact kB_swo.asymmA hb
      · exact kB_swo.ntrans _ _ _ (h.1 x hx) (kB_swo.asymmA hb)
    · rename_i hb
      have hb : kB t u = false := by cases h : kB t u with | false => rfl | true => exact absurd h hb
      refine List.Pairwise.cons (fun x hx => ?_) (kins_asc h.2)
      rcases List.mem_cons.1 ((kins_perm t l).mem_iff.1 hx) with rfl | hx
      · exact hb
      · exact h.1 x hx
theorem foldk_srt : ∀ (o s : List Kin), s.Pairwise (fun x y => kB y x = false) → (o.foldl (fun s t => kins t s) s).Pairwise (fun x y => kB y x = false) ∧ (o.foldl (fun s t => kins t s) s).Perm (o ++ s)
  | [], s, h => ⟨h, List.Perm.refl _⟩
  | t :: o, s, h => by
    have g := foldk_srt o (kins t s) (kins_asc h)
    refine ⟨g.1, g.2.trans ?_⟩
    exact ((kins_perm t s).append_left o).trans List.perm_middle
theorem ksrt_asc (o : List Kin) : (ksrt o).Pairwise (fun x y => kB y x = false) := (foldk_srt o [] List.Pairwise.nil).1
theorem ksrt_perm (o : List Kin) : (ksrt o).Perm o := by
  have h := (foldk_srt o [] List.Pairwise.nil).2
  rw [List.append_nil] at h
  exact h
theorem asc_eqK : ∀ {a b : List Kin}, a.Perm b → (∀ x ∈ a, ∀ y ∈ a, kB x y = false → kB y x = false → x = y) → a.Pairwise (fun x y => kB y x = false) → b.Pairwise (fun x y => kB y x = false) → a = b
  | [], b, h, _, _, _ => (List.Perm.nil_eq h)
  | x :: a, [], h, _, _, _ => absurd h.symm (by simp)
  | x :: a, y :: b, h, ht, ha, hb => by
    rw [List.pairwise_cons] at ha hb
    have hxy : x = y := by
      by_cases e : x = y
      · exact e
      · have hx : x ∈ y :: b := h.mem_iff.1 (by simp)
        have hy : y ∈ x :: a := h.mem_iff.2 (by simp)
        have h1 : x ∈ b := by rcases List.mem_cons.1 hx with h | h; exact absurd h e; exact h
        have h2 : y ∈ a := by rcases List.mem_cons.1 hy with h | h; exact absurd h.symm e; exact h
        exact ht x (by simp) y hy (hb.1 x h1) (ha.1 y h2)
    subst hxy
    rw [asc_eqK (List.Perm.cons_inv h) (fun u hu v hv => ht u (List.mem_cons_of_mem _ hu) v (List.mem_cons_of_mem _ hv)) ha.2 hb.2]
theorem stab_asc {o l : List Kin} (h : StabOf o l) : l.Pairwise (fun x y => kB y x = false) := by
  rcases h with ⟨h, rfl⟩ | ⟨n, inh, hn, rfl⟩
  · match l, h with
    | [], _ => exact List.Pairwise.nil
    | [x], _ => exact List.pairwise_singleton _ _
  · rw [List.pairwise_map]
    have hsw : SWO (fun a b : Fin n => kB (o[a.val]'(by omega)) (o[b.val]'(by omega))) := ⟨fun _ => kB_swo.irrefl _, fun _ _ _ => kB_swo.trans _ _ _, fun _ _ _ => kB_swo.ntrans _ _ _⟩
    have hz : ((List.finRange n).toArray).size = n := by simp
    have hs := @stable_ok (Fin n) inh _ hsw n (List.finRange n).toArray hz
    have hsz := @stable_size (Fin n) inh (fun a b : Fin n => kB (o[a.val]'(by omega)) (o[b.val]'(by omega))) n (List.finRange n).toArray
    rw [hz] at hsz
    generalize @stableA (Fin n) inh (fun a b : Fin n => kB (o[a.val]'(by omega)) (o[b.val]'(by omega))) n (List.finRange n).toArray = D at hs hsz
    rw [List.pairwise_iff_getElem]
    intro i j hi hj hij
    have hi' : i < D.size := by simpa using hi
    have hj' : j < D.size := by simpa using hj
    have h := hs i j (Nat.zero_le _) hij (by omega)
    rw [getElem!_pos D j hj', getElem!_pos D i hi'] at h
    rw [Array.getElem_toList, Array.getElem_toList]
    exact h
theorem rch_ego {rs : List Rul} (hrs : allRules rs) {t x : Kin} (h : Rch rs t x) (ht : isKin t = true) : x = t ∨ x.1 = egoOf t := by
  induction h with
  | refl t => exact .inl rfl
  | @step t u v h1 h2 ih =>
    have g := red_keeps hrs ht h1
    have hu : u.1 = egoOf t := by obtain ⟨i, -, r, -, -, rfl⟩ := redL_in.1 h1; rfl
    rcases ih g.2.2.2 with h | h
    · exact .inr (by rw [h]; exact hu)
    · exact .inr (by rw [h]; exact g.2.1)
theorem rch_end {rs : List Rul} {t x : Kin} (h : Rch rs t x) (hr : redL rs t = []) : x = t := by
  cases h with
  | refl => rfl
  | step h1 h2 => rw [hr] at h1; cases h1
theorem nfB_ego {rs : List Rul} (hrs : allRules rs) {most f : Nat} {t x y : Kin} {L : List Kin} (ht : isKin t = true) (h : nfB rs most f 0 [t] [] = some L) (hx : x ∈ L) (hy : y ∈ L) : x.1 = y.1 := by
  obtain ⟨h1, h2⟩ := nfB_mem h hx
  obtain ⟨h3, h4⟩ := nfB_mem h hy
  rcases rch_ego hrs h1 ht with e1 | e1
  · subst e1; rw [rch_end h3 h2]
  · rcases rch_ego hrs h3 ht with e2 | e2
    · subst e2; rw [rch_end h1 h4]
    · rw [e1, e2]
/-- What the program sorts is what the reference lays. -/
theorem nf_sorted {rs : List Rul} (hrs : allRules rs) {most f : Nat} {t : Kin} {o l : List Kin} (ht : isKin t = true) (h : nfB rs most f 0 [t] [] = some o) (hp : l.Perm o) (hs : StabOf o l) : l = ksrt o :=
  asc_eqK (hp.trans (ksrt_perm o).symm) (fun x hx y hy h1 h2 => Prod.ext (nfB_ego hrs ht h (hp.mem_iff.1 hx) (hp.mem_iff.1 hy)) (kB_tri h1 h2)) (stab_asc hs) (ksrt_asc o)
theorem nfB_len {rs : List Rul} {most : Nat} : ∀ {f i : Nat} {o out L : List Kin}, nfB rs most f i o out = some L → out.length ≤ i → i ≤ o.length → o.length ≤ most → L.length ≤ most
  | 0, _, _, _, _, h, _, _, _ => by cases h
  | f + 1, i, o, out, L, h, h1, h2, h3 => by
    cases ht : o[i]? with
    | none => rw [nfB_end ht] at h; obtain rfl := Option.some.inj h; omega
    | some t =>
      have hlt : i < o.length := (List.getElem?_eq_some_iff.1 ht).1
      by_cases hb : most < (nAll o (redL rs t)).length
      · rw [nfB_big ht hb] at h; cases h
      · rw [nfB_go ht hb] at h
        refine nfB_len h ?_ (by have := (nAll_len (redL rs t) o).1; omega) (by omega)
        split
        · rw [List.length_append]; simp; omega
        · omega
def nfoR (rs : List Rul) (t : Kin) : List Kin := match nfoX rs t with | some o => ksrt o | none => []
def nfoV (rs : List Rul) (t : Kin) : Bool := (nfoX rs t).isSome
theorem nfoX_some {rs : List Rul} {t : Kin} {o : List Kin} (h : nfoX rs t = some o) : allRules rs ∧ isKin t = true ∧ nfB rs 500 502 0 [t] [] = some o := by
  unfold nfoX at h
  split at h
  · rename_i hr
    unfold redV at hr
    rw [Bool.and_eq_true] at hr
    exact ⟨(areRules_facts hr.1).2.1, hr.2, h⟩
  · cases h
theorem nfoR_cnt (rs : List Rul) (t : Kin) : lenBy cntKin (nfoR rs t) ≤ 20000 := by
  unfold nfoR
  cases h : nfoX rs t with
  | none => exact Nat.zero_le _
  | some o =>
    obtain ⟨h1, h2, h3⟩ := nfoX_some h
    refine Nat.le_trans (kins_cn (m := 500) (k := 8) ?_ fun x hx => ?_) (by omega)
    · dsimp only; rw [ksrt_len]; exact nfB_len h3 (Nat.le_refl _) (Nat.zero_le _) (by simp)
    · exact (isKin_facts (((nfB_mem h3 ((ksrt_perm o).mem_iff.1 hx)).1).kin h1 h2)).2.1
def PostRdB {α : Type} [Rep α] (w : World) (x : α) (b : Bool) (e : Ending) (w' : World) : Prop := ∃ u, e = .returned (.tuple #[u, .bool b]) ∧ Rd false 0 w'.heap.size w' [u] x ∧ Below w.heap.size w w'
theorem nfoI_o {z z1 : Bool} {lo hi lo1 hi1 : Nat} (w : World) (v a b : Value) (rs : List Rul) (t : Kin) (h : Rd z lo hi w [v] rs) (h' : Rd z1 lo1 hi1 w [a, b] t) :
    Calls Try.prog 21 #[v, .agg #[a, b]] w (PostOwB w (nfoR rs t) (nfoV rs t)) := by
  refine (nfoI_any w v a b rs t h h' _ rfl).mono ?_
  rintro e w' ⟨hb, hp⟩
  unfold nfoR nfoV
  cases hX : nfoX rs t with
  | none =>
    rw [hX] at hp
    exact ⟨_, hp, ((GL.start true w.heap.size w.heap.size _ _ 36).ow (Nat.le_refl _) (Nat.le_refl _)).mono (Nat.le_refl _) (Nat.le_refl _), hb⟩
  | some o =>
    rw [hX] at hp
    obtain ⟨u, l, he, hpm, hs, hr⟩ := hp
    obtain ⟨h1, h2, h3⟩ := nfoX_some hX
    rw [nf_sorted h1 h2 h3 hpm hs] at hr
    exact ⟨u, he, hr, hb⟩
theorem nfoS_o {z z1 : Bool} {lo hi lo1 hi1 : Nat} (w : World) (v a b : Value) (rs : List Rul) (t : Kin) (h : Rd z lo hi w [v] rs) (h' : Rd z1 lo1 hi1 w [a, b] t) :
    Calls Try.prog 19 #[v, .agg #[a, b]] w (PostRdB w (nfoR rs t) (nfoV rs t)) := by
  refine (nfoS_any w v a b rs t h h' _ rfl).mono ?_
  rintro e w' ⟨hb, hp⟩
  unfold nfoR nfoV
  cases hX : nfoX rs t with
  | none =>
    rw [hX] at hp
    obtain ⟨fp, g1, g2⟩ := (((GL.start (α := Kin) true w.heap.size w.heap.size w'.heap.size w' 36).ow (Nat.le_refl _) (Nat.le_refl _)).rd.mono (lo' := 0) (Nat.zero_le _) (Nat.le_refl _))
    exact ⟨_, hp, ⟨fp, Rep.weak g1, g2⟩, hb⟩
  | some o =>
    rw [hX] at hp
    obtain ⟨u, he, hr⟩ := hp
    exact ⟨u, he, hr, hb⟩

end

end Go.Proofs.Ytoipdgoejichbaa
