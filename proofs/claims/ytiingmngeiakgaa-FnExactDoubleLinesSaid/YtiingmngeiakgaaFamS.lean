/- Contracts of IsFamily (spec). -/
import Derived.Test.YtiingmngeiakgaaPerS
import Derived.Test.YtiingmngeiakgaaDepS
import Derived.Test.YtiingmngeiakgaaUniS
import Derived.Test.YtiingmngeiakgaaFamH
namespace Go.Proofs.Ytiingmngeiakgaa
set_option linter.unusedVariables false
set_option linter.unusedSimpArgs false
open Go.RowKit

theorem PplTo.snoc {ps : List Per} {k : Nat} (h : PplTo ps k) (hk : perOk ps k = true) : PplTo ps (k + 1) := by
  intro i hi
  by_cases e : i = k
  · subst e; exact hk
  · exact h i (by omega)
theorem famB_ppl {f : Fam} {k : Nat} (hk : k < f.1.length) (h : perOk f.1 k = false) : famB f = false := by
  unfold famB; rw [all_range_false hk h]; simp
theorem famB_dep {f : Fam} (h : depOk f.1 = false) : famB f = false := by unfold famB; rw [h]; simp
theorem famB_uni {f : Fam} {k : Nat} (hk : k < f.2.length) (h : uniOk f k = false) : famB f = false := by
  unfold famB; rw [all_range_false hk h]; simp
theorem famB_true {f : Fam} (h1 : f.1.length ≤ 40) (h2 : f.2.length ≤ 60) (hp : PplTo f.1 f.1.length) (hd : depOk f.1 = true) (hu : ∀ k, k < f.2.length → uniOk f k = true) : famB f = true := by
  unfold famB; rw [all_range.2 hp, all_range.2 hu, hd]; simp [h1, h2]
theorem deps_step {L : List Int} {k : Nat} {d : Int} (h : L[k]? = some d) : (L.drop k).all (fun d => decide (d ≤ 10)) = (decide (d ≤ 10) && (L.drop (k + 1)).all fun d => decide (d ≤ 10)) := by
  rw [drop_cons h, List.all_cons]

set_option maxRecDepth 20000 in
set_option maxHeartbeats 4000000 in
theorem isFamS_b {z : Bool} {lo hi : Nat} (w : World) (v v2 : Value) (f : Fam) (h : Rd z lo hi w [v, v2] f) (r : Bool) (hr : r = famB f) :
    Calls Try.prog 29 #[.agg #[v, v2]] w (PostB w r) := by
  obtain ⟨ha, hb⟩ := h.fam
  obtain ⟨ao, n, cap, rfl, hn, hnc, hcm, hnone⟩ := ha.shape
  obtain ⟨bo, n2, dap, rfl, hn2, hnc', hcm', hnone'⟩ := hb.shape
  subst hn hn2
  unfold maxLen at *
  have HR := Lib.hid hr
  clear hr h
  by_cases h1 : f.1.length ≤ 40
  rotate_left
  · have HX := Lib.hid (show false = r by rw [HR.out]; unfold famB; simp [h1])
    have h1' : (40 : Int) < (f.1.length : Int) := by omega
    clear ha hb
    go_enter Try.func29, Try.ntmps29
    go_wp2
    go_ret
    exact ⟨ret_bool HX.out, bwT⟩
  have h1' : ¬ (40 : Int) < (f.1.length : Int) := by omega
  by_cases h2 : f.2.length ≤ 60
  rotate_left
  · have HX := Lib.hid (show false = r by rw [HR.out]; unfold famB; simp [h2])
    have h2' : (60 : Int) < (f.2.length : Int) := by omega
    clear ha hb
    go_enter Try.func29, Try.ntmps29
    go_wp2
    go_ret
    exact ⟨ret_bool HX.out, bwT⟩
  have h2' : ¬ (60 : Int) < (f.2.length : Int) := by omega
  go_enter Try.func29, Try.ntmps29
  go_wp2
  go_loopw [3, 20] (fun _ s20 wr => ∃ k : Nat, k ≤ f.1.length ∧ s20 = .int .i64 k ∧ Hid (PplTo f.1 k) ∧ Below (w.heap.size + 1) (w.alloc (.cells #[.slice ao f.1.length cap, .slice bo f.2.length dap] 32)) wr) (fun _ s20 _ => f.1.length - (intOf s20).toNat)
  case atStart => exact ⟨0, Nat.zero_le _, rfl, Lib.hid (fun i hi => absurd hi (by omega)), Below.refl _ _⟩
  case round =>
    rename_i wr
    obtain ⟨k, hk, rfl, hP, hbb⟩ := hrel
    have sW := hbb.size
    simp only [World.size_alloc] at sW
    have hbw : Below w.heap.size w wr := Below.trans ((Below.refl _ _).alloc (Nat.le_refl _) _) (hbb.mono (by omega))
    have q_f0 : wr.cell? ⟨w.heap.size, 0, none⟩ = some (.slice ao f.1.length cap) := oldc hbb (by omega) (by simp [go_sem])
    have q_f1 : wr.cell? ⟨w.heap.size, 1, none⟩ = some (.slice bo f.2.length dap) := oldc hbb (by omega) (by simp [go_sem])
    by_cases hlt : k < f.1.length
    · have hI : (k : Int) < (f.1.length : Int) := by omega
      obtain ⟨r1, hlet_r1⟩ : ∃ r, r = perOk f.1 k := ⟨_, rfl⟩
      have H1 := Lib.hid hlet_r1
      clear hlet_r1
      go_wp2_with fail
      refine (perS_b _ _ _ f.1 (ha.below bwT) k hlt hP.out r1 H1.out).mono ?_
      rintro e w1 ⟨rfl, hb1⟩
      have hB1 : Below (w.heap.size + 1) (w.alloc (.cells #[.slice ao f.1.length cap, .slice bo f.2.length dap] 32)) w1 := Below.trans hbb (hb1.mono (by omega))
      have hB1w : Below w.heap.size w w1 := Below.after hbw hb1 hbw.size
      cases r1
      · have HX := Lib.hid (show false = r by rw [HR.out, famB_ppl hlt H1.out.symm])
        go_wp2
        go_ret
        exact ⟨ret_bool HX.out, hB1w⟩
      · have HN := Lib.hid (hP.out.snoc H1.out.symm)
        clear hP
        go_wp2
        go_roundw
        case rel => exact ⟨k + 1, by omega, by go_num, HN, hB1⟩
        case measure => simp [intOf]; omega
    · obtain rfl : k = f.1.length := by omega
      obtain ⟨W0, hW0⟩ : ∃ W : World, W = wr := ⟨_, rfl⟩
      subst hW0
      have l_f : w.heap.size < W0.heap.size := by omega
      go_wp2_with fail
      refine (depS_any _ _ _ f.1 (ha.below bwT) hP.out h1).mono ?_
      rintro e w2 ⟨u, rfl, hod, hb2⟩
      have s2 := hb2.size
      have q_f0 := oldc hb2 l_f q_f0
      have q_f1 := oldc hb2 l_f q_f1
      have l_f := Nat.lt_of_lt_of_le l_f s2
      have hB2 : Below w.heap.size w w2 := Below.after hbw hb2 hbw.size
      have hdl := deps_len f.1
      obtain ⟨D, hD⟩ : ∃ D, D = deps f.1 := ⟨_, rfl⟩
      rw [← hD] at hod hdl
      have HDp := Lib.hid (show depOk f.1 = (D.drop 0).all fun d => decide (d ≤ 10) by rw [hD]; rfl)
      clear hD hbb hb2
      obtain ⟨dao, dn, dcap, rfl, rfl, -, hdcm, -⟩ := hod.rd.shape
      unfold maxLen at hdcm
      have hdI : (D.length : Int) = (f.1.length : Int) := by omega
      go_wp2
      go_loopw [5, 31] (fun _ s31 wr => ∃ k : Nat, k ≤ D.length ∧ s31 = .int .i64 k ∧ Hid (depOk f.1 = (D.drop k).all fun d => decide (d ≤ 10)) ∧ Below w2.heap.size w2 wr) (fun _ s31 _ => D.length - (intOf s31).toNat)
      case atStart => exact ⟨0, Nat.zero_le _, rfl, HDp, Below.refl _ _⟩
      case round =>
        clear HDp
        obtain ⟨k, hkd, rfl, hd, hb3⟩ := hrel
        have hB3 : Below w.heap.size w wr := Below.trans hB2 (hb3.mono hB2.size)
        by_cases hltd : k < D.length
        · obtain ⟨db, doff, d, rfl, hx, hc, hd1, hd2, _⟩ := (hod.rd.below hb3).int_at hltd
          have hI2 : (k : Int) < (D.length : Int) := by omega
          have HS := Lib.hid (deps_step hx.out)
          clear hx
          by_cases h10 : d ≤ 10
          · have h10' : ¬ 10 < d := by omega
            have HN := Lib.hid (show depOk f.1 = (D.drop (k + 1)).all fun d => decide (d ≤ 10) by rw [hd.out, HS.out]; simp [h10])
            clear hd HS
            go_wp2
            go_roundw
            case rel => exact ⟨k + 1, by omega, by go_num, HN, hb3⟩
            case measure => simp [intOf]; omega
          · have h10' : 10 < d := by omega
            have HX := Lib.hid (show false = r by rw [HR.out, famB_dep (by rw [hd.out, HS.out]; simp [h10])])
            clear hd HS
            go_wp2
            go_ret
            exact ⟨ret_bool HX.out, hB3⟩
        · have HD := Lib.hid (show depOk f.1 = true by rw [hd.out, List.drop_eq_nil_of_le (by omega)]; rfl)
          have hI2 : ¬ (k : Int) < (D.length : Int) := by omega
          have q_f0 := oldc hb3 l_f q_f0
          have q_f1 := oldc hb3 l_f q_f1
          have l_f := Nat.lt_of_lt_of_le l_f hb3.size
          obtain ⟨W3, hW3⟩ : ∃ W : World, W = wr := ⟨_, rfl⟩
          subst hW3
          clear hd hod
          go_wp2
          go_loopw [6, 41] (fun _ s41 wr => ∃ k : Nat, k ≤ f.2.length ∧ s41 = .int .i64 k ∧ Hid (∀ i, i < k → uniOk f i = true) ∧ Below W3.heap.size W3 wr) (fun _ s41 _ => f.2.length - (intOf s41).toNat)
          case atStart => exact ⟨0, Nat.zero_le _, rfl, Lib.hid (fun i hi => absurd hi (by omega)), Below.refl _ _⟩
          case round =>
            obtain ⟨k, hku, rfl, hU, hb4⟩ := hrel
            have hB4 : Below w.heap.size w wr := Below.trans hB3 (hb4.mono hB3.size)
            have q_f0 := oldc hb4 l_f q_f0
            have q_f1 := oldc hb4 l_f q_f1
            by_cases hltu : k < f.2.length
            · have hI3 : (k : Int) < (f.2.length : Int) := by omega
              obtain ⟨r5, hlet_r5⟩ : ∃ r, r = uniOk f k := ⟨_, rfl⟩
              have H5 := Lib.hid hlet_r5
              clear hlet_r5
              go_wp2_with fail
              refine (uniS_b _ _ _ f (ha.below bwT) (hb.below bwT) h1 hP.out k hltu h2 r5 H5.out).mono ?_
              rintro e w5 ⟨rfl, hb5⟩
              have hb45 : Below W3.heap.size W3 w5 := Below.after hb4 hb5 hb4.size
              have hB5 : Below w.heap.size w w5 := Below.after hB4 hb5 hB4.size
              cases r5
              · have HX := Lib.hid (show false = r by rw [HR.out, famB_uni hltu H5.out.symm])
                go_wp2
                go_ret
                exact ⟨ret_bool HX.out, hB5⟩
              · have HN := Lib.hid (show ∀ i, i < k + 1 → uniOk f i = true by
                  intro i hi
                  by_cases e : i = k
                  · subst e; exact H5.out.symm
                  · exact hU.out i (by omega))
                clear hU
                go_wp2
                go_roundw
                case rel => exact ⟨k + 1, by omega, by go_num, HN, hb45⟩
                case measure => simp [intOf]; omega
            · have HX := Lib.hid (show true = r by rw [HR.out, famB_true h1 h2 hP.out HD.out (fun i hi => hU.out i (by omega))])
              have hI3 : ¬ (k : Int) < (f.2.length : Int) := by omega
              clear hU
              go_wp2
              go_ret
              exact ⟨ret_bool HX.out, hB4⟩
end Go.Proofs.Ytiingmngeiakgaa
