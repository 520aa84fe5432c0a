/- Contract of l6All. -/
import Derived.Test.YtlnhhfebmeekhaaAll
namespace Go.Proofs.Ytlnhhfebmeekhaa
set_option linter.unusedVariables false
set_option linter.unusedSimpArgs false
open Go.RowKit

set_option maxRecDepth 20000 in
set_option maxHeartbeats 2000000 in
theorem permsS_any (w : World) (n : Nat) (hn : n ≤ 5) :
    Calls Try.prog 35 #[.int .i64 n] w (PostOw w (perms n n)) := by
  go_enter Try.func35, Try.ntmps35
  go_wp2
  go_loopw [3, 4] (fun s3 s10 wr => ∃ k : Nat, k ≤ n ∧ s10 = .int .i64 k ∧ Hid (Ow w.heap.size wr.heap.size wr [s3] (perms n k)) ∧ Below w.heap.size w wr) (fun _ s10 _ => n - (intOf s10).toNat)
  case atStart => exact ⟨0, Nat.zero_le _, rfl, Lib.hid (by
    have h := (Ow.lit1 (w.alloc (.cells #[] 3)) (.slice (some ⟨w.heap.size, 0, none⟩) 0 0) 28 (repNil _)).top
    simp only [World.size_alloc] at h ⊢
    exact h.mono (by omega) (Nat.le_refl _)), bwT⟩
  case round =>
    rename_i wr
    obtain ⟨k, hk, rfl, hO, hb⟩ := hrel
    have sW := hb.size
    by_cases hlt : k < n
    · have hO := hO.out
      obtain ⟨L, hL⟩ : ∃ L, L = perms n k := ⟨_, rfl⟩
      rw [← hL] at hO
      have hL1 : L.length ≤ 3125 := by rw [hL]; exact perms_len5 hn (by omega)
      have hL2 := Lib.hid (show ∀ p ∈ L, p.length ≤ 5 by intro p hp; rw [hL] at hp; rw [perms_mem hp]; omega)
      have hLh := Lib.hid hL
      clear hL
      obtain ⟨ao, len, cap, rfl, rfl, hnc, hcm, -⟩ := hO.rd.shape
      unfold maxLen at hcm
      obtain ⟨wo, hwo⟩ : ∃ wo : World, wo = wr := ⟨_, rfl⟩
      subst hwo
      go_wp2
      go_loopw [5, 22] (fun s4 s14 wm => ∃ i : Nat, i ≤ L.length ∧ s14 = .int .i64 i ∧ Hid (GL true wo.heap.size wo.heap.size wm.heap.size wm 28 s4 ((L.take i).flatMap (ext n))) ∧ Below wo.heap.size wo wm) (fun _ s14 _ => L.length - (intOf s14).toNat)
      case atStart => exact ⟨0, Nat.zero_le _, rfl, Lib.hid (GL.lit0 _ _ _ _ _ (Nat.le_refl _)).top, bwT⟩
      case round =>
        obtain ⟨wm, hwm⟩ : ∃ wm : World, wm = wr := ⟨_, rfl⟩
        subst hwm
        obtain ⟨i, hi, rfl, hG, hbm⟩ := hrel
        have sM := hbm.size
        by_cases hli : i < L.length
        · obtain ⟨b, off, p, v, rfl, hp, hc, hrp, hb1, hb2, hb3⟩ := hO.rd.ints_at hli
          have hc := oldc hbm hb3 hc
          obtain ⟨pao, pl, pcap, rfl, rfl, -, hpcm, -⟩ := hrp.shape
          unfold maxLen at hpcm
          have hp5 := hL2.out p (List.mem_of_getElem? hp.out)
          have hA : ((L.take i).flatMap (ext n)).length ≤ 15625 := by
            have h1 := flat_ext_len n (L.take i)
            have h2 : (L.take i).length * n ≤ 3125 * 5 := Nat.mul_le_mul (by simp; omega) hn
            omega
          obtain ⟨A, hAe⟩ : ∃ A, A = (L.take i).flatMap (ext n) := ⟨_, rfl⟩
          rw [← hAe] at hA hG
          have HE := Lib.hid (show (L.take (i + 1)).flatMap (ext n) = A ++ ext n p by rw [hAe, take_flat hp.out])
          have HG := Lib.hid (show GL true wo.heap.size wo.heap.size wm.heap.size wm 28 _ (A ++ ext 0 p) by rw [ext_zero, List.append_nil]; exact hG.out)
          clear hAe hp hG
          have hiI : (i : Int) < (L.length : Int) := by omega
          obtain ⟨w2, hw2⟩ : ∃ w2 : World, w2 = wm := ⟨_, rfl⟩
          subst hw2
          go_wp2
          go_loopw [5, 8] (fun s4 s19 wi => ∃ x : Nat, x ≤ n ∧ s19 = .int .i64 x ∧ Hid (GL true wo.heap.size wo.heap.size wi.heap.size wi 28 s4 (A ++ ext x p)) ∧ Below wo.heap.size wo wi) (fun _ s19 _ => n - (intOf s19).toNat)
          case atStart => exact ⟨0, Nat.zero_le _, rfl, HG, hbm⟩
          case round =>
            obtain ⟨wi, hwi⟩ : ∃ wm : World, wm = wr := ⟨_, rfl⟩
            subst hwi
            clear HG
            obtain ⟨x, hx, rfl, hG, hbi⟩ := hrel
            have sI := hbi.size
            by_cases hlx : x < n
            · have hxI : (x : Int) < (n : Int) := by omega
              obtain ⟨r, hr⟩ : ∃ r, r = p.contains (x : Int) := ⟨_, rfl⟩
              have HR := Lib.hid hr
              clear hr
              go_wp2
              go_loopw [9, 11, 33] (fun s9 _ s33 wf => ∃ (j : Nat) (r2 : Bool), j ≤ p.length ∧ s33 = .int .i64 j ∧ s9 = .bool r2 ∧ Hid (r2 = !(p.take j).contains (x : Int)) ∧ wf = wi) (fun _ _ s33 _ => p.length - (intOf s33).toNat)
              case atStart => exact ⟨0, true, Nat.zero_le _, rfl, rfl, Lib.hid (by simp), rfl⟩
              case round =>
                obtain ⟨j, r2, hj, rfl, rfl, hr2, hwf⟩ := hrel
                have hwf' := hwf.symm
                subst hwf'
                clear hwf
                by_cases hlj : j < p.length
                · obtain ⟨pb, poff, y, rfl, hy, hcy, -⟩ := (hrp.below hbi).int_at (show j < p.length by omega)
                  have hjI : (j : Int) < (p.length : Int) := by omega
                  obtain ⟨r3, hr3⟩ : ∃ r, r = (y != (x : Int)) := ⟨_, rfl⟩
                  have HY := Lib.hid (show (r2 && r3) = !(p.take (j + 1)).contains (x : Int) by
                    rw [hr2.out, hr3, take_snoc hy.out]
                    by_cases e : y = (x : Int)
                    · simp [e]
                    · have e' : ¬ (x : Int) = y := fun h => e h.symm
                      simp [e, e'])
                  have hr3' := hr3.symm
                  clear hr3 hr2 hy
                  cases r2
                  · go_wp2
                    go_roundw
                    case rel => exact ⟨j + 1, _, by omega, by go_num, rfl, HY, by trivial⟩
                    case measure => simp [intOf]; omega
                  · go_wp2
                    go_roundw
                    case rel => exact ⟨j + 1, _, by omega, by go_num, rfl, HY, by trivial⟩
                    case measure => simp [intOf]; omega
                · have HR := Lib.hid (show (!r2) = p.contains (x : Int) by rw [hr2.out, List.take_of_length_le (by omega)]; simp)
                  clear hr2
                  obtain ⟨w1, hw1⟩ : ∃ W : World, W = wi := ⟨_, rfl⟩
                  subst hw1
                  have hrp1 := hrp.below hbi
                  have hbi1 := hbi
                  have hG := hG.out
                  cases r2
                  · have HX := Lib.hid (ext_in HR.out.symm)
                    have HG5 := Lib.hid (show GL true wo.heap.size wo.heap.size w1.heap.size w1 28 _ (A ++ ext (x + 1) p) by rw [HX.out]; exact hG.top)
                    clear hG
                    go_wp2
                    go_roundw
                    case rel => exact ⟨x + 1, by omega, by go_num, HG5, hbi1⟩
                    case measure => simp [intOf]; omega
                  · have HX := Lib.hid (ext_out HR.out.symm)
                    go_wp2_with (at_builtin; refine wpList_spread_flat rfl rfl slInt (by show (0 : Nat) < 1; omega) (GL.lit0 true w1.heap.size w1.heap.size w1 _ (Nat.le_refl _)) rfl rfl (hrp1.below bwT) (by unfold maxLen; simp; omega) (by simp; omega) (by simp) ?_)
                    intro v1 w3 hG3 _ hb3w0
                    have hb3w : Below w1.heap.size w1 w3 := Below.trans bwT hb3w0
                    clear hb3w0
                    (try simp only [List.nil_append] at hG3)
                    have s3 := hb3w.size
                    have hG := hG.below (hb3w.mono (by omega))
                    have hbi3 : Below wo.heap.size wo w3 := hbi1.trans (hb3w.mono (by omega))
                    clear hb3w
                    go_wp2_with (at_builtin; refine wpList_push rfl rfl slInt (by show (0 : Nat) < 1; omega) (hG3.alloc _) rfl (ad := ⟨w3.heap.size, 0, none⟩) rfl (cs := [.int .i64 x]) (y := (x : Int)) (lx := w3.heap.size) (hx' := w3.heap.size) ?c1 (It.flat (z := true) (w0 := w1) (fp := []) ⟨rfl, ⟨by omega, by omega⟩, rfl⟩) (by omega) (.inl (Nat.le_refl _)) (by unfold maxLen; omega) (by omega) ?c2 ?_)
                    case c1 =>
                      intro j c hj
                      match j, hj with
                      | 0, hj => simp at hj; subst hj; simp [Addr.add]
                    case c2 => simp; omega
                    intro v2 w4 hG4 _ hb4w
                    have s4 := hb4w.size
                    simp only [World.size_alloc] at s4
                    have hz4 := Below.zone (Below.trans ((Below.refl w1.heap.size w3).alloc (by omega) _) hb4w) wo.heap.size
                    have hG := hG.keep (hz4.mono (Nat.le_refl _) (by omega)) (hz4.mono (Nat.le_refl _) (by omega))
                    have hbi4 : Below wo.heap.size wo w4 := Below.trans bwT (hb4w.mono (by omega))
                    obtain ⟨g4, c4, rfl, hg4, -⟩ := hG4.form (by simp)
                    have hI4 := GL.it (l0 := w1.heap.size) hG4 (Nat.le_refl _) (Nat.le_refl _)
                    clear hb4w hG4 hG3
                    have hA5 : (A ++ ext x p).length ≤ 15630 := by
                      have := ext_len x p
                      rw [List.length_append]; omega
                    go_wp2_with (at_builtin; refine wpList_push rfl rfl slInts (by show (0 : Nat) < 1; omega) (hG.alloc _) rfl (ad := ⟨w4.heap.size, 0, none⟩) rfl (cs := [_]) (y := p ++ [(x : Int)]) (lx := w1.heap.size) (hx' := w4.heap.size) ?c1 (hI4.keep znT) (by omega) (.inl (by omega)) (by unfold maxLen; omega) (by omega) ?c2 ?_)
                    case c1 =>
                      intro j c hj
                      match j, hj with
                      | 0, hj => simp at hj; subst hj; simp [Addr.add]
                    case c2 => simp; omega
                    intro v3 w5 hG5 _ hb5w
                    have hbi5 : Below wo.heap.size wo w5 := Below.trans bwT (hb5w.mono (by omega))
                    have HG5 := Lib.hid (show GL true wo.heap.size wo.heap.size w5.heap.size w5 28 v3 (A ++ ext (x + 1) p) by rw [HX.out]; simpa using hG5)
                    clear hG hG5 hb5w hI4
                    go_wp2
                    go_roundw
                    case rel => exact ⟨x + 1, by omega, by go_num, HG5, hbi5⟩
                    case measure => simp [intOf]; omega
            · have hxn : x = n := by omega
              have HG5 := Lib.hid (show GL true wo.heap.size wo.heap.size wi.heap.size wi 28 _ ((L.take (i + 1)).flatMap (ext n)) by rw [HE.out, ← hxn]; exact hG.out)
              have hbm5 : Below wo.heap.size wo wi := hbi
              clear hG
              go_wp2
              go_roundw
              case rel => exact ⟨i + 1, by omega, by go_num, HG5, hbm5⟩
              case measure => simp [intOf]; omega
        · have HO := Lib.hid (show Ow w.heap.size wm.heap.size wm [_] (perms n (k + 1)) by
            have := GL.ow (l0 := w.heap.size) hG.out sW sW
            rw [List.take_of_length_le (by omega), hLh.out] at this
            exact this)
          have hbo : Below w.heap.size w wm := hb.trans (hbm.mono sW)
          clear hG hO
          go_wp2
          go_roundw
          case rel => exact ⟨k + 1, by omega, by go_num, HO, hbo⟩
          case measure => simp [intOf]; omega
    · have hkn : k = n := by omega
      have HO := Lib.hid (show Ow w.heap.size wr.heap.size wr [_] (perms n n) by have := hO.out; rw [hkn] at this; exact this)
      clear hO
      go_wp2
      go_ret
      exact ⟨_, rfl, HO.out, hb⟩
end Go.Proofs.Ytlnhhfebmeekhaa
