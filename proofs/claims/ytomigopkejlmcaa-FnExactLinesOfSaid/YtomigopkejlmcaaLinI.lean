/- Contract of LinesOf (impl). -/
import Derived.Test.YtomigopkejlmcaaLin
namespace Go.Proofs.Ytomigopkejlmcaa
set_option linter.unusedVariables false
set_option linter.unusedSimpArgs false
open Go.RowKit

set_option maxRecDepth 20000 in
set_option maxHeartbeats 4000000 in
theorem linesOfI_any {z : Bool} {lo hi : Nat} (w : World) (v v2 : Value) (f : Fam) (h : Rd z lo hi w [v, v2] f) (sex : Int) :
    Calls Try.prog 32 #[.agg #[v, v2], .int .i64 sex] w (PostOw w (linesV f sex)) := by
  obtain ⟨ha, -⟩ := h.fam
  obtain ⟨ao, n, cap, rfl, hn, hnc, hcm, hnone⟩ := ha.shape
  subst hn
  unfold maxLen at *
  obtain ⟨r1, hlet_r1⟩ : ∃ r, r = famB f := ⟨_, rfl⟩
  have H1 := Lib.hid hlet_r1
  clear hlet_r1
  obtain ⟨r2, hlet_r2⟩ : ∃ r, r = sexB sex := ⟨_, rfl⟩
  have H2 := Lib.hid hlet_r2
  clear hlet_r2
  have HV := Lib.hid (show linesV f sex = if (r1 && r2) = true then linesTo f.1 sex f.1.length else [] by rw [linesV, H1.out, H2.out])
  obtain ⟨V, hV⟩ : ∃ V, V = linesV f sex := ⟨_, rfl⟩
  rw [← hV] at HV ⊢
  clear hV
  go_enter Try.func32, Try.ntmps32
  go_wp2_with fail
  refine (isFamI_b _ _ _ f (h.below (by repeat' (first | (with_reducible exact Below.refl _ _) | (with_reducible assumption) | (with_reducible refine Below.alloc ?_ (by first | omega | (simp; omega) | simp) _) | (with_reducible refine Below.setCell ?_ (by first | omega | (simp; omega) | simp) _) | (with_reducible refine Below.drew ?_) | (with_reducible refine below_drewN ?_ _)))) r1 H1.out).mono ?_
  rintro e1 w1 ⟨rfl, hbw1⟩
  have hpw1 : Below w.heap.size w w1 := Below.after (by repeat' (first | (with_reducible exact Below.refl _ _) | (with_reducible assumption) | (with_reducible refine Below.alloc ?_ (by first | omega | (simp; omega) | simp) _) | (with_reducible refine Below.setCell ?_ (by first | omega | (simp; omega) | simp) _) | (with_reducible refine Below.drew ?_) | (with_reducible refine below_drewN ?_ _))) hbw1 (by first | omega | (simp only [World.size_alloc, World.size_setCell, World.size_drew] at *; omega) | (simp; omega) | simp)
  have sw1 := hpw1.size
  have hBw1 : Below w.heap.size w w1 := hpw1
  have l_f : w.heap.size < w1.heap.size := by have := hbw1.size; simp at this; omega
  have q_f0 : w1.cell? ⟨w.heap.size, 0, none⟩ = some (.slice ao f.1.length cap) := oldc hbw1 (by first | omega | (simp; omega) | (simp; done)) (by simp [go_sem])
  have q_f1 : w1.cell? ⟨w.heap.size, 1, none⟩ = some (v2) := oldc hbw1 (by first | omega | (simp; omega) | (simp; done)) (by simp [go_sem])
  clear hbw1 hpw1
  cases r1
  · have HF := Lib.hid (show V = [] by rw [HV.out]; rfl)
    clear HV h ha H1 H2
    go_wp2
    go_ret
    exact ⟨_, rfl, by rw [HF.out]; exact Ow.nil _ _ _, (by repeat' (first | (with_reducible exact Below.refl _ _) | (with_reducible assumption) | (with_reducible refine Below.alloc ?_ (by first | omega | (simp; omega) | simp) _) | (with_reducible refine Below.setCell ?_ (by first | omega | (simp; omega) | simp) _) | (with_reducible refine Below.drew ?_) | (with_reducible refine below_drewN ?_ _)))⟩
  go_wp2_with fail
  refine (isSex_b _ sex r2 H2.out).mono ?_
  rintro e2 w2 ⟨rfl, hbw2⟩
  have hpw2 : Below w1.heap.size w1 w2 := Below.after (by repeat' (first | (with_reducible exact Below.refl _ _) | (with_reducible assumption) | (with_reducible refine Below.alloc ?_ (by first | omega | (simp; omega) | simp) _) | (with_reducible refine Below.setCell ?_ (by first | omega | (simp; omega) | simp) _) | (with_reducible refine Below.drew ?_) | (with_reducible refine below_drewN ?_ _))) hbw2 (by first | omega | (simp only [World.size_alloc, World.size_setCell, World.size_drew] at *; omega) | (simp; omega) | simp)
  have sw2 := hpw2.size
  have hBw2 : Below w.heap.size w w2 := Below.trans hBw1 (Below.mono hpw2 hBw1.size)
  have q_f0 := oldc hpw2 l_f q_f0
  have q_f1 := oldc hpw2 l_f q_f1
  have l_f := Nat.lt_of_lt_of_le l_f sw2
  clear hbw2 hpw2
  cases r2
  · have HF := Lib.hid (show V = [] by rw [HV.out]; rfl)
    clear HV h ha H1 H2
    go_wp2
    go_ret
    exact ⟨_, rfl, by rw [HF.out]; exact Ow.nil _ _ _, (by repeat' (first | (with_reducible exact Below.refl _ _) | (with_reducible assumption) | (with_reducible refine Below.alloc ?_ (by first | omega | (simp; omega) | simp) _) | (with_reducible refine Below.setCell ?_ (by first | omega | (simp; omega) | simp) _) | (with_reducible refine Below.drew ?_) | (with_reducible refine below_drewN ?_ _)))⟩
  have HF := Lib.hid (show V = linesTo f.1 sex f.1.length by rw [HV.out]; rfl)
  obtain ⟨h40, -, hP, -⟩ := famB_facts H1.out.symm
  have HP := Lib.hid hP
  clear hP HV h
  obtain ⟨W0, hW0⟩ : ∃ W : World, W = w2 := ⟨_, rfl⟩
  subst hW0
  have hB0 : Below w.heap.size w W0 := hBw2
  have s0 := hB0.size
  go_wp2
  go_loopw [5, 20] (fun s5 s20 wr => ∃ m : Nat, m ≤ f.1.length ∧ s20 = .int .i64 m ∧ Hid (GL true W0.heap.size W0.heap.size wr.heap.size wr 26 s5 (linesTo f.1 sex m)) ∧ Below W0.heap.size W0 wr) (fun _ s20 _ => f.1.length - (intOf s20).toNat)
  case atStart => exact ⟨0, Nat.zero_le _, rfl, Lib.hid (GL.start _ _ _ _ _ _), (by repeat' (first | (with_reducible exact Below.refl _ _) | (with_reducible assumption) | (with_reducible refine Below.alloc ?_ (by first | omega | (simp; omega) | simp) _) | (with_reducible refine Below.setCell ?_ (by first | omega | (simp; omega) | simp) _) | (with_reducible refine Below.drew ?_) | (with_reducible refine below_drewN ?_ _)))⟩
  case round =>
    obtain ⟨wo, hwo⟩ : ∃ wm : World, wm = wr := ⟨_, rfl⟩
    subst hwo
    obtain ⟨m, hm, rfl, hG, hb⟩ := hrel
    have sO := hb.size
    have q_f0 := oldc hb l_f q_f0
    have q_f1 := oldc hb l_f q_f1
    have l_f := Nat.lt_of_lt_of_le l_f sO
    by_cases hlt : m < f.1.length
    · have hI : (m : Int) < (f.1.length : Int) := by omega
      have hbw : Below w.heap.size w wo := hB0.trans (hb.mono s0)
      go_wp2
      go_loopw [7, 26] (fun s7 s26 wi => ∃ k : Nat, k ≤ f.1.length ∧ s26 = .int .i64 k ∧ Hid (GL true wo.heap.size wo.heap.size wi.heap.size wi 3 s7 (lineTo f.1 sex m k)) ∧ Below wo.heap.size wo wi) (fun _ s26 _ => f.1.length - (intOf s26).toNat)
      case atStart => exact ⟨0, Nat.zero_le _, rfl, Lib.hid (GL.start _ _ _ _ _ _), (by repeat' (first | (with_reducible exact Below.refl _ _) | (with_reducible assumption) | (with_reducible refine Below.alloc ?_ (by first | omega | (simp; omega) | simp) _) | (with_reducible refine Below.setCell ?_ (by first | omega | (simp; omega) | simp) _) | (with_reducible refine Below.drew ?_) | (with_reducible refine below_drewN ?_ _)))⟩
      case round =>
        obtain ⟨wi, hwi⟩ : ∃ wm : World, wm = wr := ⟨_, rfl⟩
        subst hwi
        obtain ⟨k, hk, rfl, hL, hbi⟩ := hrel
        have sI := hbi.size
        have q_f0 := oldc hbi l_f q_f0
        have q_f1 := oldc hbi l_f q_f1
        have l_f := Nat.lt_of_lt_of_le l_f sI
        have hbwi : Below w.heap.size w wi := hbw.trans (hbi.mono (by omega))
        by_cases hlk : k < f.1.length
        · have hIk : (k : Int) < (f.1.length : Int) := by omega
          go_wp2_with fail
          refine (founder_any _ sex _ _ f.1 (ha.below (by repeat' (first | (with_reducible exact Below.refl _ _) | (with_reducible assumption) | (with_reducible refine Below.alloc ?_ (by first | omega | (simp; omega) | simp) _) | (with_reducible refine Below.setCell ?_ (by first | omega | (simp; omega) | simp) _) | (with_reducible refine Below.drew ?_) | (with_reducible refine below_drewN ?_ _)))) HP.out k hlk).mono ?_
          obtain ⟨t, ht⟩ : ∃ t, t = fo f.1 sex k := ⟨_, rfl⟩
          rw [← ht]
          rintro e w1 ⟨rfl, hb1⟩
          have HT := Lib.hid ht
          clear ht
          have s1 := hb1.size
          have hL := hL.out.below hb1
          have hbi1 : Below wo.heap.size wo w1 := Below.after hbi hb1 sI
          by_cases e : t = m
          · have HX := Lib.hid (show lineTo f.1 sex m (k + 1) = lineTo f.1 sex m k ++ [(k : Int)] from lineTo_in (by rw [← HT.out, e]))
            have hlen := lineTo_len f.1 sex m k
            subst e
            clear HT hb1
            go_wp2_with (at_builtin; refine wpList_push rfl rfl slInt (by show (0 : Nat) < 1; omega) (hL.alloc _) rfl (ad := ⟨w1.heap.size, 0, none⟩) rfl (cs := [.int .i64 k]) (y := (k : Int)) (lx := w1.heap.size) (hx' := w1.heap.size) ?c1 (It.flat (z := true) (w0 := w1) (fp := []) ⟨rfl, ⟨by omega, by omega⟩, rfl⟩) (by omega) (.inl (by first | omega | (simp only [World.size_alloc, World.size_setCell, World.size_drew] at *; omega) | (simp; omega) | simp)) (by unfold maxLen; omega) (by omega) ?c2 ?_)
            case c1 =>
              intro j c hj
              match j, hj with
              | 0, hj => simp at hj; subst hj; simp [Addr.add]
            case c2 => simp; omega
            intro v1 w3 hL3 _ hb3
            have HL3 := Lib.hid (show GL true wo.heap.size wo.heap.size w3.heap.size w3 3 v1 (lineTo f.1 sex t (k + 1)) by rw [HX.out]; exact hL3)
            have hbi3 : Below wo.heap.size wo w3 := Below.trans (by repeat' (first | (with_reducible exact Below.refl _ _) | (with_reducible assumption) | (with_reducible refine Below.alloc ?_ (by first | omega | (simp; omega) | simp) _) | (with_reducible refine Below.setCell ?_ (by first | omega | (simp; omega) | simp) _) | (with_reducible refine Below.drew ?_) | (with_reducible refine below_drewN ?_ _))) hb3
            clear hL hL3 hb3
            go_wp2
            go_roundw
            case rel => exact ⟨k + 1, by omega, by go_num, HL3, hbi3⟩
            case measure => simp [intOf]; omega
          · have e1 : ¬ (t : Int) = (m : Int) := by omega
            have HX := Lib.hid (show GL true wo.heap.size wo.heap.size w1.heap.size w1 3 _ (lineTo f.1 sex m (k + 1)) by rw [lineTo_out (by rw [← HT.out]; exact e)]; exact hL.top)
            clear HT hb1 hL
            go_wp2
            go_roundw
            case rel => exact ⟨k + 1, by omega, by go_num, HX, hbi1⟩
            case measure => simp [intOf]; omega
        · have hnk : ¬ (k : Int) < (f.1.length : Int) := by omega
          obtain rfl : k = f.1.length := by omega
          have hL := hL.out
          have hlen := lineTo_len f.1 sex m f.1.length
          obtain ⟨L, hLe⟩ : ∃ L, L = lineTo f.1 sex m f.1.length := ⟨_, rfl⟩
          rw [← hLe] at hL hlen
          have hG := hG.out.below hbi
          by_cases h0 : 0 < L.length
          · have h0I : (0 : Int) < (L.length : Int) := by omega
            have HX := Lib.hid (show linesTo f.1 sex (m + 1) = linesTo f.1 sex m ++ [L] by rw [hLe]; exact linesTo_in (by rw [← hLe]; exact h0))
            obtain ⟨g, cp, rfl, hg1, hg2⟩ := hL.form h0
            have hI4 := GL.it (l0 := wo.heap.size) hL (Nat.le_refl _) (Nat.le_refl _)
            have hll := linesTo_len f.1 sex m
            clear hLe hL
            go_wp2_with (at_builtin; refine wpList_push rfl rfl slInts (by show (0 : Nat) < 1; omega) (hG.alloc _) rfl (ad := ⟨wi.heap.size, 0, none⟩) rfl (cs := [_]) (y := L) (lx := wo.heap.size) (hx' := wi.heap.size) ?d1 (hI4.keep (by repeat' (first | (with_reducible exact Zone.refl _ _ _) | (with_reducible refine Zone.setCell ?_ (Or.inl (by first | omega | (simp; omega) | simp)) _) | (with_reducible refine Zone.alloc ?_ (by first | omega | (simp; omega) | simp) _) | (with_reducible refine Zone.drew ?_)))) (by omega) (.inl (Nat.le_refl _)) (by unfold maxLen; omega) (by omega) ?d2 ?_)
            case d2 => first | omega | (simp; omega)
            intro v3 w5 hG5 _ hb5
            have HG5 := Lib.hid (show GL true W0.heap.size W0.heap.size w5.heap.size w5 26 v3 (linesTo f.1 sex (m + 1)) by rw [HX.out]; exact hG5)
            have hbo5 : Below W0.heap.size W0 w5 := Below.trans (Below.alloc (hb.trans (hbi.mono sO)) (by omega) _) hb5
            clear hG hG5 hb5 hI4
            go_wp2
            go_roundw
            case rel => exact ⟨m + 1, by omega, by go_num, HG5, hbo5⟩
            case measure => simp [intOf]; omega
          · have h0I : ¬ (0 : Int) < (L.length : Int) := by omega
            obtain ⟨ao', cp', rfl, -, -⟩ := hL.len
            have HX := Lib.hid (show GL true W0.heap.size W0.heap.size wi.heap.size wi 26 _ (linesTo f.1 sex (m + 1)) by rw [linesTo_out (by rw [← hLe]; exact h0)]; exact hG.top)
            have hbo5 : Below W0.heap.size W0 wi := hb.trans (hbi.mono sO)
            clear hG hL hLe
            go_wp2
            go_roundw
            case rel => exact ⟨m + 1, by omega, by go_num, HX, hbo5⟩
            case measure => simp [intOf]; omega
    · have hnI : ¬ (m : Int) < (f.1.length : Int) := by omega
      obtain rfl : m = f.1.length := by omega
      have HO := Lib.hid (show Ow w.heap.size wo.heap.size wo [_] V by rw [HF.out]; exact GL.ow (l0 := w.heap.size) hG.out s0 s0)
      have hbw : Below w.heap.size w wo := hB0.trans (hb.mono s0)
      clear hG
      go_wp2
      go_ret
      exact ⟨_, rfl, HO.out, hbw⟩
end Go.Proofs.Ytomigopkejlmcaa
