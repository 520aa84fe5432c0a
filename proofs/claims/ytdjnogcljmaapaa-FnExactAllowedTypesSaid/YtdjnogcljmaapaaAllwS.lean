/- Contract of AllowedTypes (spec). Written by allw_gen.py. -/
import Derived.Test.YtdjnogcljmaapaaAllwI
import Derived.Test.YtdjnogcljmaapaaAlwS
import Derived.Test.YtdjnogcljmaapaaTypsS
namespace Go.Proofs.Ytdjnogcljmaapaa
set_option linter.unusedVariables false
set_option linter.unusedSimpArgs false
open Go.RowKit

theorem allowX_eq (c : Cls) (n : Int) : allowX c n = (typesX 1 n).filter (allowB c) := by
  unfold allowX allowL
  split
  · rfl
  · rename_i h
    symm
    rw [List.filter_eq_nil_iff]
    intro t _ e
    unfold allowB tpV at e
    simp only [Bool.and_eq_true] at e
    exact h e.1.1
set_option maxRecDepth 20000 in
set_option maxHeartbeats 8000000 in
theorem allowedS_any {z : Bool} {lo hi : Nat} (w : World) (u v : Value) (c : Cls) (h : Rd z lo hi w [u, v] c) (hl1 : c.1.length ≤ 1048576) (n : Int) : Calls Try.prog 30 #[.agg #[u, v], .int .i64 n] w (PostOw w (allowX c n)) := by
  obtain ⟨hw, hq⟩ := h.two rfl
  obtain ⟨bo, n3, dap, rfl, hn3, hnc3, hcm3, hnone3⟩ := hw.shape
  obtain ⟨bo2, n4, dap2, rfl, hn4, hnc4, hcm4, hnone4⟩ := hq.shape
  subst hn3 hn4
  obtain ⟨X, hX⟩ : ∃ X, X = allowX c n := ⟨_, rfl⟩
  rw [← hX]
  have HX := Lib.hid (show X = (typesX 1 n).filter (allowB c) by rw [hX]; exact allowX_eq c n)
  clear hX hw hq hnone3 hnone4
  obtain ⟨Wz, hWz⟩ : ∃ Wz : World, Wz = w.alloc (.cells #[.slice bo c.1.length dap, .slice bo2 c.2.length dap2] 32) := ⟨_, rfl⟩
  have hBz : Below w.heap.size w Wz := by subst hWz; exact (by repeat' (first | (with_reducible exact Below.refl _ _) | (with_reducible assumption) | (with_reducible refine Below.alloc ?_ (by first | omega | (simp; omega) | simp) _) | (with_reducible refine Below.setCell ?_ (by first | omega | (simp; omega) | simp) _) | (with_reducible refine Below.drew ?_) | (with_reducible refine below_drewN ?_ _)))
  have szz : Wz.heap.size = w.heap.size + 1 := by subst hWz; simp
  have qz_c0 : Wz.cell? ⟨w.heap.size, 0, none⟩ = some (.slice bo c.1.length dap) := by subst hWz; simp [go_sem]
  have qz_c1 : Wz.cell? ⟨w.heap.size, 1, none⟩ = some (.slice bo2 c.2.length dap2) := by subst hWz; simp [go_sem]
  have lz_c : w.heap.size < Wz.heap.size := by omega
  have hcz0 := Lib.hid h
  go_enter Try.func30, Try.ntmps30
  go_wp2_with fail
  rw [← hWz]
  refine (typesFromS_any _ 1 n).mono ?_
  rintro e1 W0 ⟨ut, rfl, ho, hb0⟩
  clear hWz
  have hBA : Below Wz.heap.size Wz W0 := Below.trans (show Below Wz.heap.size Wz _ from (by repeat' (first | (with_reducible exact Below.refl _ _) | (with_reducible assumption) | (with_reducible refine Below.alloc ?_ (by first | omega | (simp; omega) | simp) _) | (with_reducible refine Below.setCell ?_ (by first | omega | (simp; omega) | simp) _) | (with_reducible refine Below.drew ?_) | (with_reducible refine below_drewN ?_ _)))) (hb0.mono (by simp))
  have hB0 : Below w.heap.size w W0 := hBz.trans (hBA.mono (by omega))
  have s0 := hB0.size
  have sA := hb0.size
  simp only [World.size_alloc] at sA ho
  have qa_c0 := oldc hBA lz_c qz_c0
  have qa_c1 := oldc hBA lz_c qz_c1
  have la_c : w.heap.size < W0.heap.size := by omega
  obtain ⟨T, hT⟩ : ∃ T, T = typesX 1 n := ⟨_, rfl⟩
  rw [← hT] at ho
  have HF := Lib.hid (show X = T.filter (allowB c) by rw [HX.out, hT])
  obtain ⟨tao, tn, tcap, rfl, htn, htc, htm, -⟩ := ho.rd.shape
  subst htn
  obtain ⟨FPS, hF1, hF2, hF3, hF4⟩ := ho.items
  have HI := Lib.hid hF4
  have HND := Lib.hid hF2
  have HIN := Lib.hid hF3
  have HLN := Lib.hid hF1
  have hTL : T.length ≤ 600 := by rw [hT]; exact typesX_len 1 n
  have hrd := Lib.hid ho.rd
  have hcz := Lib.hid h
  clear HX hT hF1 hF2 hF3 hF4 ho h qz_c0 qz_c1 lz_c hb0 hcz0 hBz hBA
  go_wp2
  go_loopw [5, 7, 12] (fun s5 _ s14 wr => ∃ i : Nat, i ≤ T.length ∧ s14 = .int .i64 i ∧ Hid (GZ W0.heap.size wr 36 s5 ((T.take i).filter (allowB c)) (FPS.take i)) ∧ Below W0.heap.size W0 wr) (fun _ _ s14 _ => T.length - (intOf s14).toNat)
  case atStart => exact ⟨0, Nat.zero_le _, rfl, Lib.hid (GZ.lit0 _ _ _ _), Below.refl _ _⟩
  case round =>
    obtain ⟨wb, hwb⟩ : ∃ wm : World, wm = wr := ⟨_, rfl⟩
    subst hwb
    obtain ⟨i, hi1, rfl, hG, hbb⟩ := hrel
    have sB := hbb.size
    have hBb : Below w.heap.size w wb := hB0.trans (hbb.mono s0)
    have q_c0 := oldc hbb la_c qa_c0
    have q_c1 := oldc hbb la_c qa_c1
    have l_c := Nat.lt_of_lt_of_le la_c sB
    by_cases hli : i < T.length
    · have hIi : (i : Int) < (T.length : Int) := by omega
      obtain ⟨tb, toff, t, tv, rfl, ht, c0, c1, -, -, -, -, tlt, -⟩ := hrd.out.kin_at hli
      obtain ⟨b, off, cs, fp, e, hf, hr, hcs⟩ := HI.out i t ht.out
      simp only [Option.some.injEq, Addr.mk.injEq, and_true] at e
      obtain ⟨rfl, rfl⟩ := e
      obtain ⟨v', rfl, hti, hr2⟩ := repKin_inv hr
      obtain ⟨sao, sn, scap, rfl, hsn, -⟩ := (show Rd true 0 W0.heap.size W0 [v'] t.2 from ⟨fp, hr2, fun b hb => ⟨Nat.zero_le _, Rep.lt hr2 b hb⟩⟩).shape
      subst hsn
      have k0 : wb.cell? ⟨tb, toff + i * 2, none⟩ = some (.int .i64 t.1) := oldc hbb (by omega) (by have := hcs 0 _ rfl; simpa [Rep.sz] using this)
      have k1 : wb.cell? ⟨tb, toff + i * 2 + 1, none⟩ = some (.slice sao t.2.length scap) := oldc hbb (by omega) (by have := hcs 1 _ rfl; simpa [Rep.sz, Nat.add_assoc] using this)
      have hrt := Lib.hid (show Rd true 0 W0.heap.size W0 [.int .i64 t.1, .slice sao t.2.length scap] t from ⟨fp, hr, fun b hb => ⟨Nat.zero_le _, Rep.lt hr b hb⟩⟩)
      have hR := Lib.hid hr
      have HS1 := Lib.hid (take_snoc ht.out)
      have HS2 := Lib.hid (take_snoc hf)
      have HB := Lib.hid (show ∀ b ∈ fp, b < W0.heap.size from fun b hb => Rep.lt hr b hb)
      obtain ⟨r2, hlet_r2⟩ : ∃ r, r = allowB c t := ⟨_, rfl⟩
      have HA := Lib.hid hlet_r2
      clear hlet_r2
      have hbA : Below W0.heap.size W0 (wb.alloc (.cells #[.int .i64 t.1, .slice sao t.2.length scap] 36)) := hbb.alloc sB _
      have hbw : Below w.heap.size w (wb.alloc (.cells #[.int .i64 t.1, .slice sao t.2.length scap] 36)) := hBb.alloc (by omega) _
      have hGA := Lib.hid (hG.out.alloc (.cells #[.int .i64 t.1, .slice sao t.2.length scap] 36))
      clear ht hf hr hcs hr2 hG c0 c1
      go_wp2_with fail
      refine (allowsS_b _ _ _ _ _ c t (hcz.out.below ?k1) (hrt.out.below ?k2) hl1 r2 HA.out).mono ?_
      case k1 => exact hbw
      case k2 => exact hbA
      rintro e w1 ⟨rfl, hb1⟩
      have b0 : w1.cell? ⟨wb.heap.size, 0, none⟩ = some (.int .i64 t.1) := oldc hb1 (by first | omega | (simp; omega) | (simp; done)) (by simp [go_sem])
      have b1 : w1.cell? ⟨wb.heap.size, 1, none⟩ = some (.slice sao t.2.length scap) := oldc hb1 (by first | omega | (simp; omega) | (simp; done)) (by simp [go_sem])
      have s1 := hb1.size
      simp only [World.size_alloc] at s1
      have hbb1 : Below W0.heap.size W0 w1 := hbA.trans (hb1.mono hbA.size)
      have hG1 := Lib.hid (hGA.out.below hb1)
      have hR1 := Lib.hid (Rep.keep hR.out (fun b hb => hbb1.block b (HB.out b hb)))
      clear hb1 hGA
      cases r2
      · have HN := Lib.hid (hG1.out.skip fp)
        rw [← HS2.out, show (T.take i).filter (allowB c) = (T.take (i + 1)).filter (allowB c) by rw [HS1.out, List.filter_append, List.filter_cons_of_neg (by rw [← HA.out]; decide)]; simp] at HN
        clear hG1 HS1 HS2 HA
        go_wp2
        go_roundw
        case rel => exact ⟨i + 1, by omega, by go_num, HN, hbb1⟩
        case measure => simp [intOf]; omega
      · have hfl : ((T.take i).filter (allowB c)).length ≤ 1000 := by
          have h1 := List.length_filter_le (allowB c) (T.take i)
          have h2 : (T.take i).length ≤ T.length := by rw [List.length_take]; omega
          omega
        have hrA := Lib.hid (show Rep.rep true (w1.alloc (.cells #[.int .i64 t.1, .slice sao t.2.length scap] 36)) [.int .i64 t.1, .slice sao t.2.length scap] t fp from Rep.keep hR1.out (fun b hb => Below.heap_alloc _ _ _ (Rep.lt hR1.out b hb)))
        have hG2 := Lib.hid (hG1.out.alloc (.cells #[.int .i64 t.1, .slice sao t.2.length scap] 36))
        have sW1 : W0.heap.size ≤ (w1.alloc (.cells #[.int .i64 t.1, .slice sao t.2.length scap] 36)).heap.size := by simp; omega
        have hbbA : Below W0.heap.size W0 (w1.alloc (.cells #[.int .i64 t.1, .slice sao t.2.length scap] 36)) := hbb1.alloc (by omega) _
        clear hG1
        go_wp2_with (at_builtin; refine wpList_push_subz rfl rfl slKin (by show (0 : Nat) < 2; omega) hG2.out rfl (ad := ⟨w1.heap.size, 0, none⟩) rfl (cs := [.int .i64 t.1, .slice sao t.2.length scap]) (y := t) ?k4 hrA.out HB.out (by unfold maxLen; omega) (by omega) sW1 ?_)
        case k4 =>
          intro j c hj
          match j, hj with
          | 0, hj => simp at hj; subst hj; simp [Addr.add, go_sem]
          | 1, hj => simp at hj; subst hj; simp [Addr.add, go_sem]
        rintro v2 w2 hG3 hb2
        have HN := Lib.hid hG3
        rw [← HS2.out, show (T.take i).filter (allowB c) ++ [t] = (T.take (i + 1)).filter (allowB c) by rw [HS1.out, List.filter_append, List.filter_cons_of_pos HA.out.symm]; simp] at HN
        have hbb2 := hbbA.trans hb2
        clear hG3 hG2 HS1 HS2 HA hb2
        go_wp2
        go_roundw
        case rel => exact ⟨i + 1, by omega, by go_num, HN, hbb2⟩
        case measure => simp [intOf]; omega
    · obtain rfl : i = T.length := by omega
      have nI : ¬ (T.length : Int) < (T.length : Int) := by omega
      have hG2 := hG.out
      rw [List.take_length, List.take_of_length_le (by rw [HLN.out]; exact Nat.le_refl _)] at hG2
      have HW := Lib.hid (GZ.ow hG2 HND.out (l0 := w.heap.size) s0 (fun b hb => by have := HIN.out b hb; omega))
      clear hG hG2
      go_wp2
      go_ret
      exact ⟨_, rfl, by rw [HF.out]; exact HW.out, hBb⟩
end Go.Proofs.Ytdjnogcljmaapaa
