/- Contracts of l3More and TypesFrom (spec). -/
import Derived.Test.YtdjnogcljmaapaaTypsI
import Derived.Test.YtdjnogcljmaapaaTypS
namespace Go.Proofs.Ytdjnogcljmaapaa
set_option linter.unusedVariables false
set_option linter.unusedSimpArgs false
open Go.RowKit

set_option maxRecDepth 20000 in
set_option maxHeartbeats 16000000 in
theorem l3MoreS_any {z : Bool} {lo hi : Nat} (w : World) (a b : Value) (t : Kin) (h : Rd z lo hi w [a, b] t) (ht : isKin t = true) (hl : t.2.length < 8) : Calls Try.prog 132 #[.agg #[a, b]] w (PostOw w (more t)) := by
  obtain ⟨rfl, hI, hb⟩ := h.kin
  obtain ⟨ao, n, cap, rfl, hn, hnc, hcm, hnone⟩ := hb.shape
  subst hn
  unfold maxLen at *
  have HI := Lib.hid hI
  have HK := Lib.hid (fun s => isKin_snoc ht hl s)
  have hZ := Lib.hid hb
  clear h hI hb ht hnone
  obtain ⟨W0, hW0⟩ : ∃ W0 : World, W0 = w.alloc (.cells #[.int .i64 t.1, .slice ao t.2.length cap] 36) := ⟨_, rfl⟩
  have hB0 : Below w.heap.size w W0 := by subst hW0; exact (by repeat' (first | (with_reducible exact Below.refl _ _) | (with_reducible assumption) | (with_reducible refine Below.alloc ?_ (by first | omega | (simp; omega) | simp) _) | (with_reducible refine Below.setCell ?_ (by first | omega | (simp; omega) | simp) _) | (with_reducible refine Below.drew ?_) | (with_reducible refine below_drewN ?_ _)))
  have sz0 : W0.heap.size = w.heap.size + 1 := by subst hW0; simp
  have qa_t0 : W0.cell? ⟨w.heap.size, 0, none⟩ = some (.int .i64 t.1) := by subst hW0; simp [go_sem]
  have qa_t1 : W0.cell? ⟨w.heap.size, 1, none⟩ = some (.slice ao t.2.length cap) := by subst hW0; simp [go_sem]
  have HG0 := Lib.hid (show GL true W0.heap.size W0.heap.size (W0.alloc (.cells #[] 36)).heap.size (W0.alloc (.cells #[] 36)) 36 (.slice (some ⟨w.heap.size + 1, 0, none⟩) 0 0) (moreTo t 0) by
    rw [show w.heap.size + 1 = W0.heap.size from sz0.symm]
    exact (GL.lit0 (α := Kin) true W0.heap.size W0.heap.size W0 36 (Nat.le_refl _)).top)
  have lw0 : w.heap.size < W0.heap.size := by omega
  go_enter Try.func132, Try.ntmps132
  go_wp2
  rw [← hW0]
  clear hW0 sz0
  go_loopw [3, 4, 5] (fun s3 s4 _ wr => ∃ (j : Nat) (kv : Int), j ≤ 8 ∧ kv = (j : Int) + 1 ∧ s4 = .int .i64 kv ∧ Hid (GL true W0.heap.size W0.heap.size wr.heap.size wr 36 s3 (moreTo t j)) ∧ Below W0.heap.size W0 wr) (fun _ s4 _ _ => 9 - (intOf s4).toNat)
  case atStart => exact ⟨0, 1, by omega, rfl, rfl, HG0, (by repeat' (first | (with_reducible exact Below.refl _ _) | (with_reducible assumption) | (with_reducible refine Below.alloc ?_ (by first | omega | (simp; omega) | simp) _) | (with_reducible refine Below.setCell ?_ (by first | omega | (simp; omega) | simp) _) | (with_reducible refine Below.drew ?_) | (with_reducible refine below_drewN ?_ _)))⟩
  case round =>
    clear HG0
    obtain ⟨we, hwe⟩ : ∃ wm : World, wm = wr := ⟨_, rfl⟩
    subst hwe
    obtain ⟨j, kv, hj1, hkv, rfl, hM, hee⟩ := hrel
    have sE := hee.size
    have q_t0 := oldc hee lw0 qa_t0
    have q_t1 := oldc hee lw0 qa_t1
    have l_t : w.heap.size < we.heap.size := by omega
    have hew : Below w.heap.size w we := hB0.trans (hee.mono hB0.size)
    by_cases hlj : j < 8
    · have hk8 : kv ≤ 8 := by omega
      have hk1 : 1 ≤ kv := by omega
      obtain ⟨r1, hlet_r1⟩ : ∃ r, r = isKin (t.1, t.2 ++ [(kv, 0)]) := ⟨_, rfl⟩
      have HF := Lib.hid hlet_r1
      clear hlet_r1
      have hKS := Lib.hid (show moreTo t (j + 1) = moreTo t j ++ (if r1 = true then [(t.1, t.2 ++ [(kv, 0)])] else []) by rw [moreTo_succ, ← hkv, kinMore, ← HK.out, ← HF.out])
      have hkvn := Lib.hid (show kv + 1 = ((j + 1 : Nat) : Int) + 1 by omega)
      have hll : (moreTo t j).length ≤ 8 := by have := moreTo_len t j; omega
      clear hkv
      go_wp2_with (at_builtin; refine wpList_spread_flat rfl rfl slStep (by show (0 : Nat) < 2; omega) (GL.start true (we.heap.size + 1) (we.heap.size + 1) (we.heap.size + 1) _ _) rfl rfl (hZ.out.below ?k1) (by unfold maxLen; simp; omega) (by simp; omega) (by simp) ?_)
      case k1 => exact (by repeat' (first | (with_reducible exact Below.refl _ _) | (with_reducible assumption) | (with_reducible refine Below.alloc ?_ (by first | omega | (simp; omega) | simp) _) | (with_reducible refine Below.setCell ?_ (by first | omega | (simp; omega) | simp) _) | (with_reducible refine Below.drew ?_) | (with_reducible refine below_drewN ?_ _)))
      intro v1 w1 hG1 _ hb1
      (try simp only [List.nil_append] at hG1)
      obtain ⟨vao, vcap, rfl, hv1, hv2⟩ := hG1.len
      have s1 := hb1.size
      simp only [World.size_alloc] at s1
      have u0 : w1.cell? ⟨we.heap.size, 0, none⟩ = some (.int .i64 t.1) := oldc hb1 (by omega) (by simp [go_sem])
      have u1 : w1.cell? ⟨we.heap.size, 1, none⟩ = some (.slice none 0 0) := oldc hb1 (by omega) (by simp [go_sem])
      have uf : ∀ o, w1.frozen? ⟨we.heap.size, o, none⟩ = false := fun o => (hb1.frozen (p := ⟨we.heap.size, o, none⟩) (by simp)).trans (by simp [go_sem])
      have hbe1 : Below we.heap.size we w1 := Below.trans (show Below we.heap.size we _ from (by repeat' (first | (with_reducible exact Below.refl _ _) | (with_reducible assumption) | (with_reducible refine Below.alloc ?_ (by first | omega | (simp; omega) | simp) _) | (with_reducible refine Below.setCell ?_ (by first | omega | (simp; omega) | simp) _) | (with_reducible refine Below.drew ?_) | (with_reducible refine below_drewN ?_ _)))) (hb1.mono (by omega))
      clear hb1
      go_wp2_with (at_builtin; refine wpList_push_at rfl rfl slStep (by show (0 : Nat) < 2; omega) ((hG1.keep ?k2 ?k3).alloc _) rfl (ad := ⟨w1.heap.size, 0, none⟩) rfl (cs := [.int .i64 kv, .int .i64 0]) (y := ((kv, 0) : Stp)) (lx := w1.heap.size + 1) (hx' := w1.heap.size + 1) ?k4 (It.flat (z := true) (w0 := w1) (fp := []) (repStp_mk ⟨by omega, by omega⟩ ⟨by omega, by omega⟩)) (by omega) (.inl (by omega)) (by unfold maxLen; omega) (by omega) ?k5 ?_)
      case k2 => exact (by repeat' (first | (with_reducible exact Zone.refl _ _ _) | (with_reducible refine Zone.setCell ?_ (Or.inl (by first | omega | (simp; omega) | simp)) _) | (with_reducible refine Zone.alloc ?_ (by first | omega | (simp; omega) | simp) _) | (with_reducible refine Zone.drew ?_)))
      case k3 => exact (by repeat' (first | (with_reducible exact Zone.refl _ _ _) | (with_reducible refine Zone.setCell ?_ (Or.inl (by first | omega | (simp; omega) | simp)) _) | (with_reducible refine Zone.alloc ?_ (by first | omega | (simp; omega) | simp) _) | (with_reducible refine Zone.drew ?_)))
      case k4 =>
        intro j c hj
        match j, hj with
        | 0, hj => simp at hj; subst hj; simp [Addr.add, go_sem]
        | 1, hj => simp at hj; subst hj; simp [Addr.add, go_sem]
      case k5 => simp; omega
      intro g4 cap4 w4 hG4 hg4 hb4 hat4
      have s4 := hb4.size
      simp only [World.size_alloc, World.size_setCell] at s4
      have lu : we.heap.size < w1.heap.size := by omega
      have q_u0 : w4.cell? ⟨we.heap.size, 0, none⟩ = some (.int .i64 t.1) := oldc hb4 (by omega) (by simp [go_sem, u0, u1, lu])
      have q_u1 : w4.cell? ⟨we.heap.size, 1, none⟩ = some (.slice vao t.2.length vcap) := oldc hb4 (by omega) (by simp [go_sem, u0, u1, lu])
      have f_u : ∀ o, w4.frozen? ⟨we.heap.size, o, none⟩ = false := fun o => (hb4.frozen (p := ⟨we.heap.size, o, none⟩) (by simp)).trans (by simp [go_sem, uf, lu])
      have HO4 := Lib.hid (hG4.ow (l0 := we.heap.size + 1) (Nat.le_refl _) (Nat.le_refl _))
      have hbe4 : Below we.heap.size we w4 := Below.trans (show Below we.heap.size we _ from (hbe1.setCell (p := ⟨we.heap.size, 1, none⟩) (Nat.le_refl _) _).alloc (by simp; omega) _) (hb4.mono (by omega))
      clear hG1 hG4 hg4 hb4 hat4 u0 u1 uf
      go_wp2_with fail
      refine (isTypeS_b _ _ _ (t.1, t.2 ++ [(kv, 0)]) (Rd.kin_mk HI.out (HO4.out.rd.keep ?k6)) r1 HF.out).mono ?_
      case k6 => exact (by repeat' (first | (with_reducible exact Zone.refl _ _ _) | (with_reducible refine Zone.setCell ?_ (Or.inl (by first | omega | (simp; omega) | simp)) _) | (with_reducible refine Zone.alloc ?_ (by first | omega | (simp; omega) | simp) _) | (with_reducible refine Zone.drew ?_)))
      rintro e w6 ⟨rfl, hb6⟩
      have s6 := hb6.size
      simp only [World.size_setCell] at s6
      have HO6 : Ow (we.heap.size + 1) w4.heap.size w6 [.int .i64 t.1, .slice (some ⟨g4, 0, none⟩) (t.2.length + 1) cap4] ((t.1, t.2 ++ [(kv, 0)]) : Kin) := by
        refine Ow.below (Ow.kin_mk HI.out (HO4.out.keep ?_)) hb6
        exact (by repeat' (first | (with_reducible exact Zone.refl _ _ _) | (with_reducible refine Zone.setCell ?_ (Or.inl (by first | omega | (simp; omega) | simp)) _) | (with_reducible refine Zone.alloc ?_ (by first | omega | (simp; omega) | simp) _) | (with_reducible refine Zone.drew ?_)))
      have HO6 := Lib.hid HO6
      have q_u0 : w6.cell? ⟨we.heap.size, 0, none⟩ = some (.int .i64 t.1) := oldc hb6 (by simp; omega) (by simp [go_sem, q_u0, q_u1])
      have q_u1 : w6.cell? ⟨we.heap.size, 1, none⟩ = some (.slice (some ⟨g4, 0, none⟩) (t.2.length + 1) cap4) := oldc hb6 (by simp; omega) (by simp [go_sem, q_u0, q_u1])
      have hbe6 : Below we.heap.size we w6 := Below.trans (show Below we.heap.size we _ from hbe4.setCell (p := ⟨we.heap.size, 1, none⟩) (Nat.le_refl _) _) (hb6.mono (by simp; omega))
      have hM6 := Lib.hid (hM.out.below hbe6)
      have hee6 : Below W0.heap.size W0 w6 := hee.trans (hbe6.mono sE)
      clear hb6 HO4 hM hbe6 hbe4 hbe1 HF
      cases r1
      · have HN := Lib.hid hM6.out.top
        rw [show moreTo t j = moreTo t (j + 1) by rw [hKS.out]; simp] at HN
        clear hM6 hKS HO6
        go_wp2
        go_roundw
        case rel => exact ⟨j + 1, kv + 1, by omega, hkvn.out, rfl, HN, hee6⟩
        case measure => simp [intOf]; omega
      · go_wp2_with (at_builtin; refine wpList_push_at rfl rfl slKin (by show (0 : Nat) < 2; omega) (hM6.out.alloc _) rfl (ad := ⟨w6.heap.size, 0, none⟩) rfl (cs := [.int .i64 t.1, .slice (some ⟨g4, 0, none⟩) (t.2.length + 1) cap4]) (y := ((t.1, t.2 ++ [(kv, 0)]) : Kin)) (lx := we.heap.size + 1) (hx' := w4.heap.size) ?k7 ((Ow.it HO6.out).keep ?k8) (by omega) (.inl (by omega)) (by unfold maxLen; omega) (by omega) ?k9 ?_)
        case k7 =>
          intro j c hj
          match j, hj with
          | 0, hj => simp at hj; subst hj; simp [Addr.add, go_sem]
          | 1, hj => simp at hj; subst hj; simp [Addr.add, go_sem]
        case k8 => exact Zone.alloc (Zone.refl _ _ _) (by omega) _
        case k9 => simp; omega
        intro g8 cap8 w8 hG8 hg8 hb8 hat8
        have HN := Lib.hid hG8
        rw [show moreTo t j ++ [(t.1, t.2 ++ [(kv, 0)])] = moreTo t (j + 1) by rw [hKS.out]; simp] at HN
        have hee8 : Below W0.heap.size W0 w8 := Below.trans (hee6.alloc (by omega) _) hb8
        clear hM6 hKS HO6 hG8 hg8 hb8 hat8
        go_wp2
        go_roundw
        case rel => exact ⟨j + 1, kv + 1, by omega, hkvn.out, rfl, HN, hee8⟩
        case measure => simp [intOf]; omega
    · obtain rfl : j = 8 := by omega
      have hk8 : ¬ kv ≤ 8 := by omega
      have HW := Lib.hid (hM.out.ow (l0 := w.heap.size) (by omega) (by omega))
      clear hM
      go_wp2
      go_ret
      exact ⟨_, rfl, HW.out, hew⟩
set_option maxRecDepth 20000 in
set_option maxHeartbeats 16000000 in
theorem typesFromS_1 (w : World) (N : Nat) (hN1 : 1 ≤ N) (hN3 : N ≤ 3) : Calls Try.prog 88 #[.int .i64 (1 : Int), .int .i64 N] w (PostOw w (outT (1 : Int) N)) := by
  obtain ⟨ego, hego⟩ : ∃ e : Int, e = (1 : Int) := ⟨_, rfl⟩
  have he : ego = 1 ∨ ego = 2 := by omega
  have HOK := Lib.hid (show ∀ k, k ≤ 8 → ∀ t ∈ lastT ego k, TOk ego k t from lastT_ok he)
  have HLL := Lib.hid (show ∀ k, k ≤ 3 → (lastT ego k).length ≤ 512 from fun k hk => by
    have := lastT_len ego k
    have h2 : 8 ^ k ≤ 8 ^ 3 := Nat.pow_le_pow_right (by omega) hk
    omega)
  have HLO := Lib.hid (show ∀ k, k ≤ 3 → (outT ego k).length ≤ 4096 from fun k hk => by
    have h1 := lastT_len ego (0 + 1)
    have h2 := lastT_len ego (1 + 1)
    have h3 := lastT_len ego (2 + 1)
    obtain rfl | rfl | rfl | rfl : k = 0 ∨ k = 1 ∨ k = 2 ∨ k = 3 := by omega
    all_goals simp only [outT, List.length_append, List.length_nil]; omega)
  have hE64 : I64 ego := by unfold I64; omega
  have HE := Lib.hid hE64
  clear hE64 he
  subst hego
  go_enter Try.func88, Try.ntmps88
  go_wp2_with fail
  refine (l1In_b (N : Int) 1 3 _ true (by symm; simp; omega)).mono ?_
  rintro e wa ⟨rfl, hba⟩
  have sa := hba.size
  have hlast := Lib.hid (lit_kin (w := wa.alloc (.cells #[] 36)) HE.out 36)
  have hG0 := Lib.hid (show GL true w.heap.size w.heap.size (wa.heap.size + 1) (wa.alloc (.cells #[] 36)) 36 (.slice (some ⟨wa.heap.size, 0, none⟩) 0 0) (outT (1 : Int) 0) from GL.lower (GL.lit0 (α := Kin) true wa.heap.size wa.heap.size wa 36 (Nat.le_refl _)) sa sa)
  go_wp2
  go_loopw [5, 6, 7] (fun s5 s6 s7 wr => ∃ k : Nat, k ≤ N ∧ s7 = .int .i64 k ∧ Hid (GL true w.heap.size w.heap.size wr.heap.size wr 36 s5 (outT (1 : Int) k)) ∧ (∃ ao cap, s6 = .slice ao (lastT (1 : Int) k).length cap) ∧ Hid (Rd false 0 wr.heap.size wr [s6] (lastT (1 : Int) k)) ∧ Below w.heap.size w wr) (fun _ _ s7 _ => N - (intOf s7).toNat)
  case atStart => exact ⟨0, Nat.zero_le _, rfl, Lib.hid (hG0.out.alloc _).top, ⟨_, _, rfl⟩, Lib.hid (by have := hlast.out.all; simp only [World.size_alloc] at this ⊢; exact this), (by repeat' (first | (with_reducible exact Below.refl _ _) | (with_reducible assumption) | (with_reducible refine Below.alloc ?_ (by first | omega | (simp; omega) | simp) _) | (with_reducible refine Below.setCell ?_ (by first | omega | (simp; omega) | simp) _) | (with_reducible refine Below.drew ?_) | (with_reducible refine below_drewN ?_ _)))⟩
  case round =>
    clear hlast hG0 hba sa
    obtain ⟨wb, hwb⟩ : ∃ wm : World, wm = wr := ⟨_, rfl⟩
    subst hwb
    obtain ⟨k, hk, rfl, hG, ⟨la, lc, rfl⟩, hL, hbb⟩ := hrel
    have sB := hbb.size
    by_cases hlt : k < N
    · have hI : (k : Int) < (N : Int) := by omega
      obtain ⟨A, hA⟩ : ∃ A, A = lastT (1 : Int) k := ⟨_, rfl⟩
      rw [← hA] at hL
      rw [← hA]
      have HA := Lib.hid hA
      have hA512 : A.length ≤ 512 := by rw [hA]; exact HLL.out k (by omega)
      have HAK := Lib.hid (show ∀ t ∈ A, isKin t = true ∧ t.2.length < 8 from fun t ht => by
        have := HOK.out k (by omega) t (by rw [← HA.out]; exact ht)
        exact ⟨this.kin, by have := this.len; omega⟩)
      have hN0 := Lib.hid (show GL true wb.heap.size wb.heap.size (wb.alloc (.cells #[] 36)).heap.size (wb.alloc (.cells #[] 36)) 36 (.slice (some ⟨wb.heap.size, 0, none⟩) 0 0) ((A.take 0).flatMap more) from (GL.lit0 (α := Kin) true wb.heap.size wb.heap.size wb 36 (Nat.le_refl _)).top)
      clear hA
      go_wp2
      go_loopw [8, 10, 34] (fun s8 _ s34 wr => ∃ i : Nat, i ≤ A.length ∧ s34 = .int .i64 i ∧ Hid (GL true wb.heap.size wb.heap.size wr.heap.size wr 36 s8 ((A.take i).flatMap more)) ∧ Below wb.heap.size wb wr) (fun _ _ s34 _ => A.length - (intOf s34).toNat)
      case atStart => exact ⟨0, Nat.zero_le _, rfl, hN0, (by repeat' (first | (with_reducible exact Below.refl _ _) | (with_reducible assumption) | (with_reducible refine Below.alloc ?_ (by first | omega | (simp; omega) | simp) _) | (with_reducible refine Below.setCell ?_ (by first | omega | (simp; omega) | simp) _) | (with_reducible refine Below.drew ?_) | (with_reducible refine below_drewN ?_ _)))⟩
      case round =>
        clear hN0
        obtain ⟨wc, hwc⟩ : ∃ wm : World, wm = wr := ⟨_, rfl⟩
        subst hwc
        obtain ⟨i, hi1, rfl, hM, hcc⟩ := hrel
        have sC := hcc.size
        by_cases hli : i < A.length
        · have hIi : (i : Int) < (A.length : Int) := by omega
          obtain ⟨tb, toff, t, tv, rfl, ht, c0, c1, ti, ht2, htk, -, -, tbl⟩ := (hL.out.below hcc).kin_at hli
          obtain ⟨tao, tn, tcap, rfl, htn, htc, htm, -⟩ := ht2.shape
          subst htn
          obtain ⟨htk1, ht8⟩ := HAK.out t (List.mem_of_getElem? ht.out)
          have HTK := Lib.hid htk1
          have HT := Lib.hid (show (A.take (i + 1)).flatMap more = (A.take i).flatMap more ++ more t by rw [take_snoc ht.out, List.flatMap_append]; simp)
          have hfl := flat_more_len (A.take i)
          rw [List.length_take] at hfl
          have HLE := Lib.hid (show ((A.take i).flatMap more).length ≤ 4096 from by omega)
          have HLT := Lib.hid (show (more t).length ≤ 8 from moreTo_len t 8)
          have hZ := Lib.hid htk
          unfold maxLen at htm
          clear ht ht2 htk htk1 ti hfl
          go_wp2_with fail
          refine (l3MoreS_any _ _ _ t (hZ.out.below ?k1) HTK.out ht8).mono ?_
          case k1 => exact (by repeat' (first | (with_reducible exact Below.refl _ _) | (with_reducible assumption) | (with_reducible refine Below.alloc ?_ (by first | omega | (simp; omega) | simp) _) | (with_reducible refine Below.setCell ?_ (by first | omega | (simp; omega) | simp) _) | (with_reducible refine Below.drew ?_) | (with_reducible refine below_drewN ?_ _)))
          rintro e w3 ⟨us, rfl, how, hb3⟩
          have s3 := hb3.size
          simp only [World.size_alloc] at s3 how
          have hbc3 : Below wc.heap.size wc w3 := Below.trans (show Below wc.heap.size wc _ from (by repeat' (first | (with_reducible exact Below.refl _ _) | (with_reducible assumption) | (with_reducible refine Below.alloc ?_ (by first | omega | (simp; omega) | simp) _) | (with_reducible refine Below.setCell ?_ (by first | omega | (simp; omega) | simp) _) | (with_reducible refine Below.drew ?_) | (with_reducible refine below_drewN ?_ _)))) (hb3.mono (by simp))
          have hM3 := Lib.hid (hM.out.below hbc3)
          have hle := HLE.out
          have hlt8 := HLT.out
          clear hb3 hM c0 c1
          go_wp2_with (at_builtin; refine wpList_spread rfl rfl slKin (by show (0 : Nat) < 2; omega) hM3.out rfl rfl (Ow.it how) (by omega) (.inl (by omega)) (by unfold maxLen; omega) (by omega) (by omega) ?_)
          intro v4 w4 hG4 hg4 hb4
          have HN := Lib.hid hG4
          rw [← HT.out] at HN
          have hcc4 : Below wb.heap.size wb w4 := Below.trans (hcc.trans (hbc3.mono sC)) hb4
          clear hM3 hG4 hg4 hb4 how HT
          go_wp2
          go_roundw
          case rel => exact ⟨i + 1, by omega, by go_num, HN, hcc4⟩
          case measure => simp [intOf]; omega
        · obtain rfl : i = A.length := by omega
          have nIi : ¬ (A.length : Int) < (A.length : Int) := by omega
          have hLS : lastT (1 : Int) (k + 1) = (A.take A.length).flatMap more := by rw [List.take_length, lastT, ← HA.out]
          have HM := hM.out
          rw [← hLS] at HM
          obtain ⟨nao, ncap, rfl, hn1, hn2⟩ := HM.len
          have HM := Lib.hid HM
          clear hLS
          have hGc := Lib.hid (hG.out.below hcc)
          have hoh := Lib.hid (fun (g : Nat) e => GL.own_hi hG.out (g := g) e)
          have hlo := HLO.out k (by omega)
          have hll := HLL.out (k + 1) (by omega)
          clear hM hL
          go_wp2_with (at_builtin; refine wpList_spread rfl rfl slKin (by show (0 : Nat) < 2; omega) hGc.out rfl rfl (GL.it (l0 := wb.heap.size) HM.out (Nat.le_refl _) (Nat.le_refl _)) (by omega) (.inl (Nat.le_refl _)) (by unfold maxLen; omega) (by omega) (by omega) ?_)
          intro v7 w7 hG7 hg7 hb7
          have hL7 := Lib.hid (((HM.out.rd (l0 := wb.heap.size) (Nat.le_refl _) (Nat.le_refl _)).weak.keep (Zone.grown (Zone.refl _ _ _) hg7 (Nat.le_refl _) (fun k' e => .inl (hoh.out k' e)))).all)
          have HG7 := Lib.hid hG7
          have hb7' : Below w.heap.size w w7 := Below.trans (hbb.trans (hcc.mono sB)) hb7
          clear hG hGc hG7 hg7 hb7 HM hoh hn1 hn2
          go_wp2
          go_roundw
          case rel => exact ⟨k + 1, by omega, by go_num, HG7, ⟨nao, ncap, rfl⟩, hL7, hb7'⟩
          case measure => simp [intOf]; omega
    · obtain rfl : k = N := by omega
      have nI : ¬ (k : Int) < (k : Int) := by omega
      have HW := Lib.hid (hG.out.ow (l0 := w.heap.size) (Nat.le_refl _) (Nat.le_refl _))
      clear hG hL
      go_wp2
      go_ret
      exact ⟨_, rfl, HW.out, hbb⟩
set_option maxRecDepth 20000 in
set_option maxHeartbeats 16000000 in
theorem typesFromS_2 (w : World) (N : Nat) (hN1 : 1 ≤ N) (hN3 : N ≤ 3) : Calls Try.prog 88 #[.int .i64 (2 : Int), .int .i64 N] w (PostOw w (outT (2 : Int) N)) := by
  obtain ⟨ego, hego⟩ : ∃ e : Int, e = (2 : Int) := ⟨_, rfl⟩
  have he : ego = 1 ∨ ego = 2 := by omega
  have HOK := Lib.hid (show ∀ k, k ≤ 8 → ∀ t ∈ lastT ego k, TOk ego k t from lastT_ok he)
  have HLL := Lib.hid (show ∀ k, k ≤ 3 → (lastT ego k).length ≤ 512 from fun k hk => by
    have := lastT_len ego k
    have h2 : 8 ^ k ≤ 8 ^ 3 := Nat.pow_le_pow_right (by omega) hk
    omega)
  have HLO := Lib.hid (show ∀ k, k ≤ 3 → (outT ego k).length ≤ 4096 from fun k hk => by
    have h1 := lastT_len ego (0 + 1)
    have h2 := lastT_len ego (1 + 1)
    have h3 := lastT_len ego (2 + 1)
    obtain rfl | rfl | rfl | rfl : k = 0 ∨ k = 1 ∨ k = 2 ∨ k = 3 := by omega
    all_goals simp only [outT, List.length_append, List.length_nil]; omega)
  have hE64 : I64 ego := by unfold I64; omega
  have HE := Lib.hid hE64
  clear hE64 he
  subst hego
  go_enter Try.func88, Try.ntmps88
  go_wp2_with fail
  refine (l1In_b (N : Int) 1 3 _ true (by symm; simp; omega)).mono ?_
  rintro e wa ⟨rfl, hba⟩
  have sa := hba.size
  have hlast := Lib.hid (lit_kin (w := wa.alloc (.cells #[] 36)) HE.out 36)
  have hG0 := Lib.hid (show GL true w.heap.size w.heap.size (wa.heap.size + 1) (wa.alloc (.cells #[] 36)) 36 (.slice (some ⟨wa.heap.size, 0, none⟩) 0 0) (outT (2 : Int) 0) from GL.lower (GL.lit0 (α := Kin) true wa.heap.size wa.heap.size wa 36 (Nat.le_refl _)) sa sa)
  go_wp2
  go_loopw [5, 6, 7] (fun s5 s6 s7 wr => ∃ k : Nat, k ≤ N ∧ s7 = .int .i64 k ∧ Hid (GL true w.heap.size w.heap.size wr.heap.size wr 36 s5 (outT (2 : Int) k)) ∧ (∃ ao cap, s6 = .slice ao (lastT (2 : Int) k).length cap) ∧ Hid (Rd false 0 wr.heap.size wr [s6] (lastT (2 : Int) k)) ∧ Below w.heap.size w wr) (fun _ _ s7 _ => N - (intOf s7).toNat)
  case atStart => exact ⟨0, Nat.zero_le _, rfl, Lib.hid (hG0.out.alloc _).top, ⟨_, _, rfl⟩, Lib.hid (by have := hlast.out.all; simp only [World.size_alloc] at this ⊢; exact this), (by repeat' (first | (with_reducible exact Below.refl _ _) | (with_reducible assumption) | (with_reducible refine Below.alloc ?_ (by first | omega | (simp; omega) | simp) _) | (with_reducible refine Below.setCell ?_ (by first | omega | (simp; omega) | simp) _) | (with_reducible refine Below.drew ?_) | (with_reducible refine below_drewN ?_ _)))⟩
  case round =>
    clear hlast hG0 hba sa
    obtain ⟨wb, hwb⟩ : ∃ wm : World, wm = wr := ⟨_, rfl⟩
    subst hwb
    obtain ⟨k, hk, rfl, hG, ⟨la, lc, rfl⟩, hL, hbb⟩ := hrel
    have sB := hbb.size
    by_cases hlt : k < N
    · have hI : (k : Int) < (N : Int) := by omega
      obtain ⟨A, hA⟩ : ∃ A, A = lastT (2 : Int) k := ⟨_, rfl⟩
      rw [← hA] at hL
      rw [← hA]
      have HA := Lib.hid hA
      have hA512 : A.length ≤ 512 := by rw [hA]; exact HLL.out k (by omega)
      have HAK := Lib.hid (show ∀ t ∈ A, isKin t = true ∧ t.2.length < 8 from fun t ht => by
        have := HOK.out k (by omega) t (by rw [← HA.out]; exact ht)
        exact ⟨this.kin, by have := this.len; omega⟩)
      have hN0 := Lib.hid (show GL true wb.heap.size wb.heap.size (wb.alloc (.cells #[] 36)).heap.size (wb.alloc (.cells #[] 36)) 36 (.slice (some ⟨wb.heap.size, 0, none⟩) 0 0) ((A.take 0).flatMap more) from (GL.lit0 (α := Kin) true wb.heap.size wb.heap.size wb 36 (Nat.le_refl _)).top)
      clear hA
      go_wp2
      go_loopw [8, 10, 34] (fun s8 _ s34 wr => ∃ i : Nat, i ≤ A.length ∧ s34 = .int .i64 i ∧ Hid (GL true wb.heap.size wb.heap.size wr.heap.size wr 36 s8 ((A.take i).flatMap more)) ∧ Below wb.heap.size wb wr) (fun _ _ s34 _ => A.length - (intOf s34).toNat)
      case atStart => exact ⟨0, Nat.zero_le _, rfl, hN0, (by repeat' (first | (with_reducible exact Below.refl _ _) | (with_reducible assumption) | (with_reducible refine Below.alloc ?_ (by first | omega | (simp; omega) | simp) _) | (with_reducible refine Below.setCell ?_ (by first | omega | (simp; omega) | simp) _) | (with_reducible refine Below.drew ?_) | (with_reducible refine below_drewN ?_ _)))⟩
      case round =>
        clear hN0
        obtain ⟨wc, hwc⟩ : ∃ wm : World, wm = wr := ⟨_, rfl⟩
        subst hwc
        obtain ⟨i, hi1, rfl, hM, hcc⟩ := hrel
        have sC := hcc.size
        by_cases hli : i < A.length
        · have hIi : (i : Int) < (A.length : Int) := by omega
          obtain ⟨tb, toff, t, tv, rfl, ht, c0, c1, ti, ht2, htk, -, -, tbl⟩ := (hL.out.below hcc).kin_at hli
          obtain ⟨tao, tn, tcap, rfl, htn, htc, htm, -⟩ := ht2.shape
          subst htn
          obtain ⟨htk1, ht8⟩ := HAK.out t (List.mem_of_getElem? ht.out)
          have HTK := Lib.hid htk1
          have HT := Lib.hid (show (A.take (i + 1)).flatMap more = (A.take i).flatMap more ++ more t by rw [take_snoc ht.out, List.flatMap_append]; simp)
          have hfl := flat_more_len (A.take i)
          rw [List.length_take] at hfl
          have HLE := Lib.hid (show ((A.take i).flatMap more).length ≤ 4096 from by omega)
          have HLT := Lib.hid (show (more t).length ≤ 8 from moreTo_len t 8)
          have hZ := Lib.hid htk
          unfold maxLen at htm
          clear ht ht2 htk htk1 ti hfl
          go_wp2_with fail
          refine (l3MoreS_any _ _ _ t (hZ.out.below ?k1) HTK.out ht8).mono ?_
          case k1 => exact (by repeat' (first | (with_reducible exact Below.refl _ _) | (with_reducible assumption) | (with_reducible refine Below.alloc ?_ (by first | omega | (simp; omega) | simp) _) | (with_reducible refine Below.setCell ?_ (by first | omega | (simp; omega) | simp) _) | (with_reducible refine Below.drew ?_) | (with_reducible refine below_drewN ?_ _)))
          rintro e w3 ⟨us, rfl, how, hb3⟩
          have s3 := hb3.size
          simp only [World.size_alloc] at s3 how
          have hbc3 : Below wc.heap.size wc w3 := Below.trans (show Below wc.heap.size wc _ from (by repeat' (first | (with_reducible exact Below.refl _ _) | (with_reducible assumption) | (with_reducible refine Below.alloc ?_ (by first | omega | (simp; omega) | simp) _) | (with_reducible refine Below.setCell ?_ (by first | omega | (simp; omega) | simp) _) | (with_reducible refine Below.drew ?_) | (with_reducible refine below_drewN ?_ _)))) (hb3.mono (by simp))
          have hM3 := Lib.hid (hM.out.below hbc3)
          have hle := HLE.out
          have hlt8 := HLT.out
          clear hb3 hM c0 c1
          go_wp2_with (at_builtin; refine wpList_spread rfl rfl slKin (by show (0 : Nat) < 2; omega) hM3.out rfl rfl (Ow.it how) (by omega) (.inl (by omega)) (by unfold maxLen; omega) (by omega) (by omega) ?_)
          intro v4 w4 hG4 hg4 hb4
          have HN := Lib.hid hG4
          rw [← HT.out] at HN
          have hcc4 : Below wb.heap.size wb w4 := Below.trans (hcc.trans (hbc3.mono sC)) hb4
          clear hM3 hG4 hg4 hb4 how HT
          go_wp2
          go_roundw
          case rel => exact ⟨i + 1, by omega, by go_num, HN, hcc4⟩
          case measure => simp [intOf]; omega
        · obtain rfl : i = A.length := by omega
          have nIi : ¬ (A.length : Int) < (A.length : Int) := by omega
          have hLS : lastT (2 : Int) (k + 1) = (A.take A.length).flatMap more := by rw [List.take_length, lastT, ← HA.out]
          have HM := hM.out
          rw [← hLS] at HM
          obtain ⟨nao, ncap, rfl, hn1, hn2⟩ := HM.len
          have HM := Lib.hid HM
          clear hLS
          have hGc := Lib.hid (hG.out.below hcc)
          have hoh := Lib.hid (fun (g : Nat) e => GL.own_hi hG.out (g := g) e)
          have hlo := HLO.out k (by omega)
          have hll := HLL.out (k + 1) (by omega)
          clear hM hL
          go_wp2_with (at_builtin; refine wpList_spread rfl rfl slKin (by show (0 : Nat) < 2; omega) hGc.out rfl rfl (GL.it (l0 := wb.heap.size) HM.out (Nat.le_refl _) (Nat.le_refl _)) (by omega) (.inl (Nat.le_refl _)) (by unfold maxLen; omega) (by omega) (by omega) ?_)
          intro v7 w7 hG7 hg7 hb7
          have hL7 := Lib.hid (((HM.out.rd (l0 := wb.heap.size) (Nat.le_refl _) (Nat.le_refl _)).weak.keep (Zone.grown (Zone.refl _ _ _) hg7 (Nat.le_refl _) (fun k' e => .inl (hoh.out k' e)))).all)
          have HG7 := Lib.hid hG7
          have hb7' : Below w.heap.size w w7 := Below.trans (hbb.trans (hcc.mono sB)) hb7
          clear hG hGc hG7 hg7 hb7 HM hoh hn1 hn2
          go_wp2
          go_roundw
          case rel => exact ⟨k + 1, by omega, by go_num, HG7, ⟨nao, ncap, rfl⟩, hL7, hb7'⟩
          case measure => simp [intOf]; omega
    · obtain rfl : k = N := by omega
      have nI : ¬ (k : Int) < (k : Int) := by omega
      have HW := Lib.hid (hG.out.ow (l0 := w.heap.size) (Nat.le_refl _) (Nat.le_refl _))
      clear hG hL
      go_wp2
      go_ret
      exact ⟨_, rfl, HW.out, hbb⟩
theorem typesFromS_1n (w : World) (n : Int) : Calls Try.prog 88 #[.int .i64 1, .int .i64 n] w (PostOw w (typesX 1 n)) := by
  by_cases h1 : 1 ≤ n ∧ n ≤ 3
  · obtain ⟨N, rfl⟩ := Int.eq_ofNat_of_zero_le (show 0 ≤ n by omega)
    rw [show typesX 1 (N : Int) = outT 1 N by unfold typesX; rw [if_pos (by simp [typesV]; omega), Int.toNat_natCast]]
    exact typesFromS_1 w N (by omega) (by omega)
  · have HF := Lib.hid (show typesX 1 n = [] by unfold typesX; rw [if_neg]; simp [typesV]; omega)
    have HD := Lib.hid (show false = decide (1 ≤ n ∧ n ≤ 3) by simp; omega)
    clear h1
    go_enter Try.func88, Try.ntmps88
    go_wp2_with fail
    refine (l1In_b n 1 3 _ false HD.out).mono ?_
    rintro e1 w1 ⟨rfl, hbw1⟩
    have hpw1 : Below w.heap.size w w1 := Below.after (by repeat' (first | (with_reducible exact Below.refl _ _) | (with_reducible assumption) | (with_reducible refine Below.alloc ?_ (by first | omega | (simp; omega) | simp) _) | (with_reducible refine Below.setCell ?_ (by first | omega | (simp; omega) | simp) _) | (with_reducible refine Below.drew ?_) | (with_reducible refine below_drewN ?_ _))) hbw1 (by first | omega | (simp only [World.size_alloc, World.size_setCell, World.size_drew] at *; omega) | (simp; omega) | simp)
    have sw1 := hpw1.size
    have hBw1 : Below w.heap.size w w1 := hpw1
    clear hbw1 hpw1
    go_wp2
    go_ret
    exact ⟨_, rfl, by rw [HF.out]; exact Ow.nil _ _ _, hBw1⟩
theorem typesFromS_2n (w : World) (n : Int) : Calls Try.prog 88 #[.int .i64 2, .int .i64 n] w (PostOw w (typesX 2 n)) := by
  by_cases h1 : 1 ≤ n ∧ n ≤ 3
  · obtain ⟨N, rfl⟩ := Int.eq_ofNat_of_zero_le (show 0 ≤ n by omega)
    rw [show typesX 2 (N : Int) = outT 2 N by unfold typesX; rw [if_pos (by simp [typesV]; omega), Int.toNat_natCast]]
    exact typesFromS_2 w N (by omega) (by omega)
  · have HF := Lib.hid (show typesX 2 n = [] by unfold typesX; rw [if_neg]; simp [typesV]; omega)
    have HD := Lib.hid (show false = decide (1 ≤ n ∧ n ≤ 3) by simp; omega)
    clear h1
    go_enter Try.func88, Try.ntmps88
    go_wp2_with fail
    refine (l1In_b n 1 3 _ false HD.out).mono ?_
    rintro e2 w2 ⟨rfl, hbw2⟩
    have hpw2 : Below w.heap.size w w2 := Below.after (by repeat' (first | (with_reducible exact Below.refl _ _) | (with_reducible assumption) | (with_reducible refine Below.alloc ?_ (by first | omega | (simp; omega) | simp) _) | (with_reducible refine Below.setCell ?_ (by first | omega | (simp; omega) | simp) _) | (with_reducible refine Below.drew ?_) | (with_reducible refine below_drewN ?_ _))) hbw2 (by first | omega | (simp only [World.size_alloc, World.size_setCell, World.size_drew] at *; omega) | (simp; omega) | simp)
    have sw2 := hpw2.size
    have hBw2 : Below w.heap.size w w2 := hpw2
    clear hbw2 hpw2
    go_wp2
    go_ret
    exact ⟨_, rfl, by rw [HF.out]; exact Ow.nil _ _ _, hBw2⟩
theorem typesFromS_any (w : World) (ego n : Int) : Calls Try.prog 88 #[.int .i64 ego, .int .i64 n] w (PostOw w (typesX ego n)) := by
  by_cases h1 : ego = 1
  · subst h1; exact typesFromS_1n w n
  by_cases h2 : ego = 2
  · subst h2; exact typesFromS_2n w n
  have n1 : (ego != 1) = true := by simpa using h1
  have n2 : (ego != 2) = true := by simpa using h2
  have HF := Lib.hid (show typesX ego n = [] by unfold typesX; rw [if_neg]; simp [typesV, h1, h2])
  go_enter Try.func88, Try.ntmps88
  go_wp2
  go_ret
  exact ⟨_, rfl, by rw [HF.out]; exact Ow.nil _ _ _, Below.refl _ _⟩
end Go.Proofs.Ytdjnogcljmaapaa
