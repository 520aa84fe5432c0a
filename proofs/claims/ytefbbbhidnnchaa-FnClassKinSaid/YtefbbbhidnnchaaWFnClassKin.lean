/- The walk of the law FnClassKin. -/
import Derived.Test.YtefbbbhidnnchaaZ14M
import Derived.Test.YtefbbbhidnnchaaMkfH
import Derived.Test.YtefbbbhidnnchaaZ14S
import Derived.Test.YtefbbbhidnnchaaErrS
import Derived.Test.YtefbbbhidnnchaaDrwC
import Derived.Test.YtefbbbhidnnchaaDrwT
import Derived.Test.YtefbbbhidnnchaaRlf
import Derived.Test.YtefbbbhidnnchaaCkl
namespace Go.Proofs.Ytefbbbhidnnchaa
set_option linter.unusedVariables false
set_option linter.unusedSimpArgs false
open Go.RowKit

theorem Rd.up {α : Type} [Rep α] {z : Bool} {lo : Nat} {w w' : World} {cs : List Value} {x : α} (h : Rd z lo w.heap.size w cs x) (hb : Below w.heap.size w w') : Rd z lo w'.heap.size w' cs x := (h.below hb).mono (Nat.le_refl _) hb.size
set_option maxRecDepth 20000 in
set_option maxHeartbeats 40000000 in
theorem walk_FnClassKin (w : World) (c0a : Value) (code : List UInt8) (h0 : Rd false 0 w.heap.size w [c0a] code) :
    Calls Try.prog 5 #[c0a] w (PostB w true) := by
  obtain ⟨ao0, len0, cap0, hcs0, hln0, hcn0, hcm0, -⟩ := h0.shape
  subst hcs0
  subst hln0
  unfold maxLen at hcm0
  have hle0 : code.length ≤ 9223372036854775807 := by omega
  clear hcm0 hcn0
  by_cases hg0 : 1048576 < code.length
  · go_enter Try.func5, Try.ntmps5
    go_wp2
    go_ret
    exact ⟨rfl, bwT⟩
  have hq1 : code.length ≤ 1048576 := by omega
  have HC0 := Lib.hid h0
  clear h0 hg0
  go_enter Try.func5, Try.ntmps5
  go_wp2_with fail
  refine (crowd_any _ _ code HC0.out hq1 16 (by omega)).mono ?_
  rintro e1 w1 ⟨v1, v2, f, rfl, hrf, hff, hbw1⟩
  have hpw1 : Below w.heap.size w w1 := Below.after bwT hbw1 szT
  have sw1 := hpw1.size
  have hBw1 : Below w.heap.size w w1 := hpw1
  clear hbw1 hpw1
  obtain ⟨xa, xn, xc, ya, yn, yc, rfl, rfl⟩ := shapeFam hrf
  obtain ⟨_, _, _, ea, eb, -⟩ := (hrf.fam).1.shape
  simp only [Value.slice.injEq] at ea
  obtain ⟨rfl, rfl, rfl⟩ := ea
  subst eb
  have HR1 := Lib.hid hrf
  have HFF := Lib.hid hff.out
  have hbf : Below w1.heap.size w1 w1 := Below.refl _ _
  clear hrf hff
  go_wp2_with fail
  refine (fresh_any _ _ code (HC0.out.below bwT) hq1 5 (by omega) (by omega)).mono ?_
  rintro e2 w2 ⟨fa, ys, rfl, hofa, hlfa, hbw2⟩
  have hpw2 : Below w1.heap.size w1 w2 := Below.after bwT hbw2 szT
  have sw2 := hpw2.size
  have hBw2 : Below w.heap.size w w2 := Below.trans hBw1 (Below.mono hpw2 hBw1.size)
  have l_f : w1.heap.size < w2.heap.size := by have := hbw2.size; simp at this; omega
  have q_f0 : w2.cell? ⟨w1.heap.size, 0, none⟩ = some (.slice xa f.1.length xc) := oldc hbw2 ltT (by simp [go_sem])
  have q_f1 : w2.cell? ⟨w1.heap.size, 1, none⟩ = some (.slice ya yn yc) := oldc hbw2 ltT (by simp [go_sem])
  replace hbf := Below.trans hbf (Below.mono hpw2 (by omega))
  clear hbw2 hpw2
  have z12 : w1.heap.size < w2.heap.size := l_f
  go_wp2_with fail
  refine (makeClasses_any _ _ ys hofa.rd (by omega) 8 (by omega) (by omega)).mono ?_
  rintro e3 w3 ⟨ca, cb, c, rfl, hoc, hcl, hbw3⟩
  have hpw3 : Below w2.heap.size w2 w3 := Below.after bwT hbw3 szT
  have sw3 := hpw3.size
  have hBw3 : Below w.heap.size w w3 := Below.trans hBw2 (Below.mono hpw3 hBw2.size)
  replace q_f0 := oldc hpw3 l_f q_f0
  replace q_f1 := oldc hpw3 l_f q_f1
  replace l_f := Nat.lt_of_lt_of_le l_f sw3
  replace hbf := Below.trans hbf (Below.mono hpw3 (by omega))
  clear hbw3 hpw3
  obtain ⟨ac, nc, kc, bc, mc, lc, rfl, rfl⟩ := shapeCls hoc.rd
  obtain ⟨_, _, _, e3, hn3, -⟩ := (hoc.rd.two rfl).1.shape
  simp only [Value.slice.injEq] at e3
  obtain ⟨-, rfl, -⟩ := e3
  subst hn3
  have hc8 : c.1.length ≤ 8 := hcl.out.2
  have HCL := Lib.hid hcl.out.1
  have hc1 : 1 ≤ c.1.length := (isCls_facts hcl.out.1).1
  clear hcl hofa
  go_wp2_with fail
  refine (fresh_any _ _ code (HC0.out.below bwT) hq1 7 (by omega) (by omega)).mono ?_
  rintro e4 w4 ⟨fb, zs, rfl, hofb, hlfb, hbw4⟩
  have hpw4 : Below w3.heap.size w3 w4 := Below.after bwT hbw4 szT
  have sw4 := hpw4.size
  have hBw4 : Below w.heap.size w w4 := Below.trans hBw3 (Below.mono hpw4 hBw3.size)
  replace q_f0 := oldc hpw4 l_f q_f0
  replace q_f1 := oldc hpw4 l_f q_f1
  replace l_f := Nat.lt_of_lt_of_le l_f sw4
  have l_cc : w3.heap.size < w4.heap.size := by have := hbw4.size; simp at this; omega
  have q_cc0 : w4.cell? ⟨w3.heap.size, 0, none⟩ = some (.slice ac c.1.length kc) := oldc hbw4 ltT (by simp [go_sem])
  have q_cc1 : w4.cell? ⟨w3.heap.size, 1, none⟩ = some (.slice bc mc lc) := oldc hbw4 ltT (by simp [go_sem])
  replace hoc := Ow.below hoc hpw4
  replace hbf := Below.trans hbf (Below.mono hpw4 (by omega))
  clear hbw4 hpw4
  have z34 : w3.heap.size < w4.heap.size := l_cc
  go_wp2_with fail
  refine (makeType_any _ _ zs hofb.rd (by omega) 4 (by omega) (by omega)).mono ?_
  rintro e5 w5 ⟨tv, t, rfl, hot, hkt, hbw5⟩
  have hpw5 : Below w4.heap.size w4 w5 := Below.after bwT hbw5 szT
  have sw5 := hpw5.size
  have hBw5 : Below w.heap.size w w5 := Below.trans hBw4 (Below.mono hpw5 hBw4.size)
  replace q_f0 := oldc hpw5 l_f q_f0
  replace q_f1 := oldc hpw5 l_f q_f1
  replace q_cc0 := oldc hpw5 l_cc q_cc0
  replace q_cc1 := oldc hpw5 l_cc q_cc1
  replace l_cc := Nat.lt_of_lt_of_le l_cc sw5
  replace l_f := Nat.lt_of_lt_of_le l_f sw5
  replace hoc := Ow.below hoc hpw5
  replace hbf := Below.trans hbf (Below.mono hpw5 (by omega))
  clear hbw5 hpw5
  clear hofb
  obtain ⟨e, l⟩ := t
  dsimp only at hot hkt
  obtain ⟨_, at1, nt1, kt1, _, rfl⟩ := shapeKin hot.rd
  have HKT := Lib.hid hkt.out.1
  have he12 : e = 1 ∨ e = 2 := hkt.out.2.2
  clear hkt
  obtain ⟨wA, hwA⟩ : ∃ W : World, W = w5.alloc (.cells #[.int .i64 e, .slice at1 nt1 kt1] 49) := ⟨_, rfl⟩
  have hbA : Below (w5.alloc (.cells #[.int .i64 e, .slice at1 nt1 kt1] 49)).heap.size (w5.alloc (.cells #[.int .i64 e, .slice at1 nt1 kt1] 49)) wA := by rw [hwA]; exact Below.refl _ _
  have hpwA : Below w5.heap.size w5 wA := Below.after bwT hbA szT
  have swA := hpwA.size
  have hBwA : Below w.heap.size w wA := Below.trans hBw5 (Below.mono hpwA hBw5.size)
  replace q_f0 := oldc hpwA l_f q_f0
  replace q_f1 := oldc hpwA l_f q_f1
  replace q_cc0 := oldc hpwA l_cc q_cc0
  replace q_cc1 := oldc hpwA l_cc q_cc1
  replace l_cc := Nat.lt_of_lt_of_le l_cc swA
  replace l_f := Nat.lt_of_lt_of_le l_f swA
  have l_tt : w5.heap.size < wA.heap.size := by have := hbA.size; simp at this; omega
  have q_tt0 : wA.cell? ⟨w5.heap.size, 0, none⟩ = some (.int .i64 e) := oldc hbA ltT (by simp [go_sem])
  have q_tt1 : wA.cell? ⟨w5.heap.size, 1, none⟩ = some (.slice at1 nt1 kt1) := oldc hbA ltT (by simp [go_sem])
  replace hoc := Ow.below hoc hpwA
  replace hot := Ow.below hot hpwA
  replace hbf := Below.trans hbf (Below.mono hpwA (by omega))
  go_upto_region 6 with fail
  rw [← hwA]
  have hBA : Below w.heap.size w wA := hBwA
  have HRA := Lib.hid (HR1.out.up hbf)
  have HCA := Lib.hid hoc.rd
  have HTA := Lib.hid hot.rd
  have hf0 := HFF.out.2.1
  have hf40 := HFF.out.2.2
  clear hwA hbA HR1 hbf hoc hot z12 z34 hlfa hlfb
  go_wp2
  go_loopw [6, 33] (fun s6 s33 wl => ∃ k : Nat, k ≤ f.1.length ∧ s33 = .int .i64 k ∧ Hid (GL (α := Int) true wA.heap.size wA.heap.size wl.heap.size wl 3 s6 (List.replicate k (-1))) ∧ Below wA.heap.size wA wl) (fun _ s33 _ => f.1.length - (intOf s33).toNat)
  case atStart => exact ⟨0, Nat.zero_le _, rfl, Lib.hid ((GL.lit0 true _ _ wA _ (Nat.le_refl _)).top), bwT⟩
  case round =>
    obtain ⟨wo, hwo⟩ : ∃ y : World, y = wr := ⟨_, rfl⟩
    subst hwo
    obtain ⟨k, hk, rfl, HG, hbo⟩ := hrel
    have so := hbo.size
    obtain ⟨P, hP⟩ : ∃ P, P = List.replicate k (-1 : Int) := ⟨_, rfl⟩
    rw [← hP] at HG
    have hPl : P.length = k := by rw [hP]; simp
    by_cases hlt : k < f.1.length
    · have hI : (k : Int) < (f.1.length : Int) := by omega
      have HS := Lib.hid (show List.replicate (k + 1) (-1 : Int) = P ++ [-1] by rw [hP, ← List.replicate_append_replicate (n := k) (m := 1)]; rfl)
      have hP40 : P.length ≤ 40 := by omega
      clear hP hPl
      obtain ⟨pa, pc, rfl, -, -⟩ := HG.out.len
      go_wp2_with (at_builtin; refine wpList_push rfl rfl slInt (by show (0 : Nat) < 1; omega) (HG.out.alloc _) rfl (ad := ⟨wo.heap.size, 0, none⟩) rfl (cs := [.int .i64 (-1)]) (y := (-1 : Int)) (lx := wo.heap.size) (hx' := wo.heap.size) (cells_one _ _ _) (It.int1 (w0 := wo) _ (by unfold I64; omega)) (by first | omega | (simp; done) | (simp; omega)) (.inl szT) (by unfold maxLen; omega) (by omega) (by first | omega | (simp; done) | (simp; omega)) ?_)
      intro v3 w3 hG3 _ hb3
      have HG3 := Lib.hid (show GL (α := Int) true wA.heap.size wA.heap.size w3.heap.size w3 3 v3 (List.replicate (k + 1) (-1)) by rw [HS.out]; exact hG3)
      have hbo3 : Below wA.heap.size wA w3 := hbo.trans (Below.trans (show Below wA.heap.size wo _ from bwT) hb3)
      clear HG hG3 hb3
      go_wp2
      go_roundw
      case rel => exact ⟨k + 1, by omega, by go_num, HG3, hbo3⟩
      case measure => simp [intOf]; omega
    · obtain rfl : k = f.1.length := by omega
      have hI : ¬ (f.1.length : Int) < (f.1.length : Int) := by omega
      have HPL := Lib.hid hPl
      obtain ⟨G, pc, y00, rfl, -, -, -, hG1, hG2, hG3, -⟩ := HG.out.int_at (i := 0) (by rw [hPl]; exact hf0)
      clear hP hPl y00
      have HG6 := Lib.hid (show GL (α := Int) true wA.heap.size wA.heap.size wo.heap.size wo 3 (.slice (some ⟨G, 0, none⟩) P.length pc) P from HG.out)
      have f0 := oldc hbo l_f q_f0
      have f1 := oldc hbo l_f q_f1
      have c0 := oldc hbo l_cc q_cc0
      have c1 := oldc hbo l_cc q_cc1
      have t0 := oldc hbo l_tt q_tt0
      have t1 := oldc hbo l_tt q_tt1
      have lf := Nat.lt_of_lt_of_le l_f so
      have lc' := Nat.lt_of_lt_of_le l_cc so
      have lt' := Nat.lt_of_lt_of_le l_tt so
      have hBo := hBA.trans (Below.mono hbo hBA.size)
      have HRo := Lib.hid (HRA.out.up hbo)
      have HCo := Lib.hid (HCA.out.top.mono (lo' := 0) (Nat.zero_le _) (Nat.le_refl _))
      have HTo := Lib.hid (HTA.out.top.mono (lo' := 0) (Nat.zero_le _) (Nat.le_refl _))
      replace HCo := Lib.hid (HCo.out.up hbo)
      replace HTo := Lib.hid (HTo.out.up hbo)
      have hpI : ¬ (c.1.length : Int) = 0 := by omega
      have hpE : ¬ c.1 = [] := fun e => by rw [e] at hc1; exact absurd hc1 (by simp)
      have hcI : I64 (c.1.length : Int) := by unfold I64; omega
      clear HG
      have kG1 : ¬ w1.heap.size = G := by omega
      have kG2 : ¬ G = w1.heap.size := by omega
      have kG3 : ¬ w3.heap.size = G := by omega
      have kG4 : ¬ G = w3.heap.size := by omega
      go_upto_region 11 with fail
      refine wp_region_held_drew (S := (fun w' => w'.cell? ⟨w1.heap.size, 0, none⟩ = some (.slice xa f.1.length xc) ∧ w'.cell? ⟨w1.heap.size, 1, none⟩ = some (.slice ya yn yc) ∧ w'.cell? ⟨w3.heap.size, 0, none⟩ = some (.slice ac c.1.length kc))) (by kernel_rfl) ?_ (fun hHeld => ?_)
      · first | exact trivial | ((try dsimp only); go_keep)
      refine tkR 0 (v := ?_) ?_ ?_
      rotate_left
      · intro w hSw; (try dsimp only at hSw); go_simp <;> with_reducible rfl
      try simp only [Act.put, List.setIfInBounds_toArray, List.set_cons_zero, List.set_cons_succ]
      refine tkR 1 (v := ?_) ?_ ?_
      rotate_left
      · intro w hSw; (try dsimp only at hSw); go_simp <;> with_reducible rfl
      try simp only [Act.put, List.setIfInBounds_toArray, List.set_cons_zero, List.set_cons_succ]
      refine tkR 2 (v := ?_) ?_ ?_
      rotate_left
      · intro w hSw; (try dsimp only at hSw); go_simp <;> with_reducible rfl
      try simp only [Act.put, List.setIfInBounds_toArray, List.set_cons_zero, List.set_cons_succ]
      refine tkR 4 (v := ?_) ?_ ?_
      rotate_left
      · intro w hSw; (try dsimp only at hSw); go_simp <;> with_reducible rfl
      try simp only [Act.put, List.setIfInBounds_toArray, List.set_cons_zero, List.set_cons_succ]
      refine tkR 6 (v := ?_) ?_ ?_
      rotate_left
      · intro w hSw; (try dsimp only at hSw); go_simp <;> with_reducible rfl
      try simp only [Act.put, List.setIfInBounds_toArray, List.set_cons_zero, List.set_cons_succ]
      refine tkR 7 (v := ?_) ?_ ?_
      rotate_left
      · intro w hSw; (try dsimp only at hSw); go_simp <;> with_reducible rfl
      try simp only [Act.put, List.setIfInBounds_toArray, List.set_cons_zero, List.set_cons_succ]
      refine tkR 8 (v := ?_) ?_ ?_
      rotate_left
      · intro w hSw; (try dsimp only at hSw); go_simp <;> with_reducible rfl
      try simp only [Act.put, List.setIfInBounds_toArray, List.set_cons_zero, List.set_cons_succ]
      refine wpAnyH_ready (rs := [3]) (by kernel_rfl) (by simp) ?_
      refine rdR (fun K hK => ?_) ?_
      · go_simp
        refine (who_any _ _ code ((HC0.out.below hBo).below ?b1) hq1 3 (by omega) (by omega) _ _ f (HRo.out.below ?b2) hf0 hf40).mono ?_
        case b1 => exact bwT
        case b2 => exact bwT
        rintro e7 w7 ⟨x7, rfl, hx7, hb7⟩
        obtain ⟨a, rfl⟩ := Int.eq_ofNat_of_zero_le hx7.1
        have haf : a < f.1.length := by have := hx7.2; omega
        have hp7 : Below wo.heap.size wo w7 := Below.trans (show Below wo.heap.size wo _ from bwT) (hb7.mono szT)
        have hS7 := And.intro (oldc hp7 lf f0) (And.intro (oldc hp7 lf f1) (oldc hp7 lc' c0))
        clear hb7 hx7
        refine hK.out _ _ ?_ (fun hHeld => ?_)
        · exact kpT
        clear hK K
        try simp only [Act.put, List.setIfInBounds_toArray, List.set_cons_zero, List.set_cons_succ]
        refine wpAnyH_ready (rs := [5]) (by kernel_rfl) (by simp) ?_
        refine rdR (fun K hK => ?_) ?_
        · go_simp
          refine (at_any _ _ code ((HC0.out.below (hBo.trans (hp7.mono hBo.size))).below ?b1) hq1 4 (by omega) (by omega)).mono ?_
          case b1 => exact bwT
          rintro e8 w8 ⟨x8, rfl, hx8, hb8⟩
          have hp8 : Below wo.heap.size wo w8 := hp7.trans (Below.mono (Below.trans (show Below w7.heap.size w7 _ from bwT) (hb8.mono szT)) hp7.size)
          have hS8 := And.intro (oldc hp8 lf f0) (And.intro (oldc hp8 lf f1) (oldc hp8 lc' c0))
          obtain ⟨z0, z1, z2⟩ := id hS8
          obtain ⟨m, hm⟩ : ∃ m, m = x8 % (c.1.length : Int) := ⟨_, rfl⟩
          have um : x8.tmod (c.1.length : Int) = m := by rw [hm]; exact Int.tmod_eq_emod_of_nonneg hx8.1
          have hm0 : 0 ≤ m := by rw [hm]; exact Int.emod_nonneg x8 hpI
          have hm1 : m < (c.1.length : Int) := by rw [hm]; exact Int.emod_lt_of_pos x8 (show 0 < (c.1.length : Int) by omega)
          have hmI : I64 m := by unfold I64; omega
          have hmw : IntKind.i64.wrap m = m := IntWalk.i64_in _ (by omega)
          have HG8 := Lib.hid ((HG6.out.below hp8).top)
          obtain ⟨_, _, y8, e8, -, g8, -, -, -, -, gf8⟩ := HG8.out.int_at (i := a) (by rw [HPL.out]; exact haf)
          simp only [Value.slice.injEq, Option.some.injEq, Addr.mk.injEq, and_true, true_and] at e8
          obtain ⟨rfl, rfl⟩ := e8
          have haI : (a : Int) < (P.length : Int) := by rw [HPL.out]; omega
          have lG8 : G < w8.heap.size := Nat.lt_of_lt_of_le hG3 hp8.size
          clear hb8 hx8 hm
          refine hK.out _ _ ?_ (fun hHeld => ?_)
          · exact kpT
          clear hK K
          try simp only [Act.put, List.setIfInBounds_toArray, List.set_cons_zero, List.set_cons_succ]
          refine tkR 9 (v := ?_) ?_ ?_
          rotate_left
          · intro w hSw; (try dsimp only at hSw); go_simp <;> with_reducible rfl
          try simp only [Act.put, List.setIfInBounds_toArray, List.set_cons_zero, List.set_cons_succ]
          refine tkR 10 (v := ?_) ?_ ?_
          rotate_left
          · intro w hSw; (try dsimp only at hSw); go_simp <;> with_reducible rfl
          try simp only [Act.put, List.setIfInBounds_toArray, List.set_cons_zero, List.set_cons_succ]
          refine wpAnyH_ready (rs := [11]) (by kernel_rfl) (by simp) ?_
          refine rdR (fun K hK => ?_) ?_
          · go_simp
            refine hK.out _ _ ?_ (fun hHeld => ?_)
            · exact kpT
            clear hK K
            try simp only [Act.put, List.setIfInBounds_toArray, List.set_cons_zero, List.set_cons_succ]
            refine wpAnyH_done (by kernel_rfl) ?_ _
            obtain ⟨W9, hW9⟩ : ∃ W : World, W = w8.setCell ⟨G, a, none⟩ (.int .i64 m) := ⟨_, rfl⟩
            have hb9 : Below wA.heap.size wA W9 := by
              have : Below wA.heap.size wA w8 := hbo.trans (hp8.mono so)
              rw [hW9]; exact bwT
            have HG9 := Lib.hid (show Rd true 0 W9.heap.size W9 [.slice (some ⟨G, 0, none⟩) P.length pc] (P.set a m) by
              have h := ((HG8.out.put (i := a) (by rw [HPL.out]; exact haf) hmI).top.ow (l0 := wA.heap.size) (Nat.le_refl _) (Nat.le_refl _)).rd
              rw [← hW9] at h
              exact h.mono (Nat.zero_le _) (Nat.le_refl _))
            rw [← hW9]
            have q_f0 := oldc hb9 l_f q_f0
            have q_f1 := oldc hb9 l_f q_f1
            have q_cc0 := oldc hb9 l_cc q_cc0
            have q_cc1 := oldc hb9 l_cc q_cc1
            have q_tt0 := oldc hb9 l_tt q_tt0
            have q_tt1 := oldc hb9 l_tt q_tt1
            have s9 := hb9.size
            have l_f := Nat.lt_of_lt_of_le l_f s9
            have l_cc := Nat.lt_of_lt_of_le l_cc s9
            have l_tt := Nat.lt_of_lt_of_le l_tt s9
            have hBW9 := hBA.trans (Below.mono hb9 hBA.size)
            have HR9 := Lib.hid (HRA.out.up hb9)
            have HC9 := Lib.hid ((HCA.out.top).up hb9)
            have HT9 := Lib.hid ((HTA.out.top).up hb9)
            obtain ⟨g2, hg2⟩ : ∃ g, g = P.set a m := ⟨_, rfl⟩
            have hg2l : P.length = g2.length := by rw [hg2]; simp
            rw [← hg2] at HG9
            obtain ⟨X, V, hXV⟩ := AsgAns.ex f c g2
            have HXV := Lib.hid hXV
            have hXl := hXV.len
            clear hW9 hb9 hg2 hXV HG8 HG6 HRo HCo HTo HRA HCA HTA f0 f1 c0 c1 t0 t1 lf lc' lt' hBo hbo so hp8 hp7 hS7 hS8 z0 z1 z2 g8 gf8 kG1 kG2 kG3 kG4 hG1 hG2 hG3 lG8 haI um hm0 hm1 hmI hmw hHeld hg2l s9
            have hb99 : Below W9.heap.size W9 W9 := Below.refl _ _
            go_wp2_with fail
            refine (assignI_any _ _ _ _ _ _ f c g2 ((HR9.out.below hb99).below bwT) ((HC9.out.below hb99).below bwT) ((HG9.out.below hb99).below bwT) (by omega) X V HXV.out).mono ?_
            rintro e6 w6 ⟨u7, rfl, ho7, hbw6⟩
            have hpw6 : Below W9.heap.size W9 w6 := Below.after bwT hbw6 szT
            have sw6 := hpw6.size
            have hBw6 : Below w.heap.size w w6 := Below.trans hBW9 (Below.mono hpw6 hBW9.size)
            replace q_f0 := oldc hpw6 l_f q_f0
            replace q_f1 := oldc hpw6 l_f q_f1
            replace q_cc0 := oldc hpw6 l_cc q_cc0
            replace q_cc1 := oldc hpw6 l_cc q_cc1
            replace q_tt0 := oldc hpw6 l_tt q_tt0
            replace q_tt1 := oldc hpw6 l_tt q_tt1
            replace l_cc := Nat.lt_of_lt_of_le l_cc sw6
            replace l_f := Nat.lt_of_lt_of_le l_f sw6
            replace l_tt := Nat.lt_of_lt_of_le l_tt sw6
            replace hb99 := Below.trans hb99 (Below.mono hpw6 (by omega))
            clear hbw6 hpw6
            obtain ⟨xb, xn7, xcap, rfl, hxn, -⟩ := ho7.rd.shape
            subst hxn
            go_wp2_with fail
            refine (assignS_any _ _ _ _ _ _ f c g2 ((HR9.out.below hb99).below bwT) ((HC9.out.below hb99).below bwT) ((HG9.out.below hb99).below bwT) (by omega) X V HXV.out).mono ?_
            rintro e7 w7 ⟨u8, rfl, ho8, hbw7⟩
            have hpw7 : Below w6.heap.size w6 w7 := Below.after bwT hbw7 szT
            have sw7 := hpw7.size
            have hBw7 : Below w.heap.size w w7 := Below.trans hBw6 (Below.mono hpw7 hBw6.size)
            replace q_f0 := oldc hpw7 l_f q_f0
            replace q_f1 := oldc hpw7 l_f q_f1
            replace q_cc0 := oldc hpw7 l_cc q_cc0
            replace q_cc1 := oldc hpw7 l_cc q_cc1
            replace q_tt0 := oldc hpw7 l_tt q_tt0
            replace q_tt1 := oldc hpw7 l_tt q_tt1
            replace l_cc := Nat.lt_of_lt_of_le l_cc sw7
            replace l_f := Nat.lt_of_lt_of_le l_f sw7
            replace l_tt := Nat.lt_of_lt_of_le l_tt sw7
            replace ho7 := Ow.below ho7 hpw7
            replace hb99 := Below.trans hb99 (Below.mono hpw7 (by omega))
            clear hbw7 hpw7
            clear ho8
            cases V
            · go_wp2
              go_ret
              exact ⟨rfl, hBw7⟩
            have HAL := Lib.hid (show ALeast f c g2 X by
              have h := HXV.out
              unfold AsgAns at h
              split at h
              · rcases h with ⟨_, h⟩ | ⟨h, _⟩
                · exact h
                · cases h
              · cases h.2)
            have hXn : X.length = f.1.length := HAL.out.1
            have HAV := Lib.hid HAL.out.2.1
            have HXN := Lib.hid hXn
            have hxlB : ((X.length : Int) != (f.1.length : Int)) = false := by rw [hXn]; simp
            have HER := Lib.hid (errs_none HFF.out.1 HCL.out HAV.out hXn)
            have HTV := Lib.hid (show tpV c (e, l) = true by
              have hego : egoOf (e, l) = e := by unfold egoOf; rw [if_neg (by simp only; omega)]
              unfold tpV; rw [HCL.out, HKT.out, hego]
              simp only [Bool.true_and, Bool.not_eq_true', decide_eq_false_iff_not]
              omega)
            obtain ⟨T, hT⟩ : ∃ T, T = tpX c (e, l) := ⟨_, rfl⟩
            have HT := Lib.hid hT
            have HTL := Lib.hid (show T.length = c.1.length by rw [hT, tpX, if_pos HTV.out, typePm_at]; simp [idL])
            have hTlB : ((T.length : Int) != (c.1.length : Int)) = false := by rw [HTL.out]; simp
            have hT8 : T.length ≤ 8 := by rw [HTL.out]; exact hc8
            clear hXn hT HXV
            go_wp2_with fail
            refine (classErrorsS_any _ _ _ _ _ _ f c X ((HR9.out.below hb99).below bwT) ((HC9.out.below hb99).below bwT) (ho7.rd.below bwT) (by omega) true HER.out.1.symm).mono ?_
            rintro e8 w8 ⟨u9, rfl, ho9, hbw8⟩
            have hpw8 : Below w7.heap.size w7 w8 := Below.after bwT hbw8 szT
            have sw8 := hpw8.size
            have hBw8 : Below w.heap.size w w8 := Below.trans hBw7 (Below.mono hpw8 hBw7.size)
            replace q_f0 := oldc hpw8 l_f q_f0
            replace q_f1 := oldc hpw8 l_f q_f1
            replace q_cc0 := oldc hpw8 l_cc q_cc0
            replace q_cc1 := oldc hpw8 l_cc q_cc1
            replace q_tt0 := oldc hpw8 l_tt q_tt0
            replace q_tt1 := oldc hpw8 l_tt q_tt1
            replace l_cc := Nat.lt_of_lt_of_le l_cc sw8
            replace l_f := Nat.lt_of_lt_of_le l_f sw8
            replace l_tt := Nat.lt_of_lt_of_le l_tt sw8
            replace ho7 := Ow.below ho7 hpw8
            replace hb99 := Below.trans hb99 (Below.mono hpw8 (by omega))
            clear hbw8 hpw8
            rw [HER.out.2] at ho9
            obtain ⟨ea, en, ec, rfl, hen, -⟩ := ho9.rd.shape
            obtain rfl : en = 0 := by rw [← hen]; rfl
            clear ho9 hen
            go_wp2_with fail
            refine (typePmI_any _ _ _ _ _ c (e, l) ((HC9.out.below hb99).below bwT) ((HT9.out.below hb99).below bwT) (by omega) true HTV.out.symm).mono ?_
            rintro e9 w9 ⟨u10, rfl, ho10, hbw9⟩
            have hpw9 : Below w8.heap.size w8 w9 := Below.after bwT hbw9 szT
            have sw9 := hpw9.size
            have hBw9 : Below w.heap.size w w9 := Below.trans hBw8 (Below.mono hpw9 hBw8.size)
            replace q_f0 := oldc hpw9 l_f q_f0
            replace q_f1 := oldc hpw9 l_f q_f1
            replace q_cc0 := oldc hpw9 l_cc q_cc0
            replace q_cc1 := oldc hpw9 l_cc q_cc1
            replace q_tt0 := oldc hpw9 l_tt q_tt0
            replace q_tt1 := oldc hpw9 l_tt q_tt1
            replace l_cc := Nat.lt_of_lt_of_le l_cc sw9
            replace l_f := Nat.lt_of_lt_of_le l_f sw9
            replace l_tt := Nat.lt_of_lt_of_le l_tt sw9
            replace ho7 := Ow.below ho7 hpw9
            replace hb99 := Below.trans hb99 (Below.mono hpw9 (by omega))
            clear hbw9 hpw9
            rw [← HT.out] at ho10
            obtain ⟨pa, pn, pcap, rfl, hpn, -⟩ := ho10.rd.shape
            subst hpn
            obtain ⟨WL, hWL⟩ : ∃ W : World, W = w9 := ⟨_, rfl⟩
            subst hWL
            have HXX := Lib.hid ho7.rd
            have HPP := Lib.hid ho10.rd
            have hBL : Below w.heap.size w WL := hBw9
            have HRL := Lib.hid ((HR9.out.below hb99).mono (Nat.le_refl _) hb99.size)
            have HTT := Lib.hid ((HT9.out.below hb99).mono (Nat.le_refl _) hb99.size)
            clear ho7 ho10 hb99
            go_wp2
            go_loopw [15, 17, 115, 123] (fun _ _ s115 _ wl => ∃ k : Nat, k ≤ f.1.length ∧ s115 = .int .i64 k ∧ Below WL.heap.size WL wl) (fun _ _ s115 _ _ => f.1.length - (intOf s115).toNat)
            case atStart => exact ⟨0, Nat.zero_le _, rfl, Below.refl _ _⟩
            case round =>
              obtain ⟨wk, hwk⟩ : ∃ y : World, y = wr := ⟨_, rfl⟩
              subst hwk
              obtain ⟨k, hk, rfl, hbk⟩ := hrel
              have q_f0 := oldc hbk l_f q_f0
              have q_f1 := oldc hbk l_f q_f1
              have q_tt0 := oldc hbk l_tt q_tt0
              have q_tt1 := oldc hbk l_tt q_tt1
              have hBk := hBL.trans (Below.mono hbk hBL.size)
              by_cases hkl : k < f.1.length
              · have hkI : (k : Int) < (f.1.length : Int) := by omega
                go_wp2_with fail
                refine (relativesOf_any _ _ _ _ f (HRL.out.below hbk) HFF.out.1 k hkl e l (HTT.out.below hbk) HKT.out).mono ?_
                rintro e13 w13 ⟨u13, rfl, hr13, hb13⟩
                obtain ⟨row, hrow⟩ : ∃ row, row = rowTo (relF f e l) k f.1.length := ⟨_, rfl⟩
                rw [← hrow] at hr13
                have HRW := Lib.hid (show ∀ x ∈ row, ∃ b : Nat, relF f e l k b = true ∧ x = b from fun x hx => by
                  rw [hrow] at hx
                  obtain ⟨b, _, h1, h2⟩ := mem_rowTo.1 hx
                  exact ⟨b, h1, h2⟩)
                have hrl : row.length ≤ 40 := by rw [hrow]; exact Nat.le_trans (rowTo_len _ _ _) hf40
                obtain ⟨ra, rn, rc, rfl, hrn, -⟩ := hr13.shape
                subst hrn
                have HR13 := Lib.hid hr13
                have hbk3 := hbk.trans (Below.mono hb13 hbk.size)
                clear hr13 hb13 hrow
                go_wp2
                go_loopw [17, 123] (fun _ s123 wl => ∃ j : Nat, j ≤ row.length ∧ s123 = .int .i64 j ∧ Below w13.heap.size w13 wl) (fun _ s123 _ => row.length - (intOf s123).toNat)
                case atStart => exact ⟨0, Nat.zero_le _, rfl, Below.refl _ _⟩
                case round =>
                  obtain ⟨wj, hwj⟩ : ∃ y : World, y = wr := ⟨_, rfl⟩
                  subst hwj
                  obtain ⟨j, hj, rfl, hbj⟩ := hrel
                  have hbLj := hbk3.trans (Below.mono hbj hbk3.size)
                  by_cases hjl : j < row.length
                  · have hjI : (j : Int) < (row.length : Int) := by omega
                    obtain ⟨bx, ofx, p, rfl, hp, x0, -⟩ := (HR13.out.below hbj).int_at hjl
                    obtain ⟨b, hrb, rfl⟩ := HRW.out p (List.mem_of_getElem? hp.out)
                    obtain ⟨hbl, x, y, hx, hy, hx0, hxc, hty⟩ := class_kin HFF.out.1 HCL.out HAV.out HXN.out he12 HKT.out hkl hrb
                    rw [← HT.out] at hty
                    obtain ⟨xv, rfl⟩ := Int.eq_ofNat_of_zero_le hx0
                    rw [Int.toNat_natCast] at hty
                    have hxvT : xv < T.length := by rw [HTL.out]; omega
                    have hbX : b < X.length := by rw [HXN.out]; exact hbl
                    have hkX : k < X.length := by rw [HXN.out]; exact hkl
                    obtain ⟨bX, oX, ya', rfl, hya, yc1, -⟩ := (HXX.out.below hbLj).int_at hkX
                    obtain rfl := Option.some.inj (hya.out.symm.trans hx)
                    obtain ⟨_, _, yb', e5, hyb, yc2, -⟩ := (HXX.out.below hbLj).int_at hbX
                    simp only [Option.some.injEq, Addr.mk.injEq, and_true] at e5
                    obtain ⟨rfl, rfl⟩ := e5
                    obtain rfl := Option.some.inj (hyb.out.symm.trans hy)
                    obtain ⟨bT, oT, yt', rfl, hyt, yc3, -⟩ := (HPP.out.below hbLj).int_at hxvT
                    obtain rfl := Option.some.inj (hyt.out.symm.trans hty)
                    have hb0 : ¬ (b : Int) < 0 := by omega
                    have hbX1 : ¬ (X.length : Int) ≤ (b : Int) := by omega
                    have hbX2 : (b : Int) < (X.length : Int) := by omega
                    have hkX2 : (k : Int) < (X.length : Int) := by omega
                    have hxvI : (xv : Int) < (T.length : Int) := by omega
                    clear hp hx hy hya hyb hyt hty hrb hxc
                    go_upto_region 28 with fail
                    refine wp_region_held_drew (S := (fun w' => w'.cell? ⟨bX, oX + b, none⟩ = some (.int .i64 yt') ∧ w'.cell? ⟨bX, oX + k, none⟩ = some (.int .i64 xv) ∧ w'.cell? ⟨bT, oT + xv, none⟩ = some (.int .i64 yt'))) (by kernel_rfl) ?_ (fun hHeld => ?_)
                    · first | exact trivial | ((try dsimp only); go_keep)
                    refine tkR 0 (v := ?_) ?_ ?_
                    rotate_left
                    · intro w hSw; (try dsimp only at hSw); go_simp <;> with_reducible rfl
                    try simp only [Act.put, List.setIfInBounds_toArray, List.set_cons_zero, List.set_cons_succ]
                    refine tkR 1 (v := ?_) ?_ ?_
                    rotate_left
                    · intro w hSw; (try dsimp only at hSw); go_simp <;> with_reducible rfl
                    try simp only [Act.put, List.setIfInBounds_toArray, List.set_cons_zero, List.set_cons_succ]
                    refine tkR 2 (v := ?_) ?_ ?_
                    rotate_left
                    · intro w hSw; (try dsimp only at hSw); go_simp <;> with_reducible rfl
                    try simp only [Act.put, List.setIfInBounds_toArray, List.set_cons_zero, List.set_cons_succ]
                    refine tkR 3 (v := ?_) ?_ ?_
                    rotate_left
                    · intro w hSw; (try dsimp only at hSw); go_simp <;> with_reducible rfl
                    try simp only [Act.put, List.setIfInBounds_toArray, List.set_cons_zero, List.set_cons_succ]
                    refine tkR 4 (v := ?_) ?_ ?_
                    rotate_left
                    · intro w hSw; (try dsimp only at hSw); go_simp <;> with_reducible rfl
                    try simp only [Act.put, List.setIfInBounds_toArray, List.set_cons_zero, List.set_cons_succ]
                    refine tkR 5 (v := ?_) ?_ ?_
                    rotate_left
                    · intro w hSw; (try dsimp only at hSw); go_simp <;> with_reducible rfl
                    try simp only [Act.put, List.setIfInBounds_toArray, List.set_cons_zero, List.set_cons_succ]
                    refine tkR 6 (v := ?_) ?_ ?_
                    rotate_left
                    · intro w hSw; (try dsimp only at hSw); go_simp <;> with_reducible rfl
                    try simp only [Act.put, List.setIfInBounds_toArray, List.set_cons_zero, List.set_cons_succ]
                    refine tkR 7 (v := ?_) ?_ ?_
                    rotate_left
                    · intro w hSw; (try dsimp only at hSw); go_simp <;> with_reducible rfl
                    try simp only [Act.put, List.setIfInBounds_toArray, List.set_cons_zero, List.set_cons_succ]
                    refine tkR 8 (v := ?_) ?_ ?_
                    rotate_left
                    · intro w hSw; (try dsimp only at hSw); go_simp <;> with_reducible rfl
                    try simp only [Act.put, List.setIfInBounds_toArray, List.set_cons_zero, List.set_cons_succ]
                    refine tkR 9 (v := ?_) ?_ ?_
                    rotate_left
                    · intro w hSw; (try dsimp only at hSw); go_simp <;> with_reducible rfl
                    try simp only [Act.put, List.setIfInBounds_toArray, List.set_cons_zero, List.set_cons_succ]
                    refine tkR 10 (v := ?_) ?_ ?_
                    rotate_left
                    · intro w hSw; (try dsimp only at hSw); go_simp <;> with_reducible rfl
                    try simp only [Act.put, List.setIfInBounds_toArray, List.set_cons_zero, List.set_cons_succ]
                    refine tkR 13 (v := ?_) ?_ ?_
                    rotate_left
                    · intro w hSw; (try dsimp only at hSw); go_simp <;> with_reducible rfl
                    try simp only [Act.put, List.setIfInBounds_toArray, List.set_cons_zero, List.set_cons_succ]
                    refine tkR 14 (v := ?_) ?_ ?_
                    rotate_left
                    · intro w hSw; (try dsimp only at hSw); go_simp <;> with_reducible rfl
                    try simp only [Act.put, List.setIfInBounds_toArray, List.set_cons_zero, List.set_cons_succ]
                    refine tkR 15 (v := ?_) ?_ ?_
                    rotate_left
                    · intro w hSw; (try dsimp only at hSw); go_simp <;> with_reducible rfl
                    try simp only [Act.put, List.setIfInBounds_toArray, List.set_cons_zero, List.set_cons_succ]
                    refine tkR 11 (v := ?_) ?_ ?_
                    rotate_left
                    · intro w hSw; (try dsimp only at hSw); go_simp <;> with_reducible rfl
                    try simp only [Act.put, List.setIfInBounds_toArray, List.set_cons_zero, List.set_cons_succ]
                    refine tkR 16 (v := ?_) ?_ ?_
                    rotate_left
                    · intro w hSw; (try dsimp only at hSw); go_simp <;> with_reducible rfl
                    try simp only [Act.put, List.setIfInBounds_toArray, List.set_cons_zero, List.set_cons_succ]
                    refine tkR 12 (v := ?_) ?_ ?_
                    rotate_left
                    · intro w hSw; (try dsimp only at hSw); go_simp <;> with_reducible rfl
                    try simp only [Act.put, List.setIfInBounds_toArray, List.set_cons_zero, List.set_cons_succ]
                    refine tkR 17 (v := ?_) ?_ ?_
                    rotate_left
                    · intro w hSw; (try dsimp only at hSw); go_simp <;> with_reducible rfl
                    try simp only [Act.put, List.setIfInBounds_toArray, List.set_cons_zero, List.set_cons_succ]
                    refine tkR 18 (v := ?_) ?_ ?_
                    rotate_left
                    · intro w hSw; (try dsimp only at hSw); go_simp <;> with_reducible rfl
                    try simp only [Act.put, List.setIfInBounds_toArray, List.set_cons_zero, List.set_cons_succ]
                    refine tkR 19 (v := ?_) ?_ ?_
                    rotate_left
                    · intro w hSw; (try dsimp only at hSw); go_simp <;> with_reducible rfl
                    try simp only [Act.put, List.setIfInBounds_toArray, List.set_cons_zero, List.set_cons_succ]
                    refine tkR 20 (v := ?_) ?_ ?_
                    rotate_left
                    · intro w hSw; (try dsimp only at hSw); go_simp <;> with_reducible rfl
                    try simp only [Act.put, List.setIfInBounds_toArray, List.set_cons_zero, List.set_cons_succ]
                    refine tkR 21 (v := ?_) ?_ ?_
                    rotate_left
                    · intro w hSw; (try dsimp only at hSw); go_simp <;> with_reducible rfl
                    try simp only [Act.put, List.setIfInBounds_toArray, List.set_cons_zero, List.set_cons_succ]
                    refine wpAnyH_done (by kernel_rfl) ?_ _
                    go_wp2
                    go_roundw
                    case rel => exact ⟨j + 1, by omega, by go_num, bwT⟩
                    case measure => simp [intOf]; omega
                  · obtain rfl : j = row.length := by omega
                    have hjI : ¬ (row.length : Int) < (row.length : Int) := by omega
                    go_wp2
                    go_roundw
                    case rel => exact ⟨k + 1, by omega, by go_num, hbLj⟩
                    case measure => simp [intOf]; omega
              · obtain rfl : k = f.1.length := by omega
                have hkI : ¬ (f.1.length : Int) < (f.1.length : Int) := by omega
                go_wp2
                go_ret
                exact ⟨rfl, hBk⟩
          exact AllReadyH.nil
        exact AllReadyH.nil
      exact AllReadyH.nil
end Go.Proofs.Ytefbbbhidnnchaa
