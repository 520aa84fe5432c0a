/- The walk of the law FnReduced. Written by wfred_gen.py. -/
import Derived.Test.YtoipdgoejichbaaNfuM
import Derived.Test.YtoipdgoejichbaaRdlS
import Derived.Test.YtoipdgoejichbaaTrW
import Derived.Test.YtoipdgoejichbaaDrwR2
import Derived.Test.YtoipdgoejichbaaBytes
namespace Go.Proofs.Ytoipdgoejichbaa
set_option linter.unusedVariables false
set_option linter.unusedSimpArgs false
open Go.RowKit

theorem Rd.up {α : Type} [Rep α] {z : Bool} {lo : Nat} {w w' : World} {cs : List Value} {x : α} (h : Rd z lo w.heap.size w cs x) (hb : Below w.heap.size w w') : Rd z lo w'.heap.size w' cs x := (h.below hb).mono (Nat.le_refl _) hb.size
theorem len_max {α : Type} [Rep α] {z : Bool} {lo hi : Nat} {w : World} {v : Value} {xs : List α} (h : Rd z lo hi w [v] xs) : xs.length ≤ 9223372036854775807 := by
  obtain ⟨_, _, _, -, h1, h2, h3, -⟩ := h.shape
  unfold maxLen at h3
  omega
theorem ext_tail (a b : ByteArray) : (a ++ b).extract a.size (a.size + b.size) = b := by
  apply bL_inj
  have h : ∀ (a b : List UInt8), List.take b.length (List.drop a.length a) ++ List.take b.length b = b := fun a b => by simp
  have h2 := h a.data.toList b.data.toList
  simpa [bL, ByteArray.data_append] using h2
theorem nfo_yes {rs : List Rul} {t : Kin} (h : nfoV rs t = true) : ∃ o, nfoX rs t = some o ∧ nfoR rs t = ksrt o ∧ areRules rs = true ∧ isKin t = true ∧ nfB rs 500 502 0 [t] [] = some o := by
  unfold nfoV at h
  obtain ⟨o, ho⟩ := Option.isSome_iff_exists.1 h
  have h2 := ho
  unfold nfoX at h2
  split at h2
  · rename_i hr
    unfold redV at hr
    rw [Bool.and_eq_true] at hr
    exact ⟨o, ho, by unfold nfoR; rw [ho], hr.1, hr.2, h2⟩
  · cases h2
theorem nfoR_kin {rs : List Rul} {t x : Kin} (hx : x ∈ nfoR rs t) : isKin x = true := by
  unfold nfoR at hx
  cases h : nfoX rs t with
  | none => rw [h] at hx; cases hx
  | some o =>
    rw [h] at hx
    obtain ⟨h1, h2, h3⟩ := nfoX_some h
    exact ((nfB_mem h3 ((ksrt_perm o).mem_iff.1 hx)).1).kin h1 h2
theorem nfo_all {rs : List Rul} {t : Kin} (h : nfoV rs t = true) : nf rs t ∈ nfoR rs t ∧ ∀ u ∈ redL rs t, nfoV rs u = true ∧ 0 < (nfoR rs u).length ∧ ∀ x ∈ nfoR rs u, x ∈ nfoR rs t := by
  obtain ⟨o, h1, h2, h3, h4, h5⟩ := nfo_yes h
  have hrs := (areRules_facts h3).2.1
  rw [h2]
  refine ⟨(ksrt_perm o).mem_iff.2 (nf_forms hrs h4 h5), fun u hu => ?_⟩
  obtain ⟨L, g1, g2, g3⟩ := red_forms hrs h4 h5 hu
  have hku := (red_keeps hrs h4 hu).2.2.2
  have hX : nfoX rs u = some L := by unfold nfoX redV; rw [h3, hku]; exact g1
  refine ⟨by unfold nfoV; rw [hX]; rfl, ?_, fun x hx => ?_⟩
  · unfold nfoR; rw [hX]; dsimp only; rw [ksrt_len]; exact g2
  · unfold nfoR at hx; rw [hX] at hx
    exact (ksrt_perm o).mem_iff.2 (g3 x ((ksrt_perm L).mem_iff.1 hx))
theorem mem_next {l : List Kin} {i : Nat} {x X : Kin} (h : l[i]? = some x) : decide (X ∈ l.take (i + 1)) = (decide (X ∈ l.take i) || decide (x = X)) := by
  rw [take_snoc h, ← Bool.decide_or]
  refine decide_eq_decide.2 ?_
  rw [List.mem_append, List.mem_singleton, eq_comm (a := x)]
set_option maxRecDepth 20000 in
set_option maxHeartbeats 40000000 in
theorem walk_FnReduced (w : World) (c0a : Value) (code : List UInt8) (h0 : Rd false 0 w.heap.size w [c0a] code) :
    Calls Try.prog 6 #[c0a] w (PostB w true) := by
  obtain ⟨ao0, len0, cap0, hcs0, hln0, hcn0, hcm0, -⟩ := h0.shape
  subst hcs0
  subst hln0
  unfold maxLen at hcm0
  have hle0 : code.length ≤ 9223372036854775807 := by omega
  clear hcm0 hcn0
  by_cases hg0 : 1048576 < code.length
  · go_enter Try.func6, Try.ntmps6
    go_wp2
    go_ret
    exact ⟨rfl, bwT⟩
  have hq1 : code.length ≤ 1048576 := by omega
  have HC := Lib.hid h0
  clear h0 hg0
  go_enter Try.func6, Try.ntmps6
  go_wp2_with fail
  refine (makeRules_any _ _ code HC.out hq1).mono ?_
  rintro e1 w1 ⟨rv, rs, rfl, hor, hgd, hb1⟩
  obtain ⟨rao, rn, rcap, rfl, hrn, -⟩ := hor.rd.shape
  have HAR := Lib.hid hgd.out.2.2
  have HRF := Lib.hid (areRules_facts hgd.out.2.2)
  have HR := Lib.hid hor.rd
  have hB : Below w.heap.size w w1 := hb1
  replace HC := Lib.hid (HC.out.up hb1)
  clear hor hgd hb1
  go_wp2_with fail
  refine (fresh_any _ _ code HC.out hq1 3 (by omega) (by omega)).mono ?_
  rintro e2 w2 ⟨fv, fs, rfl, hof, hfl, hb2⟩
  have HF := Lib.hid hof.rd
  replace HR := Lib.hid (HR.out.up hb2)
  replace hB := hB.trans (Below.mono hb2 hB.size)
  clear hof hb2 HC
  go_wp2_with fail
  refine (makeType8_any _ _ fs HF.out (by omega)).mono ?_
  rintro e3 w3 ⟨tb, ⟨te, tl⟩, rfl, hot, hkt, hb3⟩
  dsimp only at hot
  obtain ⟨-, -, htv⟩ := hot.rd.kin
  obtain ⟨ta, tn, tcap, rfl, htn, -⟩ := htv.shape
  dsimp only at htn
  subst htn
  have HT := Lib.hid hot.rd
  have HKT := Lib.hid hkt.out.1
  replace HR := Lib.hid (HR.out.up hb3)
  replace hB := hB.trans (Below.mono hb3 hB.size)
  clear hot hkt hb3 htv HF hfl
  obtain ⟨B, hBd⟩ : ∃ B, B = w3.heap.size := ⟨_, rfl⟩
  obtain ⟨WA, hWA⟩ : ∃ W : World, W = w3.alloc (.cells #[.int .i64 te, .slice ta tl.length tcap] 36) := ⟨_, rfl⟩
  have hbx : Below w3.heap.size w3 WA := by rw [hWA]; exact (Below.refl _ _).alloc (Nat.le_refl _) _
  have x0 : WA.cell? ⟨B, 0, none⟩ = some (.int .i64 te) := by rw [hWA, hBd]; simp [go_sem]
  have x1 : WA.cell? ⟨B, 1, none⟩ = some (.slice ta tl.length tcap) := by rw [hWA, hBd]; simp [go_sem]
  have lB : B < WA.heap.size := by rw [hWA, hBd]; simp
  replace HR := Lib.hid (HR.out.up hbx)
  replace HT := Lib.hid (HT.out.up hbx)
  replace hB := hB.trans (Below.mono hbx hB.size)
  clear hbx
  go_upto_region 5 with fail
  rw [← hWA, ← hBd]
  clear hWA hBd
  obtain ⟨X, hX⟩ : ∃ X, X = nf rs (te, tl) := ⟨_, rfl⟩
  have HX := Lib.hid hX
  have HXR := Lib.hid (show Rch rs (te, tl) X by rw [hX]; exact nf_rch HRF.out.2.1 _ (Nat.le_refl _) HKT.out)
  have HXE := Lib.hid (show redL rs X = [] by rw [hX]; exact nf_end HRF.out.2.1 HKT.out)
  have HXK := Lib.hid (rch_keeps HRF.out.2.1 HXR.out HKT.out)
  clear hX
  go_wp2_with fail
  refine (normalFormI_k _ _ _ _ rs (te, tl) HR.out HT.out HAR.out HKT.out).mono ?_
  rw [← HX.out]
  rintro e5 w5 ⟨na, nb, rfl, ho5, hb5⟩
  obtain ⟨rfl, -, hnv⟩ := ho5.rd.kin
  obtain ⟨nao, nn, ncap, rfl, hnn, -⟩ := hnv.shape
  subst hnn
  have HN := Lib.hid ho5.rd
  replace HR := Lib.hid (HR.out.up hb5)
  replace HT := Lib.hid (HT.out.up hb5)
  replace x0 := oldc hb5 lB x0
  replace x1 := oldc hb5 lB x1
  replace lB := Nat.lt_of_lt_of_le lB hb5.size
  replace hB := hB.trans (Below.mono hb5 hB.size)
  clear hb5 ho5 hnv
  obtain ⟨C, hCd⟩ : ∃ C, C = w5.heap.size := ⟨_, rfl⟩
  obtain ⟨WB, hWB⟩ : ∃ W : World, W = w5.alloc (.cells #[.int .i64 X.1, .slice nao X.2.length ncap] 36) := ⟨_, rfl⟩
  have hbx : Below w5.heap.size w5 WB := by rw [hWB]; exact (Below.refl _ _).alloc (Nat.le_refl _) _
  have y0 : WB.cell? ⟨C, 0, none⟩ = some (.int .i64 X.1) := by rw [hWB, hCd]; simp [go_sem]
  have y1 : WB.cell? ⟨C, 1, none⟩ = some (.slice nao X.2.length ncap) := by rw [hWB, hCd]; simp [go_sem]
  have lC : C < WB.heap.size := by rw [hWB, hCd]; simp
  replace HR := Lib.hid (HR.out.up hbx)
  replace HT := Lib.hid (HT.out.up hbx)
  replace HN := Lib.hid (HN.out.up hbx)
  replace x0 := oldc hbx lB x0
  replace x1 := oldc hbx lB x1
  replace lB := Nat.lt_of_lt_of_le lB hbx.size
  replace hB := hB.trans (Below.mono hbx hB.size)
  clear hbx
  go_upto_region 6 with fail
  rw [← hWB, ← hCd]
  clear hWB hCd
  obtain ⟨TR, hTR⟩ : ∃ TR, TR = traceX rs (te, tl) := ⟨_, rfl⟩
  have HTF := Lib.hid (show TR[0]? = some (kinTxt (te, tl)) by rw [hTR]; exact trace_first HAR.out HKT.out)
  have HTL := Lib.hid (show ∃ pre : ByteArray, TR.getLast? = some (pre ++ kinTxt X) by rw [hTR, HX.out]; exact trace_last HAR.out HKT.out)
  go_wp2_with fail
  refine (traceI_any _ _ _ _ rs (te, tl) HR.out HT.out).mono ?_
  rw [← hTR]
  rintro e6 w6 ⟨trv, rfl, ho6, hb6⟩
  obtain ⟨tra, trn, trc, rfl, htrn, -⟩ := ho6.rd.shape
  subst htrn
  have HTR := Lib.hid ho6.rd
  replace HR := Lib.hid (HR.out.up hb6)
  replace HT := Lib.hid (HT.out.up hb6)
  replace HN := Lib.hid (HN.out.up hb6)
  replace x0 := oldc hb6 lB x0
  replace x1 := oldc hb6 lB x1
  replace y0 := oldc hb6 lC y0
  replace y1 := oldc hb6 lC y1
  replace lB := Nat.lt_of_lt_of_le lB hb6.size
  replace lC := Nat.lt_of_lt_of_le lC hb6.size
  replace hB := hB.trans (Below.mono hb6 hB.size)
  clear hb6 ho6 hTR
  have hTp : 0 < TR.length := (List.getElem?_eq_some_iff.1 HTF.out).1
  have hTq : TR.length ≤ 9223372036854775807 := len_max HTR.out
  obtain ⟨m, hm⟩ : ∃ m, TR.length = m + 1 := ⟨TR.length - 1, by omega⟩
  obtain ⟨tbk, tof, s0, rfl, hs0, tc0, hs0s, -, ltb, -⟩ := HTR.out.str_at hTp
  obtain ⟨_, _, s1, e, hs1, tc1, hs1s, -⟩ := HTR.out.str_at (show m < TR.length by omega)
  simp only [Option.some.injEq, Addr.mk.injEq, and_true] at e
  obtain ⟨rfl, rfl⟩ := e
  rw [Nat.add_zero] at tc0
  obtain rfl : s0 = kinTxt (te, tl) := by have := hs0.out; rw [HTF.out] at this; exact (Option.some.inj this).symm
  have HS1 := Lib.hid (show ∃ pre : ByteArray, s1 = pre ++ kinTxt X by
    obtain ⟨pre, h⟩ := HTL.out
    refine ⟨pre, ?_⟩
    have h1 := hs1.out
    rw [List.getLast?_eq_getElem?, hm, Nat.add_sub_cancel, h1] at h
    exact Option.some.inj h)
  have ltbk : tbk < w6.heap.size := by omega
  clear hs0 hs1 HTF HTL ltb
  have hm1 : IntKind.i64.wrap ((TR.length : Int) - 1) = (m : Int) := by rw [hm]; rw [IntWalk.i64_in _ (by omega)]; omega
  have hmI : (m : Int) < (TR.length : Int) := by omega
  have hTI : ¬ (TR.length : Int) = 0 := by omega
  have hT0 : (0 : Int) < (TR.length : Int) := by omega
  have hTb : ((TR.length : Int) == 0) = false := by rw [beq_eq_false_iff_ne]; omega
  have hXl : X.2.length ≤ tl.length := HXK.out.2.2.1
  have hXl2 : ¬ tl.length < X.2.length := by omega
  have hXl3 : ¬ (tl.length : Int) < (X.2.length : Int) := by omega
  clear hm
  obtain ⟨EG, hEG⟩ : ∃ E, E = egoOf (te, tl) := ⟨_, rfl⟩
  have HE1 := Lib.hid hEG
  have HE2 := Lib.hid (show EG = egoOf X by rw [hEG]; exact HXK.out.2.1.symm)
  obtain ⟨SX, hSX⟩ : ∃ E, E = sexOf (te, tl) := ⟨_, rfl⟩
  have HS2 := Lib.hid (show SX = sexOf X by rw [hSX]; exact HXK.out.1.symm)
  have HS3 := Lib.hid hSX
  obtain ⟨K0, hK0⟩ : ∃ K, K = kinTxt (te, tl) := ⟨_, rfl⟩
  rw [← hK0] at tc0 hs0s
  have HK0 := Lib.hid hK0
  obtain ⟨KX, hKX⟩ : ∃ K, K = kinTxt X := ⟨_, rfl⟩
  have HKX := Lib.hid hKX
  rw [← hKX] at HS1
  clear hEG hSX hK0 hKX
  go_upto_region 7 with fail
  refine wp_region_held_drew (S := (fun w' => w'.cell? ⟨B, 0, none⟩ = some (.int .i64 te) ∧ w'.cell? ⟨B, 1, none⟩ = some (.slice ta tl.length tcap) ∧ w'.cell? ⟨C, 0, none⟩ = some (.int .i64 X.1) ∧ w'.cell? ⟨C, 1, none⟩ = some (.slice nao X.2.length ncap) ∧ w'.cell? ⟨tbk, tof, none⟩ = some (.string K0))) (by kernel_rfl) ?_ (fun hHeld => ?_)
  · first | exact trivial | ((try dsimp only); go_keep)
  refine tkR 0 (v := ?_) ?_ ?_
  rotate_left
  · intro w hSw; (try dsimp only at hSw); go_simp <;> with_reducible rfl
  try simp only [Act.put, List.setIfInBounds_toArray, List.set_cons_zero, List.set_cons_succ]
  refine wpAnyH_ready (rs := [1]) (by kernel_rfl) (by simp) ?_
  refine rdR (fun K hK => ?_) ?_
  · go_simp
    refine (isTypeS_b _ _ _ X (HN.out.up ?b0) true HXK.out.2.2.2.symm).mono ?_
    case b0 => exact bwT
    rintro e v1 ⟨rfl, hb1⟩
    have hp1 : Below w6.heap.size w6 v1 := Below.trans (show Below w6.heap.size w6 _ from bwT) (hb1.mono szT)
    replace HR := Lib.hid (HR.out.up hp1)
    replace HT := Lib.hid (HT.out.up hp1)
    replace HN := Lib.hid (HN.out.up hp1)
    replace HTR := Lib.hid (HTR.out.up hp1)
    replace x0 := oldc hp1 lB x0
    replace x1 := oldc hp1 lB x1
    replace y0 := oldc hp1 lC y0
    replace y1 := oldc hp1 lC y1
    replace tc0 := oldc hp1 ltbk tc0
    replace tc1 := oldc hp1 ltbk tc1
    replace lB := Nat.lt_of_lt_of_le lB hp1.size
    replace lC := Nat.lt_of_lt_of_le lC hp1.size
    replace ltbk := Nat.lt_of_lt_of_le ltbk hp1.size
    replace hB := hB.trans (Below.mono hp1 hB.size)
    clear hp1 hb1
    have hS1 : v1.cell? ⟨B, 0, none⟩ = some (.int .i64 te) ∧ v1.cell? ⟨B, 1, none⟩ = some (.slice ta tl.length tcap) ∧ v1.cell? ⟨C, 0, none⟩ = some (.int .i64 X.1) ∧ v1.cell? ⟨C, 1, none⟩ = some (.slice nao X.2.length ncap) ∧ v1.cell? ⟨tbk, tof, none⟩ = some (.string K0) := ⟨x0, x1, y0, y1, tc0⟩
    refine hK.out _ _ ?_ (fun hHeld => ?_)
    · exact kpT
    clear hK K
    try simp only [Act.put, List.setIfInBounds_toArray, List.set_cons_zero, List.set_cons_succ]
    refine tkR 2 (v := ?_) ?_ ?_
    rotate_left
    · intro w hSw; (try dsimp only at hSw); go_simp <;> with_reducible rfl
    try simp only [Act.put, List.setIfInBounds_toArray, List.set_cons_zero, List.set_cons_succ]
    refine tkR 3 (v := ?_) ?_ ?_
    rotate_left
    · intro w hSw; (try dsimp only at hSw); go_simp <;> with_reducible rfl
    try simp only [Act.put, List.setIfInBounds_toArray, List.set_cons_zero, List.set_cons_succ]
    refine tkR 4 (v := ?_) ?_ ?_
    rotate_left
    · intro w hSw; (try dsimp only at hSw); go_simp <;> with_reducible rfl
    try simp only [Act.put, List.setIfInBounds_toArray, List.set_cons_zero, List.set_cons_succ]
    refine tkR 5 (v := ?_) ?_ ?_
    rotate_left
    · intro w hSw; (try dsimp only at hSw); go_simp <;> with_reducible rfl
    try simp only [Act.put, List.setIfInBounds_toArray, List.set_cons_zero, List.set_cons_succ]
    refine wpAnyH_ready (rs := [6]) (by kernel_rfl) (by simp) ?_
    refine rdR (fun K hK => ?_) ?_
    · go_simp
      refine (reductsOfI_any _ _ _ _ rs X (HR.out.up ?b0) (HN.out.up ?b0)).mono ?_
      case b0 => exact bwT
      rw [show redX rs X = [] by unfold redX redV; rw [HAR.out, HXK.out.2.2.2, HXE.out]; rfl]
      rintro e v6 ⟨ru, rfl, hor, hb6⟩
      obtain ⟨rra, rrn, rrc, rfl, hrrn, -⟩ := hor.rd.shape
      obtain rfl : rrn = 0 := hrrn.symm
      clear hor
      have hp6 : Below v1.heap.size v1 v6 := Below.trans (show Below v1.heap.size v1 _ from bwT) (hb6.mono szT)
      replace HR := Lib.hid (HR.out.up hp6)
      replace HT := Lib.hid (HT.out.up hp6)
      replace HN := Lib.hid (HN.out.up hp6)
      replace HTR := Lib.hid (HTR.out.up hp6)
      replace x0 := oldc hp6 lB x0
      replace x1 := oldc hp6 lB x1
      replace y0 := oldc hp6 lC y0
      replace y1 := oldc hp6 lC y1
      replace tc0 := oldc hp6 ltbk tc0
      replace tc1 := oldc hp6 ltbk tc1
      replace lB := Nat.lt_of_lt_of_le lB hp6.size
      replace lC := Nat.lt_of_lt_of_le lC hp6.size
      replace ltbk := Nat.lt_of_lt_of_le ltbk hp6.size
      replace hB := hB.trans (Below.mono hp6 hB.size)
      clear hp6 hb6
      have hS6 : v6.cell? ⟨B, 0, none⟩ = some (.int .i64 te) ∧ v6.cell? ⟨B, 1, none⟩ = some (.slice ta tl.length tcap) ∧ v6.cell? ⟨C, 0, none⟩ = some (.int .i64 X.1) ∧ v6.cell? ⟨C, 1, none⟩ = some (.slice nao X.2.length ncap) ∧ v6.cell? ⟨tbk, tof, none⟩ = some (.string K0) := ⟨x0, x1, y0, y1, tc0⟩
      refine hK.out _ _ ?_ (fun hHeld => ?_)
      · exact kpT
      clear hK K
      try simp only [Act.put, List.setIfInBounds_toArray, List.set_cons_zero, List.set_cons_succ]
      refine tkR 7 (v := ?_) ?_ ?_
      rotate_left
      · intro w hSw; (try dsimp only at hSw); go_simp <;> with_reducible rfl
      try simp only [Act.put, List.setIfInBounds_toArray, List.set_cons_zero, List.set_cons_succ]
      refine tkR 8 (v := ?_) ?_ ?_
      rotate_left
      · intro w hSw; (try dsimp only at hSw); go_simp <;> with_reducible rfl
      try simp only [Act.put, List.setIfInBounds_toArray, List.set_cons_zero, List.set_cons_succ]
      refine tkR 9 (v := ?_) ?_ ?_
      rotate_left
      · intro w hSw; (try dsimp only at hSw); go_simp <;> with_reducible rfl
      try simp only [Act.put, List.setIfInBounds_toArray, List.set_cons_zero, List.set_cons_succ]
      refine tkR 10 (v := ?_) ?_ ?_
      rotate_left
      · intro w hSw; (try dsimp only at hSw); go_simp <;> with_reducible rfl
      try simp only [Act.put, List.setIfInBounds_toArray, List.set_cons_zero, List.set_cons_succ]
      refine tkR 11 (v := ?_) ?_ ?_
      rotate_left
      · intro w hSw; (try dsimp only at hSw); go_simp <;> with_reducible rfl
      try simp only [Act.put, List.setIfInBounds_toArray, List.set_cons_zero, List.set_cons_succ]
      refine tkR 14 (v := ?_) ?_ ?_
      rotate_left
      · intro w hSw; (try dsimp only at hSw); go_simp <;> with_reducible rfl
      try simp only [Act.put, List.setIfInBounds_toArray, List.set_cons_zero, List.set_cons_succ]
      refine tkR 12 (v := ?_) ?_ ?_
      rotate_left
      · intro w hSw; (try dsimp only at hSw); go_simp <;> with_reducible rfl
      try simp only [Act.put, List.setIfInBounds_toArray, List.set_cons_zero, List.set_cons_succ]
      refine tkR 15 (v := ?_) ?_ ?_
      rotate_left
      · intro w hSw; (try dsimp only at hSw); go_simp <;> with_reducible rfl
      try simp only [Act.put, List.setIfInBounds_toArray, List.set_cons_zero, List.set_cons_succ]
      refine tkR 13 (v := ?_) ?_ ?_
      rotate_left
      · intro w hSw; (try dsimp only at hSw); go_simp <;> with_reducible rfl
      try simp only [Act.put, List.setIfInBounds_toArray, List.set_cons_zero, List.set_cons_succ]
      refine tkR 16 (v := ?_) ?_ ?_
      rotate_left
      · intro w hSw; (try dsimp only at hSw); go_simp <;> with_reducible rfl
      try simp only [Act.put, List.setIfInBounds_toArray, List.set_cons_zero, List.set_cons_succ]
      refine tkR 17 (v := ?_) ?_ ?_
      rotate_left
      · intro w hSw; (try dsimp only at hSw); go_simp <;> with_reducible rfl
      try simp only [Act.put, List.setIfInBounds_toArray, List.set_cons_zero, List.set_cons_succ]
      refine tkR 18 (v := ?_) ?_ ?_
      rotate_left
      · intro w hSw; (try dsimp only at hSw); go_simp <;> with_reducible rfl
      try simp only [Act.put, List.setIfInBounds_toArray, List.set_cons_zero, List.set_cons_succ]
      refine tkR 19 (v := ?_) ?_ ?_
      rotate_left
      · intro w hSw; (try dsimp only at hSw); go_simp <;> with_reducible rfl
      try simp only [Act.put, List.setIfInBounds_toArray, List.set_cons_zero, List.set_cons_succ]
      refine tkR 20 (v := ?_) ?_ ?_
      rotate_left
      · intro w hSw; (try dsimp only at hSw); go_simp <;> with_reducible rfl
      try simp only [Act.put, List.setIfInBounds_toArray, List.set_cons_zero, List.set_cons_succ]
      refine tkR 22 (v := ?_) ?_ ?_
      rotate_left
      · intro w hSw; (try dsimp only at hSw); go_simp <;> with_reducible rfl
      try simp only [Act.put, List.setIfInBounds_toArray, List.set_cons_zero, List.set_cons_succ]
      refine wpAnyH_ready (rs := [21]) (by kernel_rfl) (by simp) ?_
      refine rdR (fun K hK => ?_) ?_
      · go_simp
        refine (egoOfS8 _ _ _ X (HN.out.up ?b0) HXK.out.2.2.2 EG HE2.out).mono ?_
        case b0 => exact bwT
        rintro e v21 ⟨rfl, hb21⟩
        have hp21 : Below v6.heap.size v6 v21 := Below.trans (show Below v6.heap.size v6 _ from bwT) (hb21.mono szT)
        replace HR := Lib.hid (HR.out.up hp21)
        replace HT := Lib.hid (HT.out.up hp21)
        replace HN := Lib.hid (HN.out.up hp21)
        replace HTR := Lib.hid (HTR.out.up hp21)
        replace x0 := oldc hp21 lB x0
        replace x1 := oldc hp21 lB x1
        replace y0 := oldc hp21 lC y0
        replace y1 := oldc hp21 lC y1
        replace tc0 := oldc hp21 ltbk tc0
        replace tc1 := oldc hp21 ltbk tc1
        replace lB := Nat.lt_of_lt_of_le lB hp21.size
        replace lC := Nat.lt_of_lt_of_le lC hp21.size
        replace ltbk := Nat.lt_of_lt_of_le ltbk hp21.size
        replace hB := hB.trans (Below.mono hp21 hB.size)
        clear hp21 hb21
        have hS21 : v21.cell? ⟨B, 0, none⟩ = some (.int .i64 te) ∧ v21.cell? ⟨B, 1, none⟩ = some (.slice ta tl.length tcap) ∧ v21.cell? ⟨C, 0, none⟩ = some (.int .i64 X.1) ∧ v21.cell? ⟨C, 1, none⟩ = some (.slice nao X.2.length ncap) ∧ v21.cell? ⟨tbk, tof, none⟩ = some (.string K0) := ⟨x0, x1, y0, y1, tc0⟩
        refine hK.out _ _ ?_ (fun hHeld => ?_)
        · exact kpT
        clear hK K
        try simp only [Act.put, List.setIfInBounds_toArray, List.set_cons_zero, List.set_cons_succ]
        refine wpAnyH_ready (rs := [23]) (by kernel_rfl) (by simp) ?_
        refine rdR (fun K hK => ?_) ?_
        · go_simp
          refine (egoOfS8 _ _ _ (te, tl) (HT.out.up ?b0) HKT.out EG HE1.out).mono ?_
          case b0 => exact bwT
          rintro e v23 ⟨rfl, hb23⟩
          have hp23 : Below v21.heap.size v21 v23 := Below.trans (show Below v21.heap.size v21 _ from bwT) (hb23.mono szT)
          replace HR := Lib.hid (HR.out.up hp23)
          replace HT := Lib.hid (HT.out.up hp23)
          replace HN := Lib.hid (HN.out.up hp23)
          replace HTR := Lib.hid (HTR.out.up hp23)
          replace x0 := oldc hp23 lB x0
          replace x1 := oldc hp23 lB x1
          replace y0 := oldc hp23 lC y0
          replace y1 := oldc hp23 lC y1
          replace tc0 := oldc hp23 ltbk tc0
          replace tc1 := oldc hp23 ltbk tc1
          replace lB := Nat.lt_of_lt_of_le lB hp23.size
          replace lC := Nat.lt_of_lt_of_le lC hp23.size
          replace ltbk := Nat.lt_of_lt_of_le ltbk hp23.size
          replace hB := hB.trans (Below.mono hp23 hB.size)
          clear hp23 hb23
          have hS23 : v23.cell? ⟨B, 0, none⟩ = some (.int .i64 te) ∧ v23.cell? ⟨B, 1, none⟩ = some (.slice ta tl.length tcap) ∧ v23.cell? ⟨C, 0, none⟩ = some (.int .i64 X.1) ∧ v23.cell? ⟨C, 1, none⟩ = some (.slice nao X.2.length ncap) ∧ v23.cell? ⟨tbk, tof, none⟩ = some (.string K0) := ⟨x0, x1, y0, y1, tc0⟩
          refine hK.out _ _ ?_ (fun hHeld => ?_)
          · exact kpT
          clear hK K
          try simp only [Act.put, List.setIfInBounds_toArray, List.set_cons_zero, List.set_cons_succ]
          refine tkR 24 (v := ?_) ?_ ?_
          rotate_left
          · intro w hSw; (try dsimp only at hSw); go_simp <;> with_reducible rfl
          try simp only [Act.put, List.setIfInBounds_toArray, List.set_cons_zero, List.set_cons_succ]
          refine tkR 25 (v := ?_) ?_ ?_
          rotate_left
          · intro w hSw; (try dsimp only at hSw); go_simp <;> with_reducible rfl
          try simp only [Act.put, List.setIfInBounds_toArray, List.set_cons_zero, List.set_cons_succ]
          refine tkR 26 (v := ?_) ?_ ?_
          rotate_left
          · intro w hSw; (try dsimp only at hSw); go_simp <;> with_reducible rfl
          try simp only [Act.put, List.setIfInBounds_toArray, List.set_cons_zero, List.set_cons_succ]
          refine tkR 27 (v := ?_) ?_ ?_
          rotate_left
          · intro w hSw; (try dsimp only at hSw); go_simp <;> with_reducible rfl
          try simp only [Act.put, List.setIfInBounds_toArray, List.set_cons_zero, List.set_cons_succ]
          refine tkR 29 (v := ?_) ?_ ?_
          rotate_left
          · intro w hSw; (try dsimp only at hSw); go_simp <;> with_reducible rfl
          try simp only [Act.put, List.setIfInBounds_toArray, List.set_cons_zero, List.set_cons_succ]
          refine wpAnyH_ready (rs := [28]) (by kernel_rfl) (by simp) ?_
          refine rdR (fun K hK => ?_) ?_
          · go_simp
            refine (sexOfS8 _ _ _ X (HN.out.up ?b0) HXK.out.2.2.2 SX HS2.out).mono ?_
            case b0 => exact bwT
            rintro e v28 ⟨rfl, hb28⟩
            have hp28 : Below v23.heap.size v23 v28 := Below.trans (show Below v23.heap.size v23 _ from bwT) (hb28.mono szT)
            replace HR := Lib.hid (HR.out.up hp28)
            replace HT := Lib.hid (HT.out.up hp28)
            replace HN := Lib.hid (HN.out.up hp28)
            replace HTR := Lib.hid (HTR.out.up hp28)
            replace x0 := oldc hp28 lB x0
            replace x1 := oldc hp28 lB x1
            replace y0 := oldc hp28 lC y0
            replace y1 := oldc hp28 lC y1
            replace tc0 := oldc hp28 ltbk tc0
            replace tc1 := oldc hp28 ltbk tc1
            replace lB := Nat.lt_of_lt_of_le lB hp28.size
            replace lC := Nat.lt_of_lt_of_le lC hp28.size
            replace ltbk := Nat.lt_of_lt_of_le ltbk hp28.size
            replace hB := hB.trans (Below.mono hp28 hB.size)
            clear hp28 hb28
            have hS28 : v28.cell? ⟨B, 0, none⟩ = some (.int .i64 te) ∧ v28.cell? ⟨B, 1, none⟩ = some (.slice ta tl.length tcap) ∧ v28.cell? ⟨C, 0, none⟩ = some (.int .i64 X.1) ∧ v28.cell? ⟨C, 1, none⟩ = some (.slice nao X.2.length ncap) ∧ v28.cell? ⟨tbk, tof, none⟩ = some (.string K0) := ⟨x0, x1, y0, y1, tc0⟩
            refine hK.out _ _ ?_ (fun hHeld => ?_)
            · exact kpT
            clear hK K
            try simp only [Act.put, List.setIfInBounds_toArray, List.set_cons_zero, List.set_cons_succ]
            refine wpAnyH_ready (rs := [30]) (by kernel_rfl) (by simp) ?_
            refine rdR (fun K hK => ?_) ?_
            · go_simp
              refine (sexOfS8 _ _ _ (te, tl) (HT.out.up ?b0) HKT.out SX HS3.out).mono ?_
              case b0 => exact bwT
              rintro e v30 ⟨rfl, hb30⟩
              have hp30 : Below v28.heap.size v28 v30 := Below.trans (show Below v28.heap.size v28 _ from bwT) (hb30.mono szT)
              replace HR := Lib.hid (HR.out.up hp30)
              replace HT := Lib.hid (HT.out.up hp30)
              replace HN := Lib.hid (HN.out.up hp30)
              replace HTR := Lib.hid (HTR.out.up hp30)
              replace x0 := oldc hp30 lB x0
              replace x1 := oldc hp30 lB x1
              replace y0 := oldc hp30 lC y0
              replace y1 := oldc hp30 lC y1
              replace tc0 := oldc hp30 ltbk tc0
              replace tc1 := oldc hp30 ltbk tc1
              replace lB := Nat.lt_of_lt_of_le lB hp30.size
              replace lC := Nat.lt_of_lt_of_le lC hp30.size
              replace ltbk := Nat.lt_of_lt_of_le ltbk hp30.size
              replace hB := hB.trans (Below.mono hp30 hB.size)
              clear hp30 hb30
              have hS30 : v30.cell? ⟨B, 0, none⟩ = some (.int .i64 te) ∧ v30.cell? ⟨B, 1, none⟩ = some (.slice ta tl.length tcap) ∧ v30.cell? ⟨C, 0, none⟩ = some (.int .i64 X.1) ∧ v30.cell? ⟨C, 1, none⟩ = some (.slice nao X.2.length ncap) ∧ v30.cell? ⟨tbk, tof, none⟩ = some (.string K0) := ⟨x0, x1, y0, y1, tc0⟩
              refine hK.out _ _ ?_ (fun hHeld => ?_)
              · exact kpT
              clear hK K
              try simp only [Act.put, List.setIfInBounds_toArray, List.set_cons_zero, List.set_cons_succ]
              refine tkR 31 (v := ?_) ?_ ?_
              rotate_left
              · intro w hSw; (try dsimp only at hSw); go_simp <;> with_reducible rfl
              try simp only [Act.put, List.setIfInBounds_toArray, List.set_cons_zero, List.set_cons_succ]
              refine tkR 32 (v := ?_) ?_ ?_
              rotate_left
              · intro w hSw; (try dsimp only at hSw); go_simp <;> with_reducible rfl
              try simp only [Act.put, List.setIfInBounds_toArray, List.set_cons_zero, List.set_cons_succ]
              refine tkR 33 (v := ?_) ?_ ?_
              rotate_left
              · intro w hSw; (try dsimp only at hSw); go_simp <;> with_reducible rfl
              try simp only [Act.put, List.setIfInBounds_toArray, List.set_cons_zero, List.set_cons_succ]
              refine tkR 34 (v := ?_) ?_ ?_
              rotate_left
              · intro w hSw; (try dsimp only at hSw); go_simp <;> with_reducible rfl
              try simp only [Act.put, List.setIfInBounds_toArray, List.set_cons_zero, List.set_cons_succ]
              refine tkR 35 (v := ?_) ?_ ?_
              rotate_left
              · intro w hSw; (try dsimp only at hSw); go_simp <;> with_reducible rfl
              try simp only [Act.put, List.setIfInBounds_toArray, List.set_cons_zero, List.set_cons_succ]
              refine tkR 36 (v := ?_) ?_ ?_
              rotate_left
              · intro w hSw; (try dsimp only at hSw); go_simp <;> with_reducible rfl
              try simp only [Act.put, List.setIfInBounds_toArray, List.set_cons_zero, List.set_cons_succ]
              refine tkR 37 (v := ?_) ?_ ?_
              rotate_left
              · intro w hSw; (try dsimp only at hSw); go_simp <;> with_reducible rfl
              try simp only [Act.put, List.setIfInBounds_toArray, List.set_cons_zero, List.set_cons_succ]
              refine tkR 38 (v := ?_) ?_ ?_
              rotate_left
              · intro w hSw; (try dsimp only at hSw); go_simp <;> with_reducible rfl
              try simp only [Act.put, List.setIfInBounds_toArray, List.set_cons_zero, List.set_cons_succ]
              refine tkR 39 (v := ?_) ?_ ?_
              rotate_left
              · intro w hSw; (try dsimp only at hSw); go_simp <;> with_reducible rfl
              try simp only [Act.put, List.setIfInBounds_toArray, List.set_cons_zero, List.set_cons_succ]
              refine tkR 42 (v := ?_) ?_ ?_
              rotate_left
              · intro w hSw; (try dsimp only at hSw); go_simp <;> with_reducible rfl
              try simp only [Act.put, List.setIfInBounds_toArray, List.set_cons_zero, List.set_cons_succ]
              refine tkR 40 (v := ?_) ?_ ?_
              rotate_left
              · intro w hSw; (try dsimp only at hSw); go_simp <;> with_reducible rfl
              try simp only [Act.put, List.setIfInBounds_toArray, List.set_cons_zero, List.set_cons_succ]
              refine tkR 41 (v := ?_) ?_ ?_
              rotate_left
              · intro w hSw; (try dsimp only at hSw); go_simp <;> with_reducible rfl
              try simp only [Act.put, List.setIfInBounds_toArray, List.set_cons_zero, List.set_cons_succ]
              refine wpAnyH_ready (rs := [43]) (by kernel_rfl) (by simp) ?_
              refine rdR (fun K hK => ?_) ?_
              · go_simp
                refine (formatS_any _ _ _ (te, tl) (HT.out.up ?b0)).mono ?_
                case b0 => exact bwT
                rw [← HK0.out]
                rintro e v43 ⟨rfl, hb43⟩
                have hp43 : Below v30.heap.size v30 v43 := Below.trans (show Below v30.heap.size v30 _ from bwT) (hb43.mono szT)
                replace HR := Lib.hid (HR.out.up hp43)
                replace HT := Lib.hid (HT.out.up hp43)
                replace HN := Lib.hid (HN.out.up hp43)
                replace HTR := Lib.hid (HTR.out.up hp43)
                replace x0 := oldc hp43 lB x0
                replace x1 := oldc hp43 lB x1
                replace y0 := oldc hp43 lC y0
                replace y1 := oldc hp43 lC y1
                replace tc0 := oldc hp43 ltbk tc0
                replace tc1 := oldc hp43 ltbk tc1
                replace lB := Nat.lt_of_lt_of_le lB hp43.size
                replace lC := Nat.lt_of_lt_of_le lC hp43.size
                replace ltbk := Nat.lt_of_lt_of_le ltbk hp43.size
                replace hB := hB.trans (Below.mono hp43 hB.size)
                clear hp43 hb43
                have hS43 : v43.cell? ⟨B, 0, none⟩ = some (.int .i64 te) ∧ v43.cell? ⟨B, 1, none⟩ = some (.slice ta tl.length tcap) ∧ v43.cell? ⟨C, 0, none⟩ = some (.int .i64 X.1) ∧ v43.cell? ⟨C, 1, none⟩ = some (.slice nao X.2.length ncap) ∧ v43.cell? ⟨tbk, tof, none⟩ = some (.string K0) := ⟨x0, x1, y0, y1, tc0⟩
                refine hK.out _ _ ?_ (fun hHeld => ?_)
                · exact kpT
                clear hK K
                try simp only [Act.put, List.setIfInBounds_toArray, List.set_cons_zero, List.set_cons_succ]
                refine tkR 44 (v := ?_) ?_ ?_
                rotate_left
                · intro w hSw; (try dsimp only at hSw); go_simp <;> with_reducible rfl
                try simp only [Act.put, List.setIfInBounds_toArray, List.set_cons_zero, List.set_cons_succ]
                refine tkR 45 (v := ?_) ?_ ?_
                rotate_left
                · intro w hSw; (try dsimp only at hSw); go_simp <;> with_reducible rfl
                try simp only [Act.put, List.setIfInBounds_toArray, List.set_cons_zero, List.set_cons_succ]
                refine wpAnyH_done (by kernel_rfl) ?_ _
                clear hHeld
                go_wp2_with fail
                refine (formatS_any _ _ _ X (HN.out.up ?b0)).mono ?_
                case b0 => exact bwT
                rw [← HKX.out]
                rintro e w7 ⟨rfl, hb7⟩
                have hp7 : Below v43.heap.size v43 w7 := Below.trans (show Below v43.heap.size v43 _ from bwT) (hb7.mono szT)
                replace HR := Lib.hid (HR.out.up hp7)
                replace HT := Lib.hid (HT.out.up hp7)
                replace HN := Lib.hid (HN.out.up hp7)
                replace HTR := Lib.hid (HTR.out.up hp7)
                replace x0 := oldc hp7 lB x0
                replace x1 := oldc hp7 lB x1
                replace y0 := oldc hp7 lC y0
                replace y1 := oldc hp7 lC y1
                replace tc0 := oldc hp7 ltbk tc0
                replace tc1 := oldc hp7 ltbk tc1
                replace lB := Nat.lt_of_lt_of_le lB hp7.size
                replace lC := Nat.lt_of_lt_of_le lC hp7.size
                replace ltbk := Nat.lt_of_lt_of_le ltbk hp7.size
                replace hB := hB.trans (Below.mono hp7 hB.size)
                clear hp7 hb7
                have hsz : KX.size ≤ s1.size := by obtain ⟨pre, h⟩ := HS1.out; rw [h, ByteArray.size_append]; omega
                have hext : s1.extract (s1.size - KX.size) s1.size = KX := by
                  obtain ⟨pre, h⟩ := HS1.out
                  have e1 : s1.size = pre.size + KX.size := by rw [h, ByteArray.size_append]
                  rw [e1, Nat.add_sub_cancel, h]
                  exact ext_tail pre KX
                clear HS1
                unfold maxLen at hs1s
                have hsI : ¬ (s1.size : Int) < (KX.size : Int) := by omega
                obtain ⟨dd, hdd⟩ : ∃ dd, dd = s1.size - KX.size := ⟨_, rfl⟩
                rw [← hdd] at hext
                have hdI : IntKind.i64.wrap ((s1.size : Int) - (KX.size : Int)) = (dd : Int) := by rw [IntWalk.i64_in _ (by omega)]; omega
                have hdl : dd ≤ s1.size := by omega
                have hdlI : (dd : Int) ≤ (s1.size : Int) := by omega
                clear hsz hdd
                have HAX := Lib.hid (show ∀ x ∈ nfoR rs (te, tl), isKin x = true from fun x hx => nfoR_kin hx)
                obtain ⟨V, hV⟩ : ∃ V, V = nfoV rs (te, tl) := ⟨_, rfl⟩
                have HV := Lib.hid hV
                clear hV
                have hvv : (V != V) = false := by simp
                go_wp2_with fail
                refine (nfoI_o _ _ _ _ rs (te, tl) (HR.out.up ?b0) (HT.out.up ?b0)).mono ?_
                case b0 => exact bwT
                obtain ⟨A, hA⟩ : ∃ A, A = nfoR rs (te, tl) := ⟨_, rfl⟩
                rw [← hA, ← HV.out]
                rw [← hA] at HAX
                have HA := Lib.hid hA
                clear hA
                rintro e w8 ⟨au, rfl, ho8, hb8⟩
                have hp8 : Below w7.heap.size w7 w8 := Below.trans (show Below w7.heap.size w7 _ from bwT) (hb8.mono szT)
                obtain ⟨aa, an, acap, rfl, han, -⟩ := ho8.rd.shape
                subst han
                have HAL := Lib.hid ho8.rd
                replace HR := Lib.hid (HR.out.up hp8)
                replace HT := Lib.hid (HT.out.up hp8)
                replace HN := Lib.hid (HN.out.up hp8)
                replace HTR := Lib.hid (HTR.out.up hp8)
                replace x0 := oldc hp8 lB x0
                replace x1 := oldc hp8 lB x1
                replace y0 := oldc hp8 lC y0
                replace y1 := oldc hp8 lC y1
                replace tc0 := oldc hp8 ltbk tc0
                replace tc1 := oldc hp8 ltbk tc1
                replace lB := Nat.lt_of_lt_of_le lB hp8.size
                replace lC := Nat.lt_of_lt_of_le lC hp8.size
                replace ltbk := Nat.lt_of_lt_of_le ltbk hp8.size
                replace hB := hB.trans (Below.mono hp8 hB.size)
                clear hp8 hb8 ho8
                go_wp2_with fail
                refine (nfoS_o _ _ _ _ rs (te, tl) HR.out HT.out).mono ?_
                rw [← HV.out]
                rintro e w9 ⟨su, rfl, hr9, hb9⟩
                have hp9 : Below w8.heap.size w8 w9 := hb9
                clear hr9 hb9
                replace HR := Lib.hid (HR.out.up hp9)
                replace HT := Lib.hid (HT.out.up hp9)
                replace HN := Lib.hid (HN.out.up hp9)
                replace HTR := Lib.hid (HTR.out.up hp9)
                replace HAL := Lib.hid (HAL.out.up hp9)
                replace x0 := oldc hp9 lB x0
                replace x1 := oldc hp9 lB x1
                replace y0 := oldc hp9 lC y0
                replace y1 := oldc hp9 lC y1
                replace tc0 := oldc hp9 ltbk tc0
                replace tc1 := oldc hp9 ltbk tc1
                replace lB := Nat.lt_of_lt_of_le lB hp9.size
                replace lC := Nat.lt_of_lt_of_le lC hp9.size
                replace ltbk := Nat.lt_of_lt_of_le ltbk hp9.size
                replace hB := hB.trans (Below.mono hp9 hB.size)
                clear hp9
                cases V
                · go_wp2
                  go_ret
                  exact ⟨rfl, hB⟩
                have HAF := Lib.hid (nfo_all HV.out.symm)
                have hal : A.length ≤ 9223372036854775807 := by exact len_max HAL.out
                go_wp2
                go_loopw [13, 15, 128] (fun s13 _ s128 wi => ∃ i : Nat, i ≤ A.length ∧ s128 = .int .i64 i ∧ s13 = .bool (decide (X ∈ A.take i)) ∧ Below w9.heap.size w9 wi) (fun _ _ s128 _ => A.length - (intOf s128).toNat)
                case atStart => exact ⟨0, Nat.zero_le _, rfl, by simp, Below.refl _ _⟩
                case round =>
                  obtain ⟨wi, hwi⟩ : ∃ x : World, x = wr := ⟨_, rfl⟩
                  subst hwi
                  obtain ⟨i, hi, rfl, rfl, hbi⟩ := hrel
                  obtain ⟨f, hf⟩ : ∃ f, f = decide (X ∈ A.take i) := ⟨_, rfl⟩
                  have HFF := Lib.hid hf
                  rw [← hf]
                  clear hf
                  replace HR := Lib.hid (HR.out.up hbi)
                  replace HT := Lib.hid (HT.out.up hbi)
                  replace HN := Lib.hid (HN.out.up hbi)
                  replace HTR := Lib.hid (HTR.out.up hbi)
                  replace HAL := Lib.hid (HAL.out.up hbi)
                  replace x0 := oldc hbi lB x0
                  replace x1 := oldc hbi lB x1
                  replace y0 := oldc hbi lC y0
                  replace y1 := oldc hbi lC y1
                  replace tc0 := oldc hbi ltbk tc0
                  replace tc1 := oldc hbi ltbk tc1
                  replace lB := Nat.lt_of_lt_of_le lB hbi.size
                  replace lC := Nat.lt_of_lt_of_le lC hbi.size
                  replace ltbk := Nat.lt_of_lt_of_le ltbk hbi.size
                  replace hB := hB.trans (Below.mono hbi hB.size)
                  by_cases hlj : i < A.length
                  · have hJ : (i : Int) < (A.length : Int) := by omega
                    obtain ⟨bx, offx, ⟨xe, xl⟩, vx, rfl, hx, k0, k1, -, hxv, hxt, -, -, hbt⟩ := HAL.out.kin_at hlj
                    dsimp only at k0 hxv hxt
                    obtain ⟨xa, xn, xcap, rfl, hxn, -⟩ := hxv.shape
                    subst hxn
                    have HXT := Lib.hid hxt
                    have HXXK := Lib.hid (HAX.out _ (List.mem_of_getElem? hx.out))
                    have HTK := Lib.hid (show decide (X ∈ A.take (i + 1)) = (f || decide ((xe, xl) = X)) by rw [mem_next hx.out, ← HFF.out])
                    clear hx hxv hxt hbt HFF
                    obtain ⟨D, hDd⟩ : ∃ D, D = wi.heap.size := ⟨_, rfl⟩
                    obtain ⟨WD, hWD⟩ : ∃ W : World, W = wi.alloc (.cells #[.int .i64 xe, .slice xa xl.length xcap] 36) := ⟨_, rfl⟩
                    have hbx : Below wi.heap.size wi WD := by rw [hWD]; exact (Below.refl _ _).alloc (Nat.le_refl _) _
                    have z0 : WD.cell? ⟨D, 0, none⟩ = some (.int .i64 xe) := by rw [hWD, hDd]; simp [go_sem]
                    have z1 : WD.cell? ⟨D, 1, none⟩ = some (.slice xa xl.length xcap) := by rw [hWD, hDd]; simp [go_sem]
                    have lD : D < WD.heap.size := by rw [hWD, hDd]; simp
                    replace HR := Lib.hid (HR.out.up hbx)
                    replace HT := Lib.hid (HT.out.up hbx)
                    replace HN := Lib.hid (HN.out.up hbx)
                    replace HTR := Lib.hid (HTR.out.up hbx)
                    replace HAL := Lib.hid (HAL.out.up hbx)
                    replace HXT := Lib.hid (HXT.out.up hbx)
                    replace x0 := oldc hbx lB x0
                    replace x1 := oldc hbx lB x1
                    replace y0 := oldc hbx lC y0
                    replace y1 := oldc hbx lC y1
                    replace tc0 := oldc hbx ltbk tc0
                    replace tc1 := oldc hbx ltbk tc1
                    replace lB := Nat.lt_of_lt_of_le lB hbx.size
                    replace lC := Nat.lt_of_lt_of_le lC hbx.size
                    replace ltbk := Nat.lt_of_lt_of_le ltbk hbx.size
                    replace hB := hB.trans (Below.mono hbx hB.size)
                    replace hbi := hbi.trans (Below.mono hbx hbi.size)
                    clear hbx
                    go_upto_region 23 with fail
                    rw [← hWD, ← hDd]
                    clear hWD hDd
                    clear k0 k1
                    cases f
                    · obtain ⟨r, hr⟩ : ∃ r, r = decide ((xe, xl) = X) := ⟨_, rfl⟩
                      have HRR := Lib.hid hr
                      rw [← hr] at HTK
                      clear hr
                      go_wp2_with fail
                      refine (eqTypesS_b _ _ _ _ _ (xe, xl) X HXT.out HN.out r HRR.out).mono ?_
                      rintro e wa ⟨rfl, hba⟩
                      replace HR := Lib.hid (HR.out.up hba)
                      replace HT := Lib.hid (HT.out.up hba)
                      replace HN := Lib.hid (HN.out.up hba)
                      replace HTR := Lib.hid (HTR.out.up hba)
                      replace HAL := Lib.hid (HAL.out.up hba)
                      replace HXT := Lib.hid (HXT.out.up hba)
                      replace x0 := oldc hba lB x0
                      replace x1 := oldc hba lB x1
                      replace y0 := oldc hba lC y0
                      replace y1 := oldc hba lC y1
                      replace tc0 := oldc hba ltbk tc0
                      replace tc1 := oldc hba ltbk tc1
                      replace z0 := oldc hba lD z0
                      replace z1 := oldc hba lD z1
                      replace lB := Nat.lt_of_lt_of_le lB hba.size
                      replace lC := Nat.lt_of_lt_of_le lC hba.size
                      replace ltbk := Nat.lt_of_lt_of_le ltbk hba.size
                      replace lD := Nat.lt_of_lt_of_le lD hba.size
                      replace hB := hB.trans (Below.mono hba hB.size)
                      replace hbi := hbi.trans (Below.mono hba hbi.size)
                      clear hba
                      cases r
                      · by_cases h1 : TR.length = 1
                        · have h1I : ((TR.length : Int) == 1) = true := by rw [beq_iff_eq]; omega
                          clear h1
                          obtain ⟨KT, hKT⟩ : ∃ K, K = kinTxt (xe, xl) := ⟨_, rfl⟩
                          have hne : (KT.toList == KX.toList) = false := by
                            rw [beq_eq_false_iff_ne]
                            intro h
                            have h2 : KT = KX := bL_inj (by simpa [bL, ByteArray.toList_eq] using h)
                            rw [hKT, HKX.out] at h2
                            have := HRR.out
                            rw [kinTxt_inj HXXK.out HXK.out.2.2.2 h2] at this
                            simp at this
                          go_wp2_with fail
                          refine (formatS_any _ _ _ (xe, xl) HXT.out).mono ?_
                          rw [← hKT]
                          rintro e wc ⟨rfl, hbc⟩
                          replace HR := Lib.hid (HR.out.up hbc)
                          replace HT := Lib.hid (HT.out.up hbc)
                          replace HN := Lib.hid (HN.out.up hbc)
                          replace HTR := Lib.hid (HTR.out.up hbc)
                          replace HAL := Lib.hid (HAL.out.up hbc)
                          replace HXT := Lib.hid (HXT.out.up hbc)
                          replace x0 := oldc hbc lB x0
                          replace x1 := oldc hbc lB x1
                          replace y0 := oldc hbc lC y0
                          replace y1 := oldc hbc lC y1
                          replace tc0 := oldc hbc ltbk tc0
                          replace tc1 := oldc hbc ltbk tc1
                          replace z0 := oldc hbc lD z0
                          replace z1 := oldc hbc lD z1
                          replace lB := Nat.lt_of_lt_of_le lB hbc.size
                          replace lC := Nat.lt_of_lt_of_le lC hbc.size
                          replace ltbk := Nat.lt_of_lt_of_le ltbk hbc.size
                          replace lD := Nat.lt_of_lt_of_le lD hbc.size
                          replace hB := hB.trans (Below.mono hbc hB.size)
                          replace hbi := hbi.trans (Below.mono hbc hbi.size)
                          clear hbc hKT
                          go_wp2
                          go_roundw
                          case rel => exact ⟨i + 1, by omega, by go_num, by rw [HTK.out]; rfl, hbi⟩
                          case measure => simp [intOf]; omega
                        · have h1I : ((TR.length : Int) == 1) = false := by rw [beq_eq_false_iff_ne]; omega
                          clear h1
                          go_wp2
                          go_roundw
                          case rel => exact ⟨i + 1, by omega, by go_num, by rw [HTK.out]; rfl, hbi⟩
                          case measure => simp [intOf]; omega
                      · go_wp2
                        go_roundw
                        case rel => exact ⟨i + 1, by omega, by go_num, by rw [HTK.out]; rfl, hbi⟩
                        case measure => simp [intOf]; omega
                    · go_wp2
                      go_roundw
                      case rel => exact ⟨i + 1, by omega, by go_num, by rw [HTK.out]; rfl, hbi⟩
                      case measure => simp [intOf]; omega
                  · have hJ : ¬ (i : Int) < (A.length : Int) := by omega
                    obtain rfl : i = A.length := by omega
                    obtain rfl : f = true := by rw [HFF.out, List.take_length]; exact decide_eq_true (by rw [HX.out, HA.out]; exact HAF.out.1)
                    clear hbi HFF
                    go_wp2_with fail
                    refine (reductsOfI_any _ _ _ _ rs (te, tl) HR.out HT.out).mono ?_
                    obtain ⟨N, hN⟩ : ∃ N, N = redL rs (te, tl) := ⟨_, rfl⟩
                    rw [show redX rs (te, tl) = N by unfold redX redV; rw [HAR.out, HKT.out]; exact hN.symm]
                    rintro e wr2 ⟨u8, rfl, hor, hbr⟩
                    obtain ⟨ra, rn', rcap', rfl, hrn', -⟩ := hor.rd.shape
                    subst hrn'
                    have HNN := Lib.hid hor.rd
                    have HND := Lib.hid hN
                    replace HR := Lib.hid (HR.out.up hbr)
                    replace HT := Lib.hid (HT.out.up hbr)
                    replace HN := Lib.hid (HN.out.up hbr)
                    replace HTR := Lib.hid (HTR.out.up hbr)
                    replace HAL := Lib.hid (HAL.out.up hbr)
                    replace x0 := oldc hbr lB x0
                    replace x1 := oldc hbr lB x1
                    replace y0 := oldc hbr lC y0
                    replace y1 := oldc hbr lC y1
                    replace tc0 := oldc hbr ltbk tc0
                    replace tc1 := oldc hbr ltbk tc1
                    replace lB := Nat.lt_of_lt_of_le lB hbr.size
                    replace lC := Nat.lt_of_lt_of_le lC hbr.size
                    replace ltbk := Nat.lt_of_lt_of_le ltbk hbr.size
                    replace hB := hB.trans (Below.mono hbr hB.size)
                    have hnl : N.length ≤ 9223372036854775807 := by exact len_max HNN.out
                    clear hor hbr hN
                    obtain ⟨wq, hwq⟩ : ∃ x : World, x = wr2 := ⟨_, rfl⟩
                    subst hwq
                    go_wp2
                    go_loopw [2, 17, 18, 19, 21, 22, 24, 154] (fun _ _ _ _ _ _ _ s154 wl => ∃ j : Nat, j ≤ N.length ∧ s154 = .int .i64 j ∧ Below wq.heap.size wq wl) (fun _ _ _ _ _ _ _ s154 _ => N.length - (intOf s154).toNat)
                    case atStart => exact ⟨0, Nat.zero_le _, rfl, Below.refl _ _⟩
                    case round =>
                      obtain ⟨wl, hwl⟩ : ∃ x : World, x = wr := ⟨_, rfl⟩
                      subst hwl
                      obtain ⟨j, hj, rfl, hbl⟩ := hrel
                      replace HR := Lib.hid (HR.out.up hbl)
                      replace HT := Lib.hid (HT.out.up hbl)
                      replace HN := Lib.hid (HN.out.up hbl)
                      replace HTR := Lib.hid (HTR.out.up hbl)
                      replace HAL := Lib.hid (HAL.out.up hbl)
                      replace HNN := Lib.hid (HNN.out.up hbl)
                      replace x0 := oldc hbl lB x0
                      replace x1 := oldc hbl lB x1
                      replace y0 := oldc hbl lC y0
                      replace y1 := oldc hbl lC y1
                      replace tc0 := oldc hbl ltbk tc0
                      replace tc1 := oldc hbl ltbk tc1
                      replace lB := Nat.lt_of_lt_of_le lB hbl.size
                      replace lC := Nat.lt_of_lt_of_le lC hbl.size
                      replace ltbk := Nat.lt_of_lt_of_le ltbk hbl.size
                      replace hB := hB.trans (Below.mono hbl hB.size)
                      by_cases hlj : j < N.length
                      · have hJ2 : (j : Int) < (N.length : Int) := by omega
                        obtain ⟨bu, offu, ⟨ue, ul⟩, vu, rfl, hu, k0, k1, -, huv, hut, -, -, hbt⟩ := HNN.out.kin_at hlj
                        dsimp only at k0 huv hut
                        obtain ⟨ua, un, ucap, rfl, hun, -⟩ := huv.shape
                        subst hun
                        have HUT := Lib.hid hut
                        have HUF := Lib.hid (HAF.out.2 (ue, ul) (by rw [← HND.out]; exact List.mem_of_getElem? hu.out))
                        rw [← HA.out] at HUF
                        clear hu huv hut hbt
                        obtain ⟨G, hGd⟩ : ∃ G, G = wl.heap.size := ⟨_, rfl⟩
                        obtain ⟨WG, hWG⟩ : ∃ W : World, W = wl.alloc (.cells #[.int .i64 ue, .slice ua ul.length ucap] 36) := ⟨_, rfl⟩
                        have hbx : Below wl.heap.size wl WG := by rw [hWG]; exact (Below.refl _ _).alloc (Nat.le_refl _) _
                        have g0 : WG.cell? ⟨G, 0, none⟩ = some (.int .i64 ue) := by rw [hWG, hGd]; simp [go_sem]
                        have g1 : WG.cell? ⟨G, 1, none⟩ = some (.slice ua ul.length ucap) := by rw [hWG, hGd]; simp [go_sem]
                        have lG : G < WG.heap.size := by rw [hWG, hGd]; simp
                        replace HR := Lib.hid (HR.out.up hbx)
                        replace HT := Lib.hid (HT.out.up hbx)
                        replace HN := Lib.hid (HN.out.up hbx)
                        replace HTR := Lib.hid (HTR.out.up hbx)
                        replace HAL := Lib.hid (HAL.out.up hbx)
                        replace HNN := Lib.hid (HNN.out.up hbx)
                        replace HUT := Lib.hid (HUT.out.up hbx)
                        replace x0 := oldc hbx lB x0
                        replace x1 := oldc hbx lB x1
                        replace y0 := oldc hbx lC y0
                        replace y1 := oldc hbx lC y1
                        replace tc0 := oldc hbx ltbk tc0
                        replace tc1 := oldc hbx ltbk tc1
                        replace lB := Nat.lt_of_lt_of_le lB hbx.size
                        replace lC := Nat.lt_of_lt_of_le lC hbx.size
                        replace ltbk := Nat.lt_of_lt_of_le ltbk hbx.size
                        replace hB := hB.trans (Below.mono hbx hB.size)
                        replace hbl := hbl.trans (Below.mono hbx hbl.size)
                        clear hbx
                        go_upto_region 28 with fail
                        rw [← hWG, ← hGd]
                        clear hWG hGd
                        clear k0 k1
                        go_wp2_with fail
                        refine (nfoI_o _ _ _ _ rs (ue, ul) HR.out HUT.out).mono ?_
                        obtain ⟨M, hM⟩ : ∃ M, M = nfoR rs (ue, ul) := ⟨_, rfl⟩
                        rw [HUF.out.1, ← hM]
                        have HMA := Lib.hid (show 0 < M.length ∧ ∀ x ∈ M, x ∈ A by rw [hM]; exact HUF.out.2)
                        have HMK := Lib.hid (show ∀ x ∈ M, isKin x = true from fun x hx => HAX.out x (HMA.out.2 x hx))
                        rintro e wm ⟨mu, rfl, hom, hbm⟩
                        obtain ⟨ma, mn, mcap, rfl, hmn, -⟩ := hom.rd.shape
                        subst hmn
                        have HMM := Lib.hid hom.rd
                        replace HR := Lib.hid (HR.out.up hbm)
                        replace HT := Lib.hid (HT.out.up hbm)
                        replace HN := Lib.hid (HN.out.up hbm)
                        replace HTR := Lib.hid (HTR.out.up hbm)
                        replace HAL := Lib.hid (HAL.out.up hbm)
                        replace HNN := Lib.hid (HNN.out.up hbm)
                        replace HUT := Lib.hid (HUT.out.up hbm)
                        replace x0 := oldc hbm lB x0
                        replace x1 := oldc hbm lB x1
                        replace y0 := oldc hbm lC y0
                        replace y1 := oldc hbm lC y1
                        replace tc0 := oldc hbm ltbk tc0
                        replace tc1 := oldc hbm ltbk tc1
                        replace g0 := oldc hbm lG g0
                        replace g1 := oldc hbm lG g1
                        replace lB := Nat.lt_of_lt_of_le lB hbm.size
                        replace lC := Nat.lt_of_lt_of_le lC hbm.size
                        replace ltbk := Nat.lt_of_lt_of_le ltbk hbm.size
                        replace lG := Nat.lt_of_lt_of_le lG hbm.size
                        replace hB := hB.trans (Below.mono hbm hB.size)
                        replace hbl := hbl.trans (Below.mono hbm hbl.size)
                        have hml : M.length ≤ 9223372036854775807 := by exact len_max HMM.out
                        clear hom hbm hM HUF
                        obtain ⟨wk, hwk⟩ : ∃ x : World, x = wm := ⟨_, rfl⟩
                        subst hwk
                        go_wp2
                        go_loopw [2, 21, 22, 24, 166] (fun _ _ _ _ s166 wl => ∃ k : Nat, k ≤ M.length ∧ s166 = .int .i64 k ∧ Below wk.heap.size wk wl) (fun _ _ _ _ s166 _ => M.length - (intOf s166).toNat)
                        case atStart => exact ⟨0, Nat.zero_le _, rfl, Below.refl _ _⟩
                        case round =>
                          obtain ⟨wo, hwo⟩ : ∃ x : World, x = wr := ⟨_, rfl⟩
                          subst hwo
                          obtain ⟨k, hk, rfl, hbo⟩ := hrel
                          replace HR := Lib.hid (HR.out.up hbo)
                          replace HT := Lib.hid (HT.out.up hbo)
                          replace HN := Lib.hid (HN.out.up hbo)
                          replace HTR := Lib.hid (HTR.out.up hbo)
                          replace HAL := Lib.hid (HAL.out.up hbo)
                          replace HNN := Lib.hid (HNN.out.up hbo)
                          replace HUT := Lib.hid (HUT.out.up hbo)
                          replace HMM := Lib.hid (HMM.out.up hbo)
                          replace x0 := oldc hbo lB x0
                          replace x1 := oldc hbo lB x1
                          replace y0 := oldc hbo lC y0
                          replace y1 := oldc hbo lC y1
                          replace tc0 := oldc hbo ltbk tc0
                          replace tc1 := oldc hbo ltbk tc1
                          replace g0 := oldc hbo lG g0
                          replace g1 := oldc hbo lG g1
                          replace lB := Nat.lt_of_lt_of_le lB hbo.size
                          replace lC := Nat.lt_of_lt_of_le lC hbo.size
                          replace ltbk := Nat.lt_of_lt_of_le ltbk hbo.size
                          replace lG := Nat.lt_of_lt_of_le lG hbo.size
                          replace hB := hB.trans (Below.mono hbo hB.size)
                          replace hbl := hbl.trans (Below.mono hbo hbl.size)
                          by_cases hlk : k < M.length
                          · have hJ3 : (k : Int) < (M.length : Int) := by omega
                            obtain ⟨by', offy, ⟨ye, yl⟩, vy, rfl, hy, k0, k1, -, hyv, hyt, -, -, hbt⟩ := HMM.out.kin_at hlk
                            dsimp only at k0 hyv hyt
                            obtain ⟨ya, yn, ycap, rfl, hyn, -⟩ := hyv.shape
                            subst hyn
                            have HYT := Lib.hid hyt
                            have HYA := Lib.hid (HMA.out.2 (ye, yl) (List.mem_of_getElem? hy.out))
                            clear hy hyv hyt hbt
                            obtain ⟨H, hHd⟩ : ∃ H, H = wo.heap.size := ⟨_, rfl⟩
                            obtain ⟨WH, hWH⟩ : ∃ W : World, W = wo.alloc (.cells #[.int .i64 ye, .slice ya yl.length ycap] 36) := ⟨_, rfl⟩
                            have hbx : Below wo.heap.size wo WH := by rw [hWH]; exact (Below.refl _ _).alloc (Nat.le_refl _) _
                            have q0 : WH.cell? ⟨H, 0, none⟩ = some (.int .i64 ye) := by rw [hWH, hHd]; simp [go_sem]
                            have q1 : WH.cell? ⟨H, 1, none⟩ = some (.slice ya yl.length ycap) := by rw [hWH, hHd]; simp [go_sem]
                            have lH : H < WH.heap.size := by rw [hWH, hHd]; simp
                            replace HR := Lib.hid (HR.out.up hbx)
                            replace HT := Lib.hid (HT.out.up hbx)
                            replace HN := Lib.hid (HN.out.up hbx)
                            replace HTR := Lib.hid (HTR.out.up hbx)
                            replace HAL := Lib.hid (HAL.out.up hbx)
                            replace HNN := Lib.hid (HNN.out.up hbx)
                            replace HUT := Lib.hid (HUT.out.up hbx)
                            replace HMM := Lib.hid (HMM.out.up hbx)
                            replace HYT := Lib.hid (HYT.out.up hbx)
                            replace x0 := oldc hbx lB x0
                            replace x1 := oldc hbx lB x1
                            replace y0 := oldc hbx lC y0
                            replace y1 := oldc hbx lC y1
                            replace tc0 := oldc hbx ltbk tc0
                            replace tc1 := oldc hbx ltbk tc1
                            replace g0 := oldc hbx lG g0
                            replace g1 := oldc hbx lG g1
                            replace lB := Nat.lt_of_lt_of_le lB hbx.size
                            replace lC := Nat.lt_of_lt_of_le lC hbx.size
                            replace ltbk := Nat.lt_of_lt_of_le ltbk hbx.size
                            replace lG := Nat.lt_of_lt_of_le lG hbx.size
                            replace hB := hB.trans (Below.mono hbx hB.size)
                            replace hbl := hbl.trans (Below.mono hbx hbl.size)
                            replace hbo := hbo.trans (Below.mono hbx hbo.size)
                            clear hbx
                            go_upto_region 32 with fail
                            rw [← hWH, ← hHd]
                            clear hWH hHd
                            clear k0 k1
                            go_wp2
                            go_loopw [22, 24, 172] (fun s22 _ s172 wl => ∃ n : Nat, n ≤ A.length ∧ s172 = .int .i64 n ∧ s22 = .bool (decide ((ye, yl) ∈ A.take n)) ∧ Below WH.heap.size WH wl) (fun _ _ s172 _ => A.length - (intOf s172).toNat)
                            case atStart => exact ⟨0, Nat.zero_le _, rfl, by simp, Below.refl _ _⟩
                            case round =>
                              obtain ⟨wp, hwp⟩ : ∃ x : World, x = wr := ⟨_, rfl⟩
                              subst hwp
                              obtain ⟨n, hn, rfl, rfl, hbp⟩ := hrel
                              obtain ⟨f, hf⟩ : ∃ f, f = decide ((ye, yl) ∈ A.take n) := ⟨_, rfl⟩
                              have HFF := Lib.hid hf
                              rw [← hf]
                              clear hf
                              replace HR := Lib.hid (HR.out.up hbp)
                              replace HT := Lib.hid (HT.out.up hbp)
                              replace HN := Lib.hid (HN.out.up hbp)
                              replace HTR := Lib.hid (HTR.out.up hbp)
                              replace HAL := Lib.hid (HAL.out.up hbp)
                              replace HNN := Lib.hid (HNN.out.up hbp)
                              replace HUT := Lib.hid (HUT.out.up hbp)
                              replace HMM := Lib.hid (HMM.out.up hbp)
                              replace HYT := Lib.hid (HYT.out.up hbp)
                              replace x0 := oldc hbp lB x0
                              replace x1 := oldc hbp lB x1
                              replace y0 := oldc hbp lC y0
                              replace y1 := oldc hbp lC y1
                              replace tc0 := oldc hbp ltbk tc0
                              replace tc1 := oldc hbp ltbk tc1
                              replace g0 := oldc hbp lG g0
                              replace g1 := oldc hbp lG g1
                              replace q0 := oldc hbp lH q0
                              replace q1 := oldc hbp lH q1
                              replace lB := Nat.lt_of_lt_of_le lB hbp.size
                              replace lC := Nat.lt_of_lt_of_le lC hbp.size
                              replace ltbk := Nat.lt_of_lt_of_le ltbk hbp.size
                              replace lG := Nat.lt_of_lt_of_le lG hbp.size
                              replace lH := Nat.lt_of_lt_of_le lH hbp.size
                              replace hB := hB.trans (Below.mono hbp hB.size)
                              replace hbl := hbl.trans (Below.mono hbp hbl.size)
                              replace hbo := hbo.trans (Below.mono hbp hbo.size)
                              by_cases hln : n < A.length
                              · have hJ4 : (n : Int) < (A.length : Int) := by omega
                                obtain ⟨bx, offx, ⟨xe, xl⟩, vx, rfl, hx, k0, k1, -, hxv, hxt, -, -, hbt⟩ := HAL.out.kin_at hln
                                dsimp only at k0 hxv hxt
                                obtain ⟨xa, xn, xcap, rfl, hxn, -⟩ := hxv.shape
                                subst hxn
                                have HXT := Lib.hid hxt
                                have HTK := Lib.hid (show decide ((ye, yl) ∈ A.take (n + 1)) = (f || decide ((ye, yl) = (xe, xl))) by rw [mem_next hx.out, ← HFF.out, decide_eq_decide.2 (eq_comm (a := (ye, yl)) (b := (xe, xl)))])
                                clear hx hxv hxt hbt HFF
                                obtain ⟨D, hDd⟩ : ∃ D, D = wp.heap.size := ⟨_, rfl⟩
                                obtain ⟨WD, hWD⟩ : ∃ W : World, W = wp.alloc (.cells #[.int .i64 xe, .slice xa xl.length xcap] 36) := ⟨_, rfl⟩
                                have hbx : Below wp.heap.size wp WD := by rw [hWD]; exact (Below.refl _ _).alloc (Nat.le_refl _) _
                                have z0 : WD.cell? ⟨D, 0, none⟩ = some (.int .i64 xe) := by rw [hWD, hDd]; simp [go_sem]
                                have z1 : WD.cell? ⟨D, 1, none⟩ = some (.slice xa xl.length xcap) := by rw [hWD, hDd]; simp [go_sem]
                                have lD : D < WD.heap.size := by rw [hWD, hDd]; simp
                                replace HR := Lib.hid (HR.out.up hbx)
                                replace HT := Lib.hid (HT.out.up hbx)
                                replace HN := Lib.hid (HN.out.up hbx)
                                replace HTR := Lib.hid (HTR.out.up hbx)
                                replace HAL := Lib.hid (HAL.out.up hbx)
                                replace HNN := Lib.hid (HNN.out.up hbx)
                                replace HUT := Lib.hid (HUT.out.up hbx)
                                replace HMM := Lib.hid (HMM.out.up hbx)
                                replace HYT := Lib.hid (HYT.out.up hbx)
                                replace HXT := Lib.hid (HXT.out.up hbx)
                                replace x0 := oldc hbx lB x0
                                replace x1 := oldc hbx lB x1
                                replace y0 := oldc hbx lC y0
                                replace y1 := oldc hbx lC y1
                                replace tc0 := oldc hbx ltbk tc0
                                replace tc1 := oldc hbx ltbk tc1
                                replace g0 := oldc hbx lG g0
                                replace g1 := oldc hbx lG g1
                                replace q0 := oldc hbx lH q0
                                replace q1 := oldc hbx lH q1
                                replace lB := Nat.lt_of_lt_of_le lB hbx.size
                                replace lC := Nat.lt_of_lt_of_le lC hbx.size
                                replace ltbk := Nat.lt_of_lt_of_le ltbk hbx.size
                                replace lG := Nat.lt_of_lt_of_le lG hbx.size
                                replace lH := Nat.lt_of_lt_of_le lH hbx.size
                                replace hB := hB.trans (Below.mono hbx hB.size)
                                replace hbl := hbl.trans (Below.mono hbx hbl.size)
                                replace hbo := hbo.trans (Below.mono hbx hbo.size)
                                replace hbp := hbp.trans (Below.mono hbx hbp.size)
                                clear hbx
                                go_upto_region 36 with fail
                                rw [← hWD, ← hDd]
                                clear hWD hDd
                                clear k0 k1
                                cases f
                                · obtain ⟨r, hr⟩ : ∃ r, r = decide ((ye, yl) = (xe, xl)) := ⟨_, rfl⟩
                                  have HRR := Lib.hid hr
                                  rw [← hr] at HTK
                                  clear hr
                                  go_wp2_with fail
                                  refine (eqTypesS_b _ _ _ _ _ (ye, yl) (xe, xl) HYT.out HXT.out r HRR.out).mono ?_
                                  rintro e wa ⟨rfl, hba⟩
                                  replace HR := Lib.hid (HR.out.up hba)
                                  replace HT := Lib.hid (HT.out.up hba)
                                  replace HN := Lib.hid (HN.out.up hba)
                                  replace HTR := Lib.hid (HTR.out.up hba)
                                  replace HAL := Lib.hid (HAL.out.up hba)
                                  replace HNN := Lib.hid (HNN.out.up hba)
                                  replace HUT := Lib.hid (HUT.out.up hba)
                                  replace HMM := Lib.hid (HMM.out.up hba)
                                  replace HYT := Lib.hid (HYT.out.up hba)
                                  replace HXT := Lib.hid (HXT.out.up hba)
                                  replace x0 := oldc hba lB x0
                                  replace x1 := oldc hba lB x1
                                  replace y0 := oldc hba lC y0
                                  replace y1 := oldc hba lC y1
                                  replace tc0 := oldc hba ltbk tc0
                                  replace tc1 := oldc hba ltbk tc1
                                  replace g0 := oldc hba lG g0
                                  replace g1 := oldc hba lG g1
                                  replace q0 := oldc hba lH q0
                                  replace q1 := oldc hba lH q1
                                  replace z0 := oldc hba lD z0
                                  replace z1 := oldc hba lD z1
                                  replace lB := Nat.lt_of_lt_of_le lB hba.size
                                  replace lC := Nat.lt_of_lt_of_le lC hba.size
                                  replace ltbk := Nat.lt_of_lt_of_le ltbk hba.size
                                  replace lG := Nat.lt_of_lt_of_le lG hba.size
                                  replace lH := Nat.lt_of_lt_of_le lH hba.size
                                  replace lD := Nat.lt_of_lt_of_le lD hba.size
                                  replace hB := hB.trans (Below.mono hba hB.size)
                                  replace hbl := hbl.trans (Below.mono hba hbl.size)
                                  replace hbo := hbo.trans (Below.mono hba hbo.size)
                                  replace hbp := hbp.trans (Below.mono hba hbp.size)
                                  clear hba
                                  go_wp2
                                  go_roundw
                                  case rel => exact ⟨n + 1, by omega, by go_num, by rw [HTK.out]; rfl, hbp⟩
                                  case measure => simp [intOf]; omega
                                · go_wp2
                                  go_roundw
                                  case rel => exact ⟨n + 1, by omega, by go_num, by rw [HTK.out]; rfl, hbp⟩
                                  case measure => simp [intOf]; omega
                              · have hJ4 : ¬ (n : Int) < (A.length : Int) := by omega
                                obtain rfl : n = A.length := by omega
                                obtain rfl : f = true := by rw [HFF.out, List.take_length]; exact decide_eq_true HYA.out
                                clear hbp HFF
                                go_wp2
                                go_roundw
                                case rel => exact ⟨k + 1, by omega, by go_num, hbo⟩
                                case measure => simp [intOf]; omega
                          · have hJ3 : ¬ (k : Int) < (M.length : Int) := by omega
                            have hM0 : ¬ (M.length : Int) = 0 := by have := HMA.out.1; omega
                            clear hbo
                            go_wp2
                            go_roundw
                            case rel => exact ⟨j + 1, by omega, by go_num, hbl⟩
                            case measure => simp [intOf]; omega
                      · have hJ2 : ¬ (j : Int) < (N.length : Int) := by omega
                        go_wp2
                        go_ret
                        exact ⟨rfl, hB⟩
              exact AllReadyH.nil
            exact AllReadyH.nil
          exact AllReadyH.nil
        exact AllReadyH.nil
      exact AllReadyH.nil
    exact AllReadyH.nil
  exact AllReadyH.nil
end Go.Proofs.Ytoipdgoejichbaa
