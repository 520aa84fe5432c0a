/- Contracts: FormatRule, FormatTerminology of both programs. Written by frm_gen.py. -/
import Derived.Test.YtoipdgoejichbaaFmtS
import Derived.Test.YtoipdgoejichbaaFrm
namespace Go.Proofs.Ytoipdgoejichbaa
set_option linter.unusedVariables false
set_option linter.unusedSimpArgs false
open Go.RowKit


set_option maxRecDepth 20000 in
set_option maxHeartbeats 8000000 in
theorem formatRuleS_any {z : Bool} {lo hi : Nat} (w : World) (u0 u1 u2 u3 u4 : Value) (r : Rul) (h : Rd z lo hi w [u0, u1, u2, u3, u4] r) (R : ByteArray) (hR : R = ruleTxt r) : Calls Try.prog 123 #[.agg #[u0, u1, u2, u3, u4]] w (PostV w (.string R)) := by
  have HRR := Lib.hid h
  obtain ⟨nm, sx, pl, fr, tw⟩ := r
  obtain ⟨vfr, vtw, e1, gnm, gsx, gpl, hfr, htw⟩ := Rd.dRul h
  simp only [List.cons.injEq, and_true] at e1
  obtain ⟨rfl, rfl, rfl, rfl, rfl⟩ := e1
  obtain ⟨fao, fn, fcap, rfl, -⟩ := hfr.shape
  obtain ⟨tao, tn, tcap, rfl, -⟩ := htw.shape
  have HF := Lib.hid hfr
  have HW := Lib.hid htw
  obtain ⟨r1, hlet_r1⟩ : ∃ r, r = isRule (nm, sx, pl, fr, tw) := ⟨_, rfl⟩
  have H1 := Lib.hid hlet_r1
  clear hlet_r1
  have HR := Lib.hid (show R = if r1 = true then ruleT4 (nm, sx, pl, fr, tw) ++ ⟨#[32, 45, 62, 32]⟩ ++ dotT (stepsT tw) else ⟨#[]⟩ by rw [hR, H1.out]; rfl)
  clear h hfr htw gnm gsx gpl hR
  go_enter Try.func123, Try.ntmps123
  go_wp2_with fail
  refine (isRuleS_b _ _ _ _ _ _ (nm, sx, pl, fr, tw) (HRR.out.below bwT) r1 H1.out).mono ?_
  rintro e3 w3 ⟨rfl, hbw3⟩
  have hpw3 : Below w.heap.size w w3 := Below.after bwT hbw3 szT
  have sw3 := hpw3.size
  have hBw3 : Below w.heap.size w w3 := hpw3
  have l_r : w.heap.size < w3.heap.size := by have := hbw3.size; simp at this; omega
  have q_r0 : w3.cell? ⟨w.heap.size, 0, none⟩ = some (.string nm) := oldc hbw3 ltT (by simp [go_sem])
  have q_r1 : w3.cell? ⟨w.heap.size, 1, none⟩ = some (.int .i64 sx) := oldc hbw3 ltT (by simp [go_sem])
  have q_r2 : w3.cell? ⟨w.heap.size, 2, none⟩ = some (.int .i64 pl) := oldc hbw3 ltT (by simp [go_sem])
  have q_r3 : w3.cell? ⟨w.heap.size, 3, none⟩ = some (.slice fao fn fcap) := oldc hbw3 ltT (by simp [go_sem])
  have q_r4 : w3.cell? ⟨w.heap.size, 4, none⟩ = some (.slice tao tn tcap) := oldc hbw3 ltT (by simp [go_sem])
  clear hbw3 hpw3
  cases r1
  · obtain rfl : R = ⟨#[]⟩ := HR.out
    clear HR H1 HRR HF HW
    go_wp2
    go_ret
    exact ⟨rfl, hBw3⟩
  have hru := isRule_facts H1.out.symm
  have hst := rule_steps H1.out.symm
  have hsx : 0 ≤ sx ∧ sx ≤ 2 := hru.2.1
  have hpl : pl = 0 ∨ pl = 1 ∨ pl = 2 := by have := hru.2.2.1; dsimp only at this; omega
  have hfl : 1 ≤ fr.length ∧ fr.length ≤ 4 := hru.2.2.2.1
  have htl : tw.length ≤ 4 := hst.2.2
  have HK1 := Lib.hid (show SOk fr from hst.1)
  have HK2 := Lib.hid (show SOk tw from hst.2.1)
  have hnm : nm.size ≤ 12 := name_size hru.1
  obtain ⟨E, hE⟩ : ∃ E, E = egoTxt sx := ⟨_, rfl⟩
  obtain ⟨S, hS⟩ : ∃ S, S = stepsT fr := ⟨_, rfl⟩
  obtain ⟨T, hT⟩ : ∃ T, T = stepsT tw := ⟨_, rfl⟩
  obtain ⟨D, hD⟩ : ∃ D, D = dotT T := ⟨_, rfl⟩
  have hEs : E.size ≤ 2 := by rw [hE]; exact egoTxt_size _
  have hSs : S.size ≤ 8 := by have := stepsT_size fr HK1.out; rw [hS]; omega
  have hDs : D.size ≤ 9 := by have := ruleTo_size H1.out.symm; rw [hD, hT]; exact this
  have HE := Lib.hid hE
  have HS := Lib.hid hS
  have HT := Lib.hid hT
  have HD := Lib.hid hD
  have HR2 := Lib.hid (show R = (if pl = 2 then ((if pl = 1 then nm ++ ⟨#[58, 32]⟩ ++ E ++ ⟨#[94]⟩ else nm ++ ⟨#[58, 32]⟩ ++ E) ++ S) ++ ⟨#[36]⟩ else ((if pl = 1 then nm ++ ⟨#[58, 32]⟩ ++ E ++ ⟨#[94]⟩ else nm ++ ⟨#[58, 32]⟩ ++ E) ++ S)) ++ ⟨#[32, 45, 62, 32]⟩ ++ D by rw [HR.out, if_pos rfl, hE, hS, hD, hT]; rfl)
  have c1 : ¬ 9223372036854775807 < nm.size + 2 := by omega
  have c2 : ¬ 9223372036854775807 < nm.size + 2 + E.size := by omega
  obtain ⟨W1, hW1⟩ : ∃ W : World, W = w3 := ⟨_, rfl⟩
  subst hW1
  have hB1 : Below w.heap.size w W1 := hBw3
  have s1 := hB1.size
  have l1 : w.heap.size < W1.heap.size := l_r
  clear hru hst hE hS hT hD HR H1
  go_upto_region 3 with fail
  refine wp_region_held_drew (S := (fun w' => w'.cell? ⟨w.heap.size, 0, none⟩ = some (.string nm) ∧ w'.cell? ⟨w.heap.size, 1, none⟩ = some (.int .i64 sx))) (by kernel_rfl) ?_ (fun hHeld => ?_)
  · first | exact trivial | ((try dsimp only); go_keep)
  refine tkR 0 (v := ?_) ?_ ?_
  rotate_left
  · intro w hSw; (try dsimp only at hSw); go_simp <;> with_reducible rfl
  try simp only [Act.put, List.setIfInBounds_toArray, List.set_cons_zero, List.set_cons_succ]
  refine tkR 3 (v := ?_) ?_ ?_
  rotate_left
  · intro w hSw; (try dsimp only at hSw); go_simp <;> with_reducible rfl
  try simp only [Act.put, List.setIfInBounds_toArray, List.set_cons_zero, List.set_cons_succ]
  refine tkR 1 (v := ?_) ?_ ?_
  rotate_left
  · intro w hSw; (try dsimp only at hSw); go_simp <;> with_reducible rfl
  try simp only [Act.put, List.setIfInBounds_toArray, List.set_cons_zero, List.set_cons_succ]
  refine tkR 4 (v := ?_) ?_ ?_
  rotate_left
  · intro w hSw; (try dsimp only at hSw); go_simp <;> with_reducible rfl
  try simp only [Act.put, List.setIfInBounds_toArray, List.set_cons_zero, List.set_cons_succ]
  refine tkR 2 (v := ?_) ?_ ?_
  rotate_left
  · intro w hSw; (try dsimp only at hSw); go_simp <;> with_reducible rfl
  try simp only [Act.put, List.setIfInBounds_toArray, List.set_cons_zero, List.set_cons_succ]
  refine wpAnyH_ready (rs := [5]) (by kernel_rfl) (by simp) ?_
  refine rdR (fun K hK => ?_) ?_
  · go_simp
    refine (prefixS_any _ sx hsx E HE.out).mono ?_
    rintro e2 w2 ⟨rfl, hb2⟩
    have hp2 : Below W1.heap.size W1 w2 := Below.trans (show Below W1.heap.size W1 _ from bwT) (hb2.mono szT)
    have s2 := hp2.size
    have hS2 := And.intro (oldc hp2 l1 q_r0) (oldc hp2 l1 q_r1)
    clear hb2
    refine hK.out _ _ ?_ (fun hHeld => ?_)
    · exact kpT
    clear hK K
    try simp only [Act.put, List.setIfInBounds_toArray, List.set_cons_zero, List.set_cons_succ]
    refine tkR 6 (v := ?_) ?_ ?_
    rotate_left
    · intro w hSw; (try dsimp only at hSw); go_simp <;> with_reducible rfl
    try simp only [Act.put, List.setIfInBounds_toArray, List.set_cons_zero, List.set_cons_succ]
    refine tkR 7 (v := ?_) ?_ ?_
    rotate_left
    · intro w hSw; (try dsimp only at hSw); go_simp <;> with_reducible rfl
    try simp only [Act.put, List.setIfInBounds_toArray, List.set_cons_zero, List.set_cons_succ]
    refine wpAnyH_done (by kernel_rfl) ?_ _
    have q0 := oldc hp2 l1 q_r0
    have q2 := oldc hp2 l1 q_r2
    have q3 := oldc hp2 l1 q_r3
    have q4 := oldc hp2 l1 q_r4
    have l2 : w.heap.size < w2.heap.size := by omega
    have hB2 : Below w.heap.size w w2 := hB1.trans (hp2.mono s1)
    obtain ⟨X1, hX1⟩ : ∃ X, X = nm ++ ⟨#[58, 32]⟩ ++ E := ⟨_, rfl⟩
    have hX1s : X1.size ≤ 16 := by rw [hX1, ByteArray.size_append, ByteArray.size_append, show (⟨#[58, 32]⟩ : ByteArray).size = 2 from rfl]; omega
    rw [← hX1] at HR2 ⊢
    clear hX1 hHeld q_r0 q_r1 q_r2 q_r3 q_r4 hS2
    rcases hpl with rfl | rfl | rfl
    · have HF2 := Lib.hid (show X1 ++ S ++ ⟨#[32, 45, 62, 32]⟩ ++ D = R from HR2.out.symm)
      have d1 : ¬ 9223372036854775807 < X1.size + S.size := by omega
      have d1' : ¬ 9223372036854775807 < X1.size + 1 := by omega
      have d1b : ¬ 9223372036854775807 < X1.size + 1 + S.size := by omega
      have d2 : ¬ 9223372036854775807 < X1.size + S.size + 1 := by omega
      have d3 : ¬ 9223372036854775807 < X1.size + S.size + 4 := by omega
      have d3b : ¬ 9223372036854775807 < X1.size + 1 + S.size + 4 := by omega
      have d3c : ¬ 9223372036854775807 < X1.size + S.size + 1 + 4 := by omega
      have d4 : ¬ 9223372036854775807 < X1.size + S.size + 4 + D.size := by omega
      have d4b : ¬ 9223372036854775807 < X1.size + 1 + S.size + 4 + D.size := by omega
      have d4c : ¬ 9223372036854775807 < X1.size + S.size + 1 + 4 + D.size := by omega
      clear HR2
      go_wp2_with fail
      refine (wordS_any _ _ fr (HF.out.below hB2) (by omega) HK1.out S (by rw [dot_steps hfl.1 HK1.out, HS.out])).mono ?_
      rintro e3 w3 ⟨rfl, hb3⟩
      have q0 := oldc hb3 l2 q0
      have q2 := oldc hb3 l2 q2
      have q4 := oldc hb3 l2 q4
      have l3 : w.heap.size < w3.heap.size := Nat.lt_of_lt_of_le l2 hb3.size
      have hB3 : Below w.heap.size w w3 := hB2.trans (hb3.mono hB2.size)
      clear hb3 q3
      go_wp2_with fail
      refine (wordS_any _ _ tw (HW.out.below hB3) (by omega) HK2.out D (by rw [HD.out, HT.out])).mono ?_
      rintro e5 w5 ⟨rfl, hb5⟩
      have hB5 : Below w.heap.size w w5 := hB3.trans (hb5.mono hB3.size)
      clear hb5
      go_wp2
      go_ret
      exact ⟨by rw [← HF2.out]; rfl, hB5⟩
    · have HF2 := Lib.hid (show X1 ++ ⟨#[94]⟩ ++ S ++ ⟨#[32, 45, 62, 32]⟩ ++ D = R from HR2.out.symm)
      have d1 : ¬ 9223372036854775807 < X1.size + S.size := by omega
      have d1' : ¬ 9223372036854775807 < X1.size + 1 := by omega
      have d1b : ¬ 9223372036854775807 < X1.size + 1 + S.size := by omega
      have d2 : ¬ 9223372036854775807 < X1.size + S.size + 1 := by omega
      have d3 : ¬ 9223372036854775807 < X1.size + S.size + 4 := by omega
      have d3b : ¬ 9223372036854775807 < X1.size + 1 + S.size + 4 := by omega
      have d3c : ¬ 9223372036854775807 < X1.size + S.size + 1 + 4 := by omega
      have d4 : ¬ 9223372036854775807 < X1.size + S.size + 4 + D.size := by omega
      have d4b : ¬ 9223372036854775807 < X1.size + 1 + S.size + 4 + D.size := by omega
      have d4c : ¬ 9223372036854775807 < X1.size + S.size + 1 + 4 + D.size := by omega
      clear HR2
      go_wp2_with fail
      refine (wordS_any _ _ fr (HF.out.below hB2) (by omega) HK1.out S (by rw [dot_steps hfl.1 HK1.out, HS.out])).mono ?_
      rintro e3 w3 ⟨rfl, hb3⟩
      have q0 := oldc hb3 l2 q0
      have q2 := oldc hb3 l2 q2
      have q4 := oldc hb3 l2 q4
      have l3 : w.heap.size < w3.heap.size := Nat.lt_of_lt_of_le l2 hb3.size
      have hB3 : Below w.heap.size w w3 := hB2.trans (hb3.mono hB2.size)
      clear hb3 q3
      go_wp2_with fail
      refine (wordS_any _ _ tw (HW.out.below hB3) (by omega) HK2.out D (by rw [HD.out, HT.out])).mono ?_
      rintro e5 w5 ⟨rfl, hb5⟩
      have hB5 : Below w.heap.size w w5 := hB3.trans (hb5.mono hB3.size)
      clear hb5
      go_wp2
      go_ret
      exact ⟨by rw [← HF2.out]; rfl, hB5⟩
    · have HF2 := Lib.hid (show X1 ++ S ++ ⟨#[36]⟩ ++ ⟨#[32, 45, 62, 32]⟩ ++ D = R from HR2.out.symm)
      have d1 : ¬ 9223372036854775807 < X1.size + S.size := by omega
      have d1' : ¬ 9223372036854775807 < X1.size + 1 := by omega
      have d1b : ¬ 9223372036854775807 < X1.size + 1 + S.size := by omega
      have d2 : ¬ 9223372036854775807 < X1.size + S.size + 1 := by omega
      have d3 : ¬ 9223372036854775807 < X1.size + S.size + 4 := by omega
      have d3b : ¬ 9223372036854775807 < X1.size + 1 + S.size + 4 := by omega
      have d3c : ¬ 9223372036854775807 < X1.size + S.size + 1 + 4 := by omega
      have d4 : ¬ 9223372036854775807 < X1.size + S.size + 4 + D.size := by omega
      have d4b : ¬ 9223372036854775807 < X1.size + 1 + S.size + 4 + D.size := by omega
      have d4c : ¬ 9223372036854775807 < X1.size + S.size + 1 + 4 + D.size := by omega
      clear HR2
      go_wp2_with fail
      refine (wordS_any _ _ fr (HF.out.below hB2) (by omega) HK1.out S (by rw [dot_steps hfl.1 HK1.out, HS.out])).mono ?_
      rintro e3 w3 ⟨rfl, hb3⟩
      have q0 := oldc hb3 l2 q0
      have q2 := oldc hb3 l2 q2
      have q4 := oldc hb3 l2 q4
      have l3 : w.heap.size < w3.heap.size := Nat.lt_of_lt_of_le l2 hb3.size
      have hB3 : Below w.heap.size w w3 := hB2.trans (hb3.mono hB2.size)
      clear hb3 q3
      go_wp2_with fail
      refine (wordS_any _ _ tw (HW.out.below hB3) (by omega) HK2.out D (by rw [HD.out, HT.out])).mono ?_
      rintro e5 w5 ⟨rfl, hb5⟩
      have hB5 : Below w.heap.size w w5 := hB3.trans (hb5.mono hB3.size)
      clear hb5
      go_wp2
      go_ret
      exact ⟨by rw [← HF2.out]; rfl, hB5⟩
  exact AllReadyH.nil
end Go.Proofs.Ytoipdgoejichbaa
