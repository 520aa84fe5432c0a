/- Contracts: FormatRule, FormatTerminology of both programs. Written by frm_gen.py. -/
import Derived.Test.YtdpkldapobbnpaaGreatDoorFmtS
import Derived.Test.YtdpkldapobbnpaaGreatDoorFrm
namespace Go.Proofs.YtdpkldapobbnpaaGreatDoor
set_option linter.unusedVariables false
set_option linter.unusedSimpArgs false
open Go.RowKit
set_option maxRecDepth 20000 in
set_option maxHeartbeats 8000000 in
theorem formatRuleI_any {z : Bool} {lo hi : Nat} (w : World) (u0 u1 u2 u3 u4 : Value) (r : Rul) (h : Rd z lo hi w [u0, u1, u2, u3, u4] r) (R : ByteArray) (hR : R = ruleTxt r) : Calls Tryz.prog 37 #[.agg #[u0, u1, u2, u3, u4]] w (PostV w (.string R)) := by
 have HRR := Lib.hid h
 obtain ⟨nm, sx, pl, fr, tw⟩ := r
 obtain ⟨vfr, vtw, e1, gnm, gsx, gpl, hfr, htw⟩ := Rd.dRul h
 simp only [List.cons.injEq, and_true] at e1
 obtain ⟨rfl, rfl, rfl, rfl, rfl⟩ := e1
 obtain ⟨fao, fn, fcap, rfl, -⟩ := hfr.shape
 obtain ⟨tao, tn, tcap, rfl, -⟩ := htw.shape
 have HF := Lib.hid hfr
 have HW := Lib.hid htw
 obtain ⟨r1, hlet_r1⟩ : ∃ r, r = isRule (nm, sx, pl, fr, tw) := ⟨_, rfl⟩
 have H1 := Lib.hid hlet_r1
 clear hlet_r1
 have HR := Lib.hid (show R = if r1 = true then ruleT4 (nm, sx, pl, fr, tw) ++ ⟨#[32, 45, 62, 32]⟩ ++ dotT (stepsT tw) else ⟨#[]⟩ by rw [hR, H1.out]; rfl)
 clear h hfr htw gnm gsx gpl hR
 go_enter Tryz.func37, Tryz.ntmps37
 go_wp2_with fail
 refine (isRuleI_b _ _ _ _ _ _ (nm, sx, pl, fr, tw) (HRR.out.below bwT) r1 H1.out).mono ?_
 rintro e1 w1 ⟨rfl, hbw1⟩
 have hpw1 : Below w.heap.size w w1 := Below.after bwT hbw1 szT
 have sw1 := hpw1.size
 have hBw1 : Below w.heap.size w w1 := hpw1
 have l_r : w.heap.size < w1.heap.size := by have := hbw1.size; simp at this; omega
 have q_r0 : w1.cell? ⟨w.heap.size, 0, none⟩ = some (.string nm) := oldc hbw1 ltT (by simp [go_sem])
 have q_r1 : w1.cell? ⟨w.heap.size, 1, none⟩ = some (.int .i64 sx) := oldc hbw1 ltT (by simp [go_sem])
 have q_r2 : w1.cell? ⟨w.heap.size, 2, none⟩ = some (.int .i64 pl) := oldc hbw1 ltT (by simp [go_sem])
 have q_r3 : w1.cell? ⟨w.heap.size, 3, none⟩ = some (.slice fao fn fcap) := oldc hbw1 ltT (by simp [go_sem])
 have q_r4 : w1.cell? ⟨w.heap.size, 4, none⟩ = some (.slice tao tn tcap) := oldc hbw1 ltT (by simp [go_sem])
 clear hbw1 hpw1
 cases r1
 ·obtain rfl : R = ⟨#[]⟩ := HR.out
  clear HR H1 HRR HF HW
  go_wp2
  go_ret
  exact ⟨rfl, hBw1⟩
 have hru := isRule_facts H1.out.symm
 have hst := rule_steps H1.out.symm
 have hsx : 0 ≤ sx ∧ sx ≤ 2 := hru.2.1
 have hpl : pl = 0 ∨ pl = 1 ∨ pl = 2 := by have := hru.2.2.1; dsimp only at this; omega
 have hfl : 1 ≤ fr.length ∧ fr.length ≤ 4 := hru.2.2.2.1
 have htl : tw.length ≤ 4 := hst.2.2
 have HK1 := Lib.hid (show SOk fr from hst.1)
 have HK2 := Lib.hid (show SOk tw from hst.2.1)
 have hnm : nm.size ≤ 12 := name_size hru.1
 obtain ⟨E, hE⟩ : ∃ E, E = egoTxt sx := ⟨_, rfl⟩
 obtain ⟨S, hS⟩ : ∃ S, S = stepsT fr := ⟨_, rfl⟩
 obtain ⟨T, hT⟩ : ∃ T, T = stepsT tw := ⟨_, rfl⟩
 obtain ⟨D, hD⟩ : ∃ D, D = dotT T := ⟨_, rfl⟩
 have hEs : E.size ≤ 2 := by rw [hE]; exact egoTxt_size _
 have hSs : S.size ≤ 8 := by have := stepsT_size fr HK1.out; rw [hS]; omega
 have hDs : D.size ≤ 9 := by have := ruleTo_size H1.out.symm; rw [hD, hT]; exact this
 have HE := Lib.hid hE
 have HS := Lib.hid hS
 have HT := Lib.hid hT
 have HD := Lib.hid hD
 have HR2 := Lib.hid (show R = (if pl = 2 then ((if pl = 1 then nm ++ ⟨#[58, 32]⟩ ++ E ++ ⟨#[94]⟩ else nm ++ ⟨#[58, 32]⟩ ++ E) ++ S) ++ ⟨#[36]⟩ else ((if pl = 1 then nm ++ ⟨#[58, 32]⟩ ++ E ++ ⟨#[94]⟩ else nm ++ ⟨#[58, 32]⟩ ++ E) ++ S)) ++ ⟨#[32, 45, 62, 32]⟩ ++ D by rw [HR.out, if_pos rfl, hE, hS, hD, hT]; rfl)
 have c1 : ¬ 9223372036854775807 < nm.size + 2 := by omega
 have c2 : ¬ 9223372036854775807 < nm.size + 2 + E.size := by omega
 obtain ⟨W1, hW1⟩ : ∃ W : World, W = w1 := ⟨_, rfl⟩
 subst hW1
 have hB1 : Below w.heap.size w W1 := hBw1
 have s1 := hB1.size
 have l1 : w.heap.size < W1.heap.size := l_r
 clear hru hst hE hS hT hD HR H1
 go_upto_region 3 with fail
 refine wp_region_held_drew (S := (fun w' => w'.cell? ⟨w.heap.size, 0, none⟩ = some (.string nm) ∧ w'.cell? ⟨w.heap.size, 1, none⟩ = some (.int .i64 sx))) (by kernel_rfl) ?_ (fun hHeld => ?_)
 ·first | exact trivial | ((try dsimp only); go_keep)
 refine tkA 0 ?_
 try simp only [Act.put, cA, cB, cC]
 refine tkA 3 ?_
 try simp only [Act.put, cA, cB, cC]
 refine tkA 1 ?_
 try simp only [Act.put, cA, cB, cC]
 refine tkA 4 ?_
 try simp only [Act.put, cA, cB, cC]
 refine tkA 2 ?_
 try simp only [Act.put, cA, cB, cC]
 refine wpAnyH_ready (rs := [5]) (by kernel_rfl) (by simp) ?_
 refine rdR (fun K hK => ?_) ?_
 ·go_simp
  refine (prefixI_any _ sx hsx E HE.out).mono ?_
  rintro e2 w2 ⟨rfl, hb2⟩
  have hp2 : Below W1.heap.size W1 w2 := Below.trans (show Below W1.heap.size W1 _ from bwT) (hb2.mono szT)
  have s2 := hp2.size
  have hS2 := And.intro (oldc hp2 l1 q_r0) (oldc hp2 l1 q_r1)
  clear hb2
  refine hK.out _ _ ?_ (fun hHeld => ?_)
  ·exact kpT
  clear hK K
  try simp only [Act.put, cA, cB, cC]
  refine tkA 6 ?_
  try simp only [Act.put, cA, cB, cC]
  refine tkA 7 ?_
  try simp only [Act.put, cA, cB, cC]
  refine wpAnyH_done (by kernel_rfl) ?_ _
  have q0 := oldc hp2 l1 q_r0
  have q2 := oldc hp2 l1 q_r2
  have q3 := oldc hp2 l1 q_r3
  have q4 := oldc hp2 l1 q_r4
  have l2 : w.heap.size < w2.heap.size := by omega
  have hB2 : Below w.heap.size w w2 := hB1.trans (hp2.mono s1)
  obtain ⟨X1, hX1⟩ : ∃ X, X = nm ++ ⟨#[58, 32]⟩ ++ E := ⟨_, rfl⟩
  have hX1s : X1.size ≤ 16 := by rw [hX1, ByteArray.size_append, ByteArray.size_append, show (⟨#[58, 32]⟩ : ByteArray).size = 2 from rfl]; omega
  rw [← hX1] at HR2 ⊢
  clear hX1 hHeld q_r0 q_r1 q_r2 q_r3 q_r4 hS2
  rcases hpl with rfl | rfl | rfl
  ·have HF2 := Lib.hid (show X1 ++ S ++ ⟨#[32, 45, 62, 32]⟩ ++ D = R from HR2.out.symm)
   have d1 : ¬ 9223372036854775807 < X1.size + S.size := by omega
   have d1' : ¬ 9223372036854775807 < X1.size + 1 := by omega
   have d1b : ¬ 9223372036854775807 < X1.size + 1 + S.size := by omega
   have d2 : ¬ 9223372036854775807 < X1.size + S.size + 1 := by omega
   have d3 : ¬ 9223372036854775807 < X1.size + S.size + 4 := by omega
   have d3b : ¬ 9223372036854775807 < X1.size + 1 + S.size + 4 := by omega
   have d3c : ¬ 9223372036854775807 < X1.size + S.size + 1 + 4 := by omega
   have d4 : ¬ 9223372036854775807 < X1.size + S.size + 4 + D.size := by omega
   have d4b : ¬ 9223372036854775807 < X1.size + 1 + S.size + 4 + D.size := by omega
   have d4c : ¬ 9223372036854775807 < X1.size + S.size + 1 + 4 + D.size := by omega
   clear HR2
   go_wp2_with fail
   refine (stepsTextI_any _ _ fr (HF.out.below hB2) (by omega) HK1.out).mono ?_
   rw [← HS.out]
   rintro e3 w3 ⟨rfl, hb3⟩
   have q0 := oldc hb3 l2 q0
   have q2 := oldc hb3 l2 q2
   have q4 := oldc hb3 l2 q4
   have l3 : w.heap.size < w3.heap.size := Nat.lt_of_lt_of_le l2 hb3.size
   have hB3 : Below w.heap.size w w3 := hB2.trans (hb3.mono hB2.size)
   clear hb3 q3
   go_wp2_with fail
   refine (stepsTextI_any _ _ tw (HW.out.below hB3) (by omega) HK2.out).mono ?_
   rw [← HT.out]
   rintro e4 w4 ⟨rfl, hb4⟩
   have hB4 : Below w.heap.size w w4 := hB3.trans (hb4.mono hB3.size)
   clear hb4
   go_wp2_with fail
   refine (orDotI_any _ T).mono ?_
   rw [← HD.out]
   rintro e5 w5 ⟨rfl, hb5⟩
   have hB5 : Below w.heap.size w w5 := hB4.trans (hb5.mono hB4.size)
   clear hb5
   go_wp2
   go_ret
   exact ⟨by rw [← HF2.out]; rfl, hB5⟩
  ·have HF2 := Lib.hid (show X1 ++ ⟨#[94]⟩ ++ S ++ ⟨#[32, 45, 62, 32]⟩ ++ D = R from HR2.out.symm)
   have d1 : ¬ 9223372036854775807 < X1.size + S.size := by omega
   have d1' : ¬ 9223372036854775807 < X1.size + 1 := by omega
   have d1b : ¬ 9223372036854775807 < X1.size + 1 + S.size := by omega
   have d2 : ¬ 9223372036854775807 < X1.size + S.size + 1 := by omega
   have d3 : ¬ 9223372036854775807 < X1.size + S.size + 4 := by omega
   have d3b : ¬ 9223372036854775807 < X1.size + 1 + S.size + 4 := by omega
   have d3c : ¬ 9223372036854775807 < X1.size + S.size + 1 + 4 := by omega
   have d4 : ¬ 9223372036854775807 < X1.size + S.size + 4 + D.size := by omega
   have d4b : ¬ 9223372036854775807 < X1.size + 1 + S.size + 4 + D.size := by omega
   have d4c : ¬ 9223372036854775807 < X1.size + S.size + 1 + 4 + D.size := by omega
   clear HR2
   go_wp2_with fail
   refine (stepsTextI_any _ _ fr (HF.out.below hB2) (by omega) HK1.out).mono ?_
   rw [← HS.out]
   rintro e3 w3 ⟨rfl, hb3⟩
   have q0 := oldc hb3 l2 q0
   have q2 := oldc hb3 l2 q2
   have q4 := oldc hb3 l2 q4
   have l3 : w.heap.size < w3.heap.size := Nat.lt_of_lt_of_le l2 hb3.size
   have hB3 : Below w.heap.size w w3 := hB2.trans (hb3.mono hB2.size)
   clear hb3 q3
   go_wp2_with fail
   refine (stepsTextI_any _ _ tw (HW.out.below hB3) (by omega) HK2.out).mono ?_
   rw [← HT.out]
   rintro e4 w4 ⟨rfl, hb4⟩
   have hB4 : Below w.heap.size w w4 := hB3.trans (hb4.mono hB3.size)
   clear hb4
   go_wp2_with fail
   refine (orDotI_any _ T).mono ?_
   rw [← HD.out]
   rintro e5 w5 ⟨rfl, hb5⟩
   have hB5 : Below w.heap.size w w5 := hB4.trans (hb5.mono hB4.size)
   clear hb5
   go_wp2
   go_ret
   exact ⟨by rw [← HF2.out]; rfl, hB5⟩
  ·have HF2 := Lib.hid (show X1 ++ S ++ ⟨#[36]⟩ ++ ⟨#[32, 45, 62, 32]⟩ ++ D = R from HR2.out.symm)
   have d1 : ¬ 9223372036854775807 < X1.size + S.size := by omega
   have d1' : ¬ 9223372036854775807 < X1.size + 1 := by omega
   have d1b : ¬ 9223372036854775807 < X1.size + 1 + S.size := by omega
   have d2 : ¬ 9223372036854775807 < X1.size + S.size + 1 := by omega
   have d3 : ¬ 9223372036854775807 < X1.size + S.size + 4 := by omega
   have d3b : ¬ 9223372036854775807 < X1.size + 1 + S.size + 4 := by omega
   have d3c : ¬ 9223372036854775807 < X1.size + S.size + 1 + 4 := by omega
   have d4 : ¬ 9223372036854775807 < X1.size + S.size + 4 + D.size := by omega
   have d4b : ¬ 9223372036854775807 < X1.size + 1 + S.size + 4 + D.size := by omega
   have d4c : ¬ 9223372036854775807 < X1.size + S.size + 1 + 4 + D.size := by omega
   clear HR2
   go_wp2_with fail
   refine (stepsTextI_any _ _ fr (HF.out.below hB2) (by omega) HK1.out).mono ?_
   rw [← HS.out]
   rintro e3 w3 ⟨rfl, hb3⟩
   have q0 := oldc hb3 l2 q0
   have q2 := oldc hb3 l2 q2
   have q4 := oldc hb3 l2 q4
   have l3 : w.heap.size < w3.heap.size := Nat.lt_of_lt_of_le l2 hb3.size
   have hB3 : Below w.heap.size w w3 := hB2.trans (hb3.mono hB2.size)
   clear hb3 q3
   go_wp2_with fail
   refine (stepsTextI_any _ _ tw (HW.out.below hB3) (by omega) HK2.out).mono ?_
   rw [← HT.out]
   rintro e4 w4 ⟨rfl, hb4⟩
   have hB4 : Below w.heap.size w w4 := hB3.trans (hb4.mono hB3.size)
   clear hb4
   go_wp2_with fail
   refine (orDotI_any _ T).mono ?_
   rw [← HD.out]
   rintro e5 w5 ⟨rfl, hb5⟩
   have hB5 : Below w.heap.size w w5 := hB4.trans (hb5.mono hB4.size)
   clear hb5
   go_wp2
   go_ret
   exact ⟨by rw [← HF2.out]; rfl, hB5⟩
 exact AllReadyH.nil
set_option maxRecDepth 20000 in
set_option maxHeartbeats 8000000 in
theorem formatTrmI_any {z : Bool} {lo hi : Nat} (w : World) (y1 y2 : Value) (y : Trm) (h : Rd z lo hi w [y1, y2] y) (R : ByteArray) (hR : R = trmTxt y) : Calls Tryz.prog 11 #[.agg #[y1, y2]] w (PostV w (.string R)) := by
 obtain ⟨rs, es⟩ := y
 have HY := Lib.hid h
 obtain ⟨hy1, hy2⟩ := h.two rfl
 dsimp only at hy1 hy2
 obtain ⟨ra, rn, rcap, rfl, hrn, -⟩ := hy1.shape
 obtain ⟨ea, en, ecap, rfl, hen, -⟩ := hy2.shape
 subst hrn hen
 have HRS := Lib.hid hy1
 have HES := Lib.hid hy2
 obtain ⟨r1, hlet_r1⟩ : ∃ r, r = isTerm (rs, es) := ⟨_, rfl⟩
 have H1 := Lib.hid hlet_r1
 clear hlet_r1
 have HR := Lib.hid (show R = if r1 = true then entsT es (rulesT rs ⟨#[]⟩) else ⟨#[]⟩ by rw [hR, H1.out]; rfl)
 clear h hy1 hy2 hR
 go_enter Tryz.func11, Tryz.ntmps11
 go_wp2_with fail
 refine (isTermI_b _ _ _ rs es (HY.out.below bwT) r1 H1.out).mono ?_
 rintro e2 w2 ⟨rfl, hbw2⟩
 have hpw2 : Below w.heap.size w w2 := Below.after bwT hbw2 szT
 have sw2 := hpw2.size
 have hBw2 : Below w.heap.size w w2 := hpw2
 have l_y : w.heap.size < w2.heap.size := by have := hbw2.size; simp at this; omega
 have q_y0 : w2.cell? ⟨w.heap.size, 0, none⟩ = some (.slice ra rs.length rcap) := oldc hbw2 ltT (by simp [go_sem])
 have q_y1 : w2.cell? ⟨w.heap.size, 1, none⟩ = some (.slice ea es.length ecap) := oldc hbw2 ltT (by simp [go_sem])
 clear hbw2 hpw2
 cases r1
 ·obtain rfl : R = ⟨#[]⟩ := HR.out
  clear HR H1 HY HRS HES
  go_wp2
  go_ret
  exact ⟨rfl, hBw2⟩
 have hit := isTerm_facts H1.out.symm
 have hrl : rs.length ≤ 12 := (areRules_facts hit.1).1
 have hel : es.length ≤ 60 := hit.2.1
 have HNE := Lib.hid (show ∀ e ∈ es, nameOk e.2 = true from fun e he => (hit.2.2.1 e he).1)
 have HRF := Lib.hid (show R = entsT es (rulesT rs ⟨#[]⟩) from HR.out)
 obtain ⟨W1, hW1⟩ : ∃ W : World, W = w2 := ⟨_, rfl⟩
 subst hW1
 have hB1 : Below w.heap.size w W1 := hBw2
 have s1 := hB1.size
 have l1 : w.heap.size < W1.heap.size := l_y
 clear hit HR H1
 go_wp2
 go_loopw [3, 5, 14] (fun s3 _ s14 wr => ∃ i : Nat, i ≤ rs.length ∧ s14 = .int .i64 i ∧ s3 = .string (rulesT (rs.take i) ⟨#[]⟩) ∧ Below W1.heap.size W1 wr) (fun _ _ s14 _ => rs.length - (intOf s14).toNat)
 case atStart => exact ⟨0, Nat.zero_le _, rfl, rfl, Below.refl _ _⟩
 case round =>
  obtain ⟨wb, hwb⟩ : ∃ wm : World, wm = wr := ⟨_, rfl⟩
  subst hwb
  obtain ⟨i, hi, rfl, rfl, hbb⟩ := hrel
  have sB := hbb.size
  have hBb : Below w.heap.size w wb := hB1.trans (hbb.mono s1)
  obtain ⟨X, hX⟩ : ∃ X, X = rulesT (rs.take i) ⟨#[]⟩ := ⟨_, rfl⟩
  rw [← hX]
  have HX := Lib.hid hX
  have hXs : X.size ≤ 600 := by
   have := rulesT_size (rs.take i) ⟨#[]⟩
   rw [← hX, List.length_take, show (⟨#[]⟩ : ByteArray).size = 0 from rfl] at this; omega
  clear hX
  by_cases hli : i < rs.length
  ·have hIi : (i : Int) < (rs.length : Int) := by omega
   obtain ⟨rb, roff, nm, sx, pl, fr, tw, vfr, vtw, rfl, hx, c0, c1, c2, c3, c4, gnm, gsx, gpl, hfr, htw, hri, -, -, rbl⟩ := HRS.out.dRul_at hli
   obtain ⟨fao, fn, fcap, rfl, -⟩ := hfr.shape
   obtain ⟨tao, tn, tcap, rfl, -⟩ := htw.shape
   have k0 := oldc hBb rbl c0
   have k1 := oldc hBb rbl c1
   have k2 := oldc hBb rbl c2
   have k3 := oldc hBb rbl c3
   have k4 := oldc hBb rbl c4
   obtain ⟨F, hF⟩ : ∃ F, F = ruleTxt (nm, sx, pl, fr, tw) := ⟨_, rfl⟩
   have HFF := Lib.hid hF
   have hFs : F.size ≤ 40 := by rw [hF]; exact ruleTxt_size _
   have HX2 := Lib.hid (show X ++ ((⟨#[114, 117, 108, 101, 32]⟩ : ByteArray) ++ F ++ ⟨#[10]⟩) = rulesT (rs.take (i + 1)) ⟨#[]⟩ by rw [take_snoc hx.out, rulesT_snoc, ← HX.out, hF]; rfl)
   have HRI := Lib.hid hri
   clear hF c0 c1 c2 c3 c4 hx hfr htw hri gnm gsx gpl
   go_wp2_with fail
   refine (formatRuleI_any _ _ _ _ _ _ (nm, sx, pl, fr, tw) (HRI.out.below ?b1) F HFF.out).mono ?_
   case b1 => exact bwT
   rintro e3 w3 ⟨rfl, hb3⟩
   have hb13 : Below W1.heap.size W1 w3 := Below.trans (show Below W1.heap.size W1 _ from bwT) (hb3.mono szT)
   clear hb3
   have d1 : ¬ 9223372036854775807 < 5 + F.size := by omega
   have d2 : ¬ 9223372036854775807 < 5 + F.size + 1 := by omega
   have d3 : ¬ 9223372036854775807 < X.size + (5 + F.size + 1) := by omega
   have HX3 := HX2
   go_wp2
   rw [HX3.out]
   go_roundw
   case rel => exact ⟨i + 1, by omega, by go_num, rfl, hb13⟩
   case measure => simp [intOf]; omega
  ·obtain rfl : i = rs.length := by omega
   have nI : ¬ (rs.length : Int) < (rs.length : Int) := by omega
   rw [List.take_length] at HX
   have p1 := oldc hbb l1 q_y1
   have lb : w.heap.size < wb.heap.size := by omega
   go_wp2
   go_loopw [3, 7, 28] (fun s3 _ s28 wr => ∃ i : Nat, i ≤ es.length ∧ s28 = .int .i64 i ∧ s3 = .string (entsT (es.take i) X) ∧ Below wb.heap.size wb wr) (fun _ _ s28 _ => es.length - (intOf s28).toNat)
   case atStart => exact ⟨0, Nat.zero_le _, rfl, rfl, Below.refl _ _⟩
   case round =>
    obtain ⟨wc, hwc⟩ : ∃ wm : World, wm = wr := ⟨_, rfl⟩
    subst hwc
    obtain ⟨i, hi, rfl, rfl, hbc⟩ := hrel
    have sC := hbc.size
    have hBc : Below w.heap.size w wc := hBb.trans (hbc.mono hBb.size)
    obtain ⟨Y, hY⟩ : ∃ Y, Y = entsT (es.take i) X := ⟨_, rfl⟩
    rw [← hY]
    have HYY := Lib.hid hY
    have hYs : Y.size ≤ 3000 := by
     have := entsT_size (es.take i) X (fun e he => HNE.out e (List.mem_of_mem_take he))
     rw [← hY, List.length_take] at this; omega
    clear hY
    by_cases hli : i < es.length
    ·have hIi : (i : Int) < (es.length : Int) := by omega
     obtain ⟨tb, toff, te, tl, tm, vtl, rfl, hx, c0, c1, c2, hti, htm, hvs, hrt, -, -, tlt⟩ := HES.out.dEnt_at hli
     obtain ⟨sao, sn, scap, rfl, -⟩ := hvs.shape
     have k0 := oldc hBc tlt c0
     have k1 := oldc hBc tlt c1
     have k2 := oldc hBc tlt c2
     obtain ⟨F, hF⟩ : ∃ F, F = kinTxt (te, tl) := ⟨_, rfl⟩
     have HFF := Lib.hid hF
     have hFs : F.size ≤ 20 := by rw [hF]; exact kinTxt_size _
     have htms : tm.size ≤ 12 := name_size (HNE.out _ (List.mem_of_getElem? hx.out))
     have HX2 := Lib.hid (show Y ++ ((⟨#[116, 101, 114, 109, 32]⟩ : ByteArray) ++ F ++ ⟨#[32]⟩ ++ tm ++ ⟨#[10]⟩) = entsT (es.take (i + 1)) X by rw [take_snoc hx.out, entsT_snoc, ← HYY.out, hF]; rfl)
     have HRT := Lib.hid (hrt.part_ty)
     clear hF c0 c1 c2 hx hti htm hvs hrt
     obtain ⟨WA, hWA⟩ : ∃ W : World, W = wc.alloc (.cells #[.int .i64 te, .slice sao sn scap, .string tm] 43) := ⟨_, rfl⟩
     have hbA : Below wc.heap.size wc WA := by subst hWA; exact bwT
     have a0 : WA.cell? ⟨wc.heap.size, 0, none⟩ = some (.int .i64 te) := by subst hWA; simp [go_sem]
     have a1 : WA.cell? ⟨wc.heap.size, 1, none⟩ = some (.slice sao sn scap) := by subst hWA; simp [go_sem]
     have a2 : WA.cell? ⟨wc.heap.size, 2, none⟩ = some (.string tm) := by subst hWA; simp [go_sem]
     have lA : wc.heap.size < WA.heap.size := by subst hWA; simp
     have hBA : Below w.heap.size w WA := hBc.trans (hbA.mono hBc.size)
     have hcA : Below wb.heap.size wb WA := hbc.trans (hbA.mono sC)
     have d1 : ¬ 9223372036854775807 < 5 + F.size := by omega
     have d2 : ¬ 9223372036854775807 < 5 + F.size + 1 := by omega
     have d3 : ¬ 9223372036854775807 < 5 + F.size + 1 + tm.size := by omega
     have d4 : ¬ 9223372036854775807 < 5 + F.size + 1 + tm.size + 1 := by omega
     have d5 : ¬ 9223372036854775807 < Y.size + (5 + F.size + 1 + tm.size + 1) := by omega
     go_upto_region 12 with fail
     rw [← hWA]
     clear hWA
     refine wp_region_held_drew (S := (fun w' => w'.cell? ⟨wc.heap.size, 0, none⟩ = some (.int .i64 te) ∧ w'.cell? ⟨wc.heap.size, 1, none⟩ = some (.slice sao sn scap) ∧ w'.cell? ⟨wc.heap.size, 2, none⟩ = some (.string tm))) (by kernel_rfl) ?_ (fun hHeld => ?_)
     ·first | exact trivial | ((try dsimp only); go_keep)
     refine tkA 0 ?_
     try simp only [Act.put, cA, cB, cC]
     refine tkA 1 ?_
     try simp only [Act.put, cA, cB, cC]
     refine tkA 6 ?_
     try simp only [Act.put, cA, cB, cC]
     refine tkA 2 ?_
     try simp only [Act.put, cA, cB, cC]
     refine tkA 7 ?_
     try simp only [Act.put, cA, cB, cC]
     refine wpAnyH_ready (rs := [3]) (by kernel_rfl) (by simp) ?_
     refine rdR (fun K hK => ?_) ?_
     ·go_simp
      refine (formatI_any _ _ _ (te, tl) (HRT.out.below ?b1)).mono ?_
      case b1 => exact bwT
      rw [← HFF.out]
      rintro e5 w5 ⟨rfl, hb5⟩
      have hp5 : Below WA.heap.size WA w5 := Below.trans (show Below WA.heap.size WA _ from bwT) (hb5.mono szT)
      have hS5 := And.intro (oldc hp5 lA a0) (And.intro (oldc hp5 lA a1) (oldc hp5 lA a2))
      clear hb5
      refine hK.out _ _ ?_ (fun hHeld => ?_)
      ·exact kpT
      clear hK K
      try simp only [Act.put, cA, cB, cC]
      refine tkA 4 ?_
      try simp only [Act.put, cA, cB, cC]
      refine tkA 5 ?_
      try simp only [Act.put, cA, cB, cC]
      refine tkA 8 ?_
      try simp only [Act.put, cA, cB, cC]
      refine tkA 9 ?_
      try simp only [Act.put, cA, cB, cC]
      refine tkA 10 ?_
      try simp only [Act.put, cA, cB, cC]
      refine tkA 11 ?_
      try simp only [Act.put, cA, cB, cC]
      refine wpAnyH_done (by kernel_rfl) ?_ _
      rw [HX2.out]
      go_wp2
      go_roundw
      case rel => exact ⟨i + 1, by omega, by go_num, rfl, hcA.trans (hp5.mono hcA.size)⟩
      case measure => simp [intOf]; omega
     exact AllReadyH.nil
    ·obtain rfl : i = es.length := by omega
     have nI2 : ¬ (es.length : Int) < (es.length : Int) := by omega
     rw [List.take_length] at HYY
     have HF := Lib.hid (show Y = R by rw [HYY.out, HX.out, HRF.out])
     go_wp2
     go_ret
     exact ⟨by rw [← HF.out]; rfl, hBc⟩
set_option maxRecDepth 20000 in
set_option maxHeartbeats 8000000 in
theorem formatRuleS_any {z : Bool} {lo hi : Nat} (w : World) (u0 u1 u2 u3 u4 : Value) (r : Rul) (h : Rd z lo hi w [u0, u1, u2, u3, u4] r) (R : ByteArray) (hR : R = ruleTxt r) : Calls Tryz.prog 39 #[.agg #[u0, u1, u2, u3, u4]] w (PostV w (.string R)) := by
 have HRR := Lib.hid h
 obtain ⟨nm, sx, pl, fr, tw⟩ := r
 obtain ⟨vfr, vtw, e1, gnm, gsx, gpl, hfr, htw⟩ := Rd.dRul h
 simp only [List.cons.injEq, and_true] at e1
 obtain ⟨rfl, rfl, rfl, rfl, rfl⟩ := e1
 obtain ⟨fao, fn, fcap, rfl, -⟩ := hfr.shape
 obtain ⟨tao, tn, tcap, rfl, -⟩ := htw.shape
 have HF := Lib.hid hfr
 have HW := Lib.hid htw
 obtain ⟨r1, hlet_r1⟩ : ∃ r, r = isRule (nm, sx, pl, fr, tw) := ⟨_, rfl⟩
 have H1 := Lib.hid hlet_r1
 clear hlet_r1
 have HR := Lib.hid (show R = if r1 = true then ruleT4 (nm, sx, pl, fr, tw) ++ ⟨#[32, 45, 62, 32]⟩ ++ dotT (stepsT tw) else ⟨#[]⟩ by rw [hR, H1.out]; rfl)
 clear h hfr htw gnm gsx gpl hR
 go_enter Tryz.func39, Tryz.ntmps39
 go_wp2_with fail
 refine (isRuleS_b _ _ _ _ _ _ (nm, sx, pl, fr, tw) (HRR.out.below bwT) r1 H1.out).mono ?_
 rintro e3 w3 ⟨rfl, hbw3⟩
 have hpw3 : Below w.heap.size w w3 := Below.after bwT hbw3 szT
 have sw3 := hpw3.size
 have hBw3 : Below w.heap.size w w3 := hpw3
 have l_r : w.heap.size < w3.heap.size := by have := hbw3.size; simp at this; omega
 have q_r0 : w3.cell? ⟨w.heap.size, 0, none⟩ = some (.string nm) := oldc hbw3 ltT (by simp [go_sem])
 have q_r1 : w3.cell? ⟨w.heap.size, 1, none⟩ = some (.int .i64 sx) := oldc hbw3 ltT (by simp [go_sem])
 have q_r2 : w3.cell? ⟨w.heap.size, 2, none⟩ = some (.int .i64 pl) := oldc hbw3 ltT (by simp [go_sem])
 have q_r3 : w3.cell? ⟨w.heap.size, 3, none⟩ = some (.slice fao fn fcap) := oldc hbw3 ltT (by simp [go_sem])
 have q_r4 : w3.cell? ⟨w.heap.size, 4, none⟩ = some (.slice tao tn tcap) := oldc hbw3 ltT (by simp [go_sem])
 clear hbw3 hpw3
 cases r1
 ·obtain rfl : R = ⟨#[]⟩ := HR.out
  clear HR H1 HRR HF HW
  go_wp2
  go_ret
  exact ⟨rfl, hBw3⟩
 have hru := isRule_facts H1.out.symm
 have hst := rule_steps H1.out.symm
 have hsx : 0 ≤ sx ∧ sx ≤ 2 := hru.2.1
 have hpl : pl = 0 ∨ pl = 1 ∨ pl = 2 := by have := hru.2.2.1; dsimp only at this; omega
 have hfl : 1 ≤ fr.length ∧ fr.length ≤ 4 := hru.2.2.2.1
 have htl : tw.length ≤ 4 := hst.2.2
 have HK1 := Lib.hid (show SOk fr from hst.1)
 have HK2 := Lib.hid (show SOk tw from hst.2.1)
 have hnm : nm.size ≤ 12 := name_size hru.1
 obtain ⟨E, hE⟩ : ∃ E, E = egoTxt sx := ⟨_, rfl⟩
 obtain ⟨S, hS⟩ : ∃ S, S = stepsT fr := ⟨_, rfl⟩
 obtain ⟨T, hT⟩ : ∃ T, T = stepsT tw := ⟨_, rfl⟩
 obtain ⟨D, hD⟩ : ∃ D, D = dotT T := ⟨_, rfl⟩
 have hEs : E.size ≤ 2 := by rw [hE]; exact egoTxt_size _
 have hSs : S.size ≤ 8 := by have := stepsT_size fr HK1.out; rw [hS]; omega
 have hDs : D.size ≤ 9 := by have := ruleTo_size H1.out.symm; rw [hD, hT]; exact this
 have HE := Lib.hid hE
 have HS := Lib.hid hS
 have HT := Lib.hid hT
 have HD := Lib.hid hD
 have HR2 := Lib.hid (show R = (if pl = 2 then ((if pl = 1 then nm ++ ⟨#[58, 32]⟩ ++ E ++ ⟨#[94]⟩ else nm ++ ⟨#[58, 32]⟩ ++ E) ++ S) ++ ⟨#[36]⟩ else ((if pl = 1 then nm ++ ⟨#[58, 32]⟩ ++ E ++ ⟨#[94]⟩ else nm ++ ⟨#[58, 32]⟩ ++ E) ++ S)) ++ ⟨#[32, 45, 62, 32]⟩ ++ D by rw [HR.out, if_pos rfl, hE, hS, hD, hT]; rfl)
 have c1 : ¬ 9223372036854775807 < nm.size + 2 := by omega
 have c2 : ¬ 9223372036854775807 < nm.size + 2 + E.size := by omega
 obtain ⟨W1, hW1⟩ : ∃ W : World, W = w3 := ⟨_, rfl⟩
 subst hW1
 have hB1 : Below w.heap.size w W1 := hBw3
 have s1 := hB1.size
 have l1 : w.heap.size < W1.heap.size := l_r
 clear hru hst hE hS hT hD HR H1
 go_upto_region 3 with fail
 refine wp_region_held_drew (S := (fun w' => w'.cell? ⟨w.heap.size, 0, none⟩ = some (.string nm) ∧ w'.cell? ⟨w.heap.size, 1, none⟩ = some (.int .i64 sx))) (by kernel_rfl) ?_ (fun hHeld => ?_)
 ·first | exact trivial | ((try dsimp only); go_keep)
 refine tkA 0 ?_
 try simp only [Act.put, cA, cB, cC]
 refine tkA 3 ?_
 try simp only [Act.put, cA, cB, cC]
 refine tkA 1 ?_
 try simp only [Act.put, cA, cB, cC]
 refine tkA 4 ?_
 try simp only [Act.put, cA, cB, cC]
 refine tkA 2 ?_
 try simp only [Act.put, cA, cB, cC]
 refine wpAnyH_ready (rs := [5]) (by kernel_rfl) (by simp) ?_
 refine rdR (fun K hK => ?_) ?_
 ·go_simp
  refine (prefixS_any _ sx hsx E HE.out).mono ?_
  rintro e2 w2 ⟨rfl, hb2⟩
  have hp2 : Below W1.heap.size W1 w2 := Below.trans (show Below W1.heap.size W1 _ from bwT) (hb2.mono szT)
  have s2 := hp2.size
  have hS2 := And.intro (oldc hp2 l1 q_r0) (oldc hp2 l1 q_r1)
  clear hb2
  refine hK.out _ _ ?_ (fun hHeld => ?_)
  ·exact kpT
  clear hK K
  try simp only [Act.put, cA, cB, cC]
  refine tkA 6 ?_
  try simp only [Act.put, cA, cB, cC]
  refine tkA 7 ?_
  try simp only [Act.put, cA, cB, cC]
  refine wpAnyH_done (by kernel_rfl) ?_ _
  have q0 := oldc hp2 l1 q_r0
  have q2 := oldc hp2 l1 q_r2
  have q3 := oldc hp2 l1 q_r3
  have q4 := oldc hp2 l1 q_r4
  have l2 : w.heap.size < w2.heap.size := by omega
  have hB2 : Below w.heap.size w w2 := hB1.trans (hp2.mono s1)
  obtain ⟨X1, hX1⟩ : ∃ X, X = nm ++ ⟨#[58, 32]⟩ ++ E := ⟨_, rfl⟩
  have hX1s : X1.size ≤ 16 := by rw [hX1, ByteArray.size_append, ByteArray.size_append, show (⟨#[58, 32]⟩ : ByteArray).size = 2 from rfl]; omega
  rw [← hX1] at HR2 ⊢
  clear hX1 hHeld q_r0 q_r1 q_r2 q_r3 q_r4 hS2
  rcases hpl with rfl | rfl | rfl
  ·have HF2 := Lib.hid (show X1 ++ S ++ ⟨#[32, 45, 62, 32]⟩ ++ D = R from HR2.out.symm)
   have d1 : ¬ 9223372036854775807 < X1.size + S.size := by omega
   have d1' : ¬ 9223372036854775807 < X1.size + 1 := by omega
   have d1b : ¬ 9223372036854775807 < X1.size + 1 + S.size := by omega
   have d2 : ¬ 9223372036854775807 < X1.size + S.size + 1 := by omega
   have d3 : ¬ 9223372036854775807 < X1.size + S.size + 4 := by omega
   have d3b : ¬ 9223372036854775807 < X1.size + 1 + S.size + 4 := by omega
   have d3c : ¬ 9223372036854775807 < X1.size + S.size + 1 + 4 := by omega
   have d4 : ¬ 9223372036854775807 < X1.size + S.size + 4 + D.size := by omega
   have d4b : ¬ 9223372036854775807 < X1.size + 1 + S.size + 4 + D.size := by omega
   have d4c : ¬ 9223372036854775807 < X1.size + S.size + 1 + 4 + D.size := by omega
   clear HR2
   go_wp2_with fail
   refine (wordS_any _ _ fr (HF.out.below hB2) (by omega) HK1.out S (by rw [dot_steps hfl.1 HK1.out, HS.out])).mono ?_
   rintro e3 w3 ⟨rfl, hb3⟩
   have q0 := oldc hb3 l2 q0
   have q2 := oldc hb3 l2 q2
   have q4 := oldc hb3 l2 q4
   have l3 : w.heap.size < w3.heap.size := Nat.lt_of_lt_of_le l2 hb3.size
   have hB3 : Below w.heap.size w w3 := hB2.trans (hb3.mono hB2.size)
   clear hb3 q3
   go_wp2_with fail
   refine (wordS_any _ _ tw (HW.out.below hB3) (by omega) HK2.out D (by rw [HD.out, HT.out])).mono ?_
   rintro e5 w5 ⟨rfl, hb5⟩
   have hB5 : Below w.heap.size w w5 := hB3.trans (hb5.mono hB3.size)
   clear hb5
   go_wp2
   go_ret
   exact ⟨by rw [← HF2.out]; rfl, hB5⟩
  ·have HF2 := Lib.hid (show X1 ++ ⟨#[94]⟩ ++ S ++ ⟨#[32, 45, 62, 32]⟩ ++ D = R from HR2.out.symm)
   have d1 : ¬ 9223372036854775807 < X1.size + S.size := by omega
   have d1' : ¬ 9223372036854775807 < X1.size + 1 := by omega
   have d1b : ¬ 9223372036854775807 < X1.size + 1 + S.size := by omega
   have d2 : ¬ 9223372036854775807 < X1.size + S.size + 1 := by omega
   have d3 : ¬ 9223372036854775807 < X1.size + S.size + 4 := by omega
   have d3b : ¬ 9223372036854775807 < X1.size + 1 + S.size + 4 := by omega
   have d3c : ¬ 9223372036854775807 < X1.size + S.size + 1 + 4 := by omega
   have d4 : ¬ 9223372036854775807 < X1.size + S.size + 4 + D.size := by omega
   have d4b : ¬ 9223372036854775807 < X1.size + 1 + S.size + 4 + D.size := by omega
   have d4c : ¬ 9223372036854775807 < X1.size + S.size + 1 + 4 + D.size := by omega
   clear HR2
   go_wp2_with fail
   refine (wordS_any _ _ fr (HF.out.below hB2) (by omega) HK1.out S (by rw [dot_steps hfl.1 HK1.out, HS.out])).mono ?_
   rintro e3 w3 ⟨rfl, hb3⟩
   have q0 := oldc hb3 l2 q0
   have q2 := oldc hb3 l2 q2
   have q4 := oldc hb3 l2 q4
   have l3 : w.heap.size < w3.heap.size := Nat.lt_of_lt_of_le l2 hb3.size
   have hB3 : Below w.heap.size w w3 := hB2.trans (hb3.mono hB2.size)
   clear hb3 q3
   go_wp2_with fail
   refine (wordS_any _ _ tw (HW.out.below hB3) (by omega) HK2.out D (by rw [HD.out, HT.out])).mono ?_
   rintro e5 w5 ⟨rfl, hb5⟩
   have hB5 : Below w.heap.size w w5 := hB3.trans (hb5.mono hB3.size)
   clear hb5
   go_wp2
   go_ret
   exact ⟨by rw [← HF2.out]; rfl, hB5⟩
  ·have HF2 := Lib.hid (show X1 ++ S ++ ⟨#[36]⟩ ++ ⟨#[32, 45, 62, 32]⟩ ++ D = R from HR2.out.symm)
   have d1 : ¬ 9223372036854775807 < X1.size + S.size := by omega
   have d1' : ¬ 9223372036854775807 < X1.size + 1 := by omega
   have d1b : ¬ 9223372036854775807 < X1.size + 1 + S.size := by omega
   have d2 : ¬ 9223372036854775807 < X1.size + S.size + 1 := by omega
   have d3 : ¬ 9223372036854775807 < X1.size + S.size + 4 := by omega
   have d3b : ¬ 9223372036854775807 < X1.size + 1 + S.size + 4 := by omega
   have d3c : ¬ 9223372036854775807 < X1.size + S.size + 1 + 4 := by omega
   have d4 : ¬ 9223372036854775807 < X1.size + S.size + 4 + D.size := by omega
   have d4b : ¬ 9223372036854775807 < X1.size + 1 + S.size + 4 + D.size := by omega
   have d4c : ¬ 9223372036854775807 < X1.size + S.size + 1 + 4 + D.size := by omega
   clear HR2
   go_wp2_with fail
   refine (wordS_any _ _ fr (HF.out.below hB2) (by omega) HK1.out S (by rw [dot_steps hfl.1 HK1.out, HS.out])).mono ?_
   rintro e3 w3 ⟨rfl, hb3⟩
   have q0 := oldc hb3 l2 q0
   have q2 := oldc hb3 l2 q2
   have q4 := oldc hb3 l2 q4
   have l3 : w.heap.size < w3.heap.size := Nat.lt_of_lt_of_le l2 hb3.size
   have hB3 : Below w.heap.size w w3 := hB2.trans (hb3.mono hB2.size)
   clear hb3 q3
   go_wp2_with fail
   refine (wordS_any _ _ tw (HW.out.below hB3) (by omega) HK2.out D (by rw [HD.out, HT.out])).mono ?_
   rintro e5 w5 ⟨rfl, hb5⟩
   have hB5 : Below w.heap.size w w5 := hB3.trans (hb5.mono hB3.size)
   clear hb5
   go_wp2
   go_ret
   exact ⟨by rw [← HF2.out]; rfl, hB5⟩
 exact AllReadyH.nil
set_option maxRecDepth 20000 in
set_option maxHeartbeats 8000000 in
theorem formatTrmS_any {z : Bool} {lo hi : Nat} (w : World) (y1 y2 : Value) (y : Trm) (h : Rd z lo hi w [y1, y2] y) (R : ByteArray) (hR : R = trmTxt y) : Calls Tryz.prog 12 #[.agg #[y1, y2]] w (PostV w (.string R)) := by
 obtain ⟨rs, es⟩ := y
 have HY := Lib.hid h
 obtain ⟨hy1, hy2⟩ := h.two rfl
 dsimp only at hy1 hy2
 obtain ⟨ra, rn, rcap, rfl, hrn, -⟩ := hy1.shape
 obtain ⟨ea, en, ecap, rfl, hen, -⟩ := hy2.shape
 subst hrn hen
 have HRS := Lib.hid hy1
 have HES := Lib.hid hy2
 obtain ⟨r1, hlet_r1⟩ : ∃ r, r = isTerm (rs, es) := ⟨_, rfl⟩
 have H1 := Lib.hid hlet_r1
 clear hlet_r1
 have HR := Lib.hid (show R = if r1 = true then entsT es (rulesT rs ⟨#[]⟩) else ⟨#[]⟩ by rw [hR, H1.out]; rfl)
 clear h hy1 hy2 hR
 go_enter Tryz.func12, Tryz.ntmps12
 go_wp2_with fail
 refine (isTermS_b _ _ _ rs es (HY.out.below bwT) r1 H1.out).mono ?_
 rintro e4 w4 ⟨rfl, hbw4⟩
 have hpw4 : Below w.heap.size w w4 := Below.after bwT hbw4 szT
 have sw4 := hpw4.size
 have hBw4 : Below w.heap.size w w4 := hpw4
 have l_y : w.heap.size < w4.heap.size := by have := hbw4.size; simp at this; omega
 have q_y0 : w4.cell? ⟨w.heap.size, 0, none⟩ = some (.slice ra rs.length rcap) := oldc hbw4 ltT (by simp [go_sem])
 have q_y1 : w4.cell? ⟨w.heap.size, 1, none⟩ = some (.slice ea es.length ecap) := oldc hbw4 ltT (by simp [go_sem])
 clear hbw4 hpw4
 cases r1
 ·obtain rfl : R = ⟨#[]⟩ := HR.out
  clear HR H1 HY HRS HES
  go_wp2
  go_ret
  exact ⟨rfl, hBw4⟩
 have hit := isTerm_facts H1.out.symm
 have hrl : rs.length ≤ 12 := (areRules_facts hit.1).1
 have hel : es.length ≤ 60 := hit.2.1
 have HNE := Lib.hid (show ∀ e ∈ es, nameOk e.2 = true from fun e he => (hit.2.2.1 e he).1)
 have HRF := Lib.hid (show R = entsT es (rulesT rs ⟨#[]⟩) from HR.out)
 obtain ⟨W1, hW1⟩ : ∃ W : World, W = w4 := ⟨_, rfl⟩
 subst hW1
 have hB1 : Below w.heap.size w W1 := hBw4
 have s1 := hB1.size
 have l1 : w.heap.size < W1.heap.size := l_y
 clear hit HR H1
 go_wp2
 go_loopw [3, 5, 14] (fun s3 _ s14 wr => ∃ i : Nat, i ≤ rs.length ∧ s14 = .int .i64 i ∧ s3 = .string (rulesT (rs.take i) ⟨#[]⟩) ∧ Below W1.heap.size W1 wr) (fun _ _ s14 _ => rs.length - (intOf s14).toNat)
 case atStart => exact ⟨0, Nat.zero_le _, rfl, rfl, Below.refl _ _⟩
 case round =>
  obtain ⟨wb, hwb⟩ : ∃ wm : World, wm = wr := ⟨_, rfl⟩
  subst hwb
  obtain ⟨i, hi, rfl, rfl, hbb⟩ := hrel
  have sB := hbb.size
  have hBb : Below w.heap.size w wb := hB1.trans (hbb.mono s1)
  obtain ⟨X, hX⟩ : ∃ X, X = rulesT (rs.take i) ⟨#[]⟩ := ⟨_, rfl⟩
  rw [← hX]
  have HX := Lib.hid hX
  have hXs : X.size ≤ 600 := by
   have := rulesT_size (rs.take i) ⟨#[]⟩
   rw [← hX, List.length_take, show (⟨#[]⟩ : ByteArray).size = 0 from rfl] at this; omega
  clear hX
  by_cases hli : i < rs.length
  ·have hIi : (i : Int) < (rs.length : Int) := by omega
   obtain ⟨rb, roff, nm, sx, pl, fr, tw, vfr, vtw, rfl, hx, c0, c1, c2, c3, c4, gnm, gsx, gpl, hfr, htw, hri, -, -, rbl⟩ := HRS.out.dRul_at hli
   obtain ⟨fao, fn, fcap, rfl, -⟩ := hfr.shape
   obtain ⟨tao, tn, tcap, rfl, -⟩ := htw.shape
   have k0 := oldc hBb rbl c0
   have k1 := oldc hBb rbl c1
   have k2 := oldc hBb rbl c2
   have k3 := oldc hBb rbl c3
   have k4 := oldc hBb rbl c4
   obtain ⟨F, hF⟩ : ∃ F, F = ruleTxt (nm, sx, pl, fr, tw) := ⟨_, rfl⟩
   have HFF := Lib.hid hF
   have hFs : F.size ≤ 40 := by rw [hF]; exact ruleTxt_size _
   have HX2 := Lib.hid (show X ++ ((⟨#[114, 117, 108, 101, 32]⟩ : ByteArray) ++ F ++ ⟨#[10]⟩) = rulesT (rs.take (i + 1)) ⟨#[]⟩ by rw [take_snoc hx.out, rulesT_snoc, ← HX.out, hF]; rfl)
   have HRI := Lib.hid hri
   clear hF c0 c1 c2 c3 c4 hx hfr htw hri gnm gsx gpl
   go_wp2_with fail
   refine (formatRuleS_any _ _ _ _ _ _ (nm, sx, pl, fr, tw) (HRI.out.below ?b1) F HFF.out).mono ?_
   case b1 => exact bwT
   rintro e3 w3 ⟨rfl, hb3⟩
   have hb13 : Below W1.heap.size W1 w3 := Below.trans (show Below W1.heap.size W1 _ from bwT) (hb3.mono szT)
   clear hb3
   have d1 : ¬ 9223372036854775807 < X.size + 5 := by omega
   have d2 : ¬ 9223372036854775807 < X.size + 5 + F.size := by omega
   have d3 : ¬ 9223372036854775807 < X.size + 5 + F.size + 1 := by omega
   have HX3 := Lib.hid (show X ++ ⟨#[114, 117, 108, 101, 32]⟩ ++ F ++ ⟨#[10]⟩ = rulesT (rs.take (i + 1)) ⟨#[]⟩ by rw [← HX2.out]; simp only [ByteArray.append_assoc])
   go_wp2
   rw [HX3.out]
   go_roundw
   case rel => exact ⟨i + 1, by omega, by go_num, rfl, hb13⟩
   case measure => simp [intOf]; omega
  ·obtain rfl : i = rs.length := by omega
   have nI : ¬ (rs.length : Int) < (rs.length : Int) := by omega
   rw [List.take_length] at HX
   have p1 := oldc hbb l1 q_y1
   have lb : w.heap.size < wb.heap.size := by omega
   go_wp2
   go_loopw [3, 7, 28] (fun s3 _ s28 wr => ∃ i : Nat, i ≤ es.length ∧ s28 = .int .i64 i ∧ s3 = .string (entsT (es.take i) X) ∧ Below wb.heap.size wb wr) (fun _ _ s28 _ => es.length - (intOf s28).toNat)
   case atStart => exact ⟨0, Nat.zero_le _, rfl, rfl, Below.refl _ _⟩
   case round =>
    obtain ⟨wc, hwc⟩ : ∃ wm : World, wm = wr := ⟨_, rfl⟩
    subst hwc
    obtain ⟨i, hi, rfl, rfl, hbc⟩ := hrel
    have sC := hbc.size
    have hBc : Below w.heap.size w wc := hBb.trans (hbc.mono hBb.size)
    obtain ⟨Y, hY⟩ : ∃ Y, Y = entsT (es.take i) X := ⟨_, rfl⟩
    rw [← hY]
    have HYY := Lib.hid hY
    have hYs : Y.size ≤ 3000 := by
     have := entsT_size (es.take i) X (fun e he => HNE.out e (List.mem_of_mem_take he))
     rw [← hY, List.length_take] at this; omega
    clear hY
    by_cases hli : i < es.length
    ·have hIi : (i : Int) < (es.length : Int) := by omega
     obtain ⟨tb, toff, te, tl, tm, vtl, rfl, hx, c0, c1, c2, hti, htm, hvs, hrt, -, -, tlt⟩ := HES.out.dEnt_at hli
     obtain ⟨sao, sn, scap, rfl, -⟩ := hvs.shape
     have k0 := oldc hBc tlt c0
     have k1 := oldc hBc tlt c1
     have k2 := oldc hBc tlt c2
     obtain ⟨F, hF⟩ : ∃ F, F = kinTxt (te, tl) := ⟨_, rfl⟩
     have HFF := Lib.hid hF
     have hFs : F.size ≤ 20 := by rw [hF]; exact kinTxt_size _
     have htms : tm.size ≤ 12 := name_size (HNE.out _ (List.mem_of_getElem? hx.out))
     have HX2 := Lib.hid (show Y ++ ((⟨#[116, 101, 114, 109, 32]⟩ : ByteArray) ++ F ++ ⟨#[32]⟩ ++ tm ++ ⟨#[10]⟩) = entsT (es.take (i + 1)) X by rw [take_snoc hx.out, entsT_snoc, ← HYY.out, hF]; rfl)
     have HRT := Lib.hid (hrt.part_ty)
     clear hF c0 c1 c2 hx hti htm hvs hrt
     obtain ⟨WA, hWA⟩ : ∃ W : World, W = wc.alloc (.cells #[.int .i64 te, .slice sao sn scap, .string tm] 43) := ⟨_, rfl⟩
     have hbA : Below wc.heap.size wc WA := by subst hWA; exact bwT
     have a0 : WA.cell? ⟨wc.heap.size, 0, none⟩ = some (.int .i64 te) := by subst hWA; simp [go_sem]
     have a1 : WA.cell? ⟨wc.heap.size, 1, none⟩ = some (.slice sao sn scap) := by subst hWA; simp [go_sem]
     have a2 : WA.cell? ⟨wc.heap.size, 2, none⟩ = some (.string tm) := by subst hWA; simp [go_sem]
     have lA : wc.heap.size < WA.heap.size := by subst hWA; simp
     have hBA : Below w.heap.size w WA := hBc.trans (hbA.mono hBc.size)
     have hcA : Below wb.heap.size wb WA := hbc.trans (hbA.mono sC)
     have d1 : ¬ 9223372036854775807 < Y.size + 5 := by omega
     have d2 : ¬ 9223372036854775807 < Y.size + 5 + F.size := by omega
     have d3 : ¬ 9223372036854775807 < Y.size + 5 + F.size + 1 := by omega
     have d4 : ¬ 9223372036854775807 < Y.size + 5 + F.size + 1 + tm.size := by omega
     have d5 : ¬ 9223372036854775807 < Y.size + 5 + F.size + 1 + tm.size + 1 := by omega
     go_upto_region 12 with fail
     rw [← hWA]
     clear hWA
     refine wp_region_held_drew (S := (fun w' => w'.cell? ⟨wc.heap.size, 0, none⟩ = some (.int .i64 te) ∧ w'.cell? ⟨wc.heap.size, 1, none⟩ = some (.slice sao sn scap) ∧ w'.cell? ⟨wc.heap.size, 2, none⟩ = some (.string tm))) (by kernel_rfl) ?_ (fun hHeld => ?_)
     ·first | exact trivial | ((try dsimp only); go_keep)
     refine tkA 0 ?_
     try simp only [Act.put, cA, cB, cC]
     refine tkA 2 ?_
     try simp only [Act.put, cA, cB, cC]
     refine tkA 7 ?_
     try simp only [Act.put, cA, cB, cC]
     refine tkA 1 ?_
     try simp only [Act.put, cA, cB, cC]
     refine tkA 3 ?_
     try simp only [Act.put, cA, cB, cC]
     refine tkA 8 ?_
     try simp only [Act.put, cA, cB, cC]
     refine wpAnyH_ready (rs := [4]) (by kernel_rfl) (by simp) ?_
     refine rdR (fun K hK => ?_) ?_
     ·go_simp
      refine (formatS_any _ _ _ (te, tl) (HRT.out.below ?b1)).mono ?_
      case b1 => exact bwT
      rw [← HFF.out]
      rintro e5 w5 ⟨rfl, hb5⟩
      have hp5 : Below WA.heap.size WA w5 := Below.trans (show Below WA.heap.size WA _ from bwT) (hb5.mono szT)
      have hS5 := And.intro (oldc hp5 lA a0) (And.intro (oldc hp5 lA a1) (oldc hp5 lA a2))
      clear hb5
      refine hK.out _ _ ?_ (fun hHeld => ?_)
      ·exact kpT
      clear hK K
      try simp only [Act.put, cA, cB, cC]
      refine tkA 5 ?_
      try simp only [Act.put, cA, cB, cC]
      refine tkA 6 ?_
      try simp only [Act.put, cA, cB, cC]
      refine tkA 9 ?_
      try simp only [Act.put, cA, cB, cC]
      refine tkA 10 ?_
      try simp only [Act.put, cA, cB, cC]
      refine tkA 11 ?_
      try simp only [Act.put, cA, cB, cC]
      refine wpAnyH_done (by kernel_rfl) ?_ _
      have HX3 := Lib.hid (show Y ++ ⟨#[116, 101, 114, 109, 32]⟩ ++ F ++ ⟨#[32]⟩ ++ tm ++ ⟨#[10]⟩ = entsT (es.take (i + 1)) X by rw [← HX2.out]; simp only [ByteArray.append_assoc])
      rw [HX3.out]
      go_wp2
      go_roundw
      case rel => exact ⟨i + 1, by omega, by go_num, rfl, hcA.trans (hp5.mono hcA.size)⟩
      case measure => simp [intOf]; omega
     exact AllReadyH.nil
    ·obtain rfl : i = es.length := by omega
     have nI2 : ¬ (es.length : Int) < (es.length : Int) := by omega
     rw [List.take_length] at HYY
     have HF := Lib.hid (show Y = R by rw [HYY.out, HX.out, HRF.out])
     go_wp2
     go_ret
     exact ⟨by rw [← HF.out]; rfl, hBc⟩
end Go.Proofs.YtdpkldapobbnpaaGreatDoor
