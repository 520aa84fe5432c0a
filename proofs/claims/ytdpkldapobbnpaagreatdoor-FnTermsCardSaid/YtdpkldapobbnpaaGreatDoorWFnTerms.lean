/- The walk of the law FnTerms. Written by tms_gen.py. -/
import Derived.Test.YtdpkldapobbnpaaGreatDoorEndM
namespace Go.Proofs.YtdpkldapobbnpaaGreatDoor
set_option linter.unusedVariables false
set_option linter.unusedSimpArgs false
open Go.RowKit
set_option maxRecDepth 20000 in
set_option maxHeartbeats 40000000 in
theorem walk_FnTerms (w : World) (c0a : Value) (code : List UInt8) (h0 : Rd false 0 w.heap.size w [c0a] code) (m : Int) (hm : w.cell? ⟨0, 0, none⟩ = some (.int .i64 m)) (hgl : 0 < w.heap.size) :
  Calls Tryz.prog 4 #[c0a] w (PostB w true) := by
 obtain ⟨ao0, len0, cap0, hcs0, hln0, hcn0, hcm0, -⟩ := h0.shape
 subst hcs0
 subst hln0
 unfold maxLen at hcm0
 have hle0 : code.length ≤ 9223372036854775807 := by omega
 clear hcm0 hcn0
 by_cases hg0 : 1048576 < code.length
 ·go_enter Tryz.func4, Tryz.ntmps4
  go_wp2
  go_ret
  exact ⟨rfl, bwT⟩
 have hq1 : code.length ≤ 1048576 := by omega
 have HC0 := Lib.hid h0
 clear h0 hg0
 go_enter Tryz.func4, Tryz.ntmps4
 go_wp2_with fail
 refine (makeTerms_any _ _ code HC0.out hq1).mono ?_
 rintro e1 w1 ⟨ya, yb, y, rfl, hy, HTY, hb1⟩
 have hB1 : Below w.heap.size w w1 := hb1
 have s1 := hB1.size
 obtain ⟨rao, rn, rcap, eao, en, ecap, rfl, rfl⟩ := shapeTrm hy
 obtain ⟨hyr, hye⟩ := hy.trm
 obtain ⟨_, _, _, er, hrn, -⟩ := hyr.shape
 obtain ⟨_, _, _, ee, hen, -⟩ := hye.shape
 simp only [Value.slice.injEq] at er ee
 obtain ⟨rfl, rfl, rfl⟩ := er
 obtain ⟨rfl, rfl, rfl⟩ := ee
 subst hrn
 subst hen
 have hes : y.2.length ≤ 60 := (isTerm_facts HTY.out).2.1
 have HY := Lib.hid hy
 have HYR := Lib.hid hyr
 have HYE := Lib.hid hye
 obtain ⟨X, hX⟩ : ∃ X, X = trmTxt y := ⟨_, rfl⟩
 have HX := Lib.hid hX
 have hXX : (X.toList != X.toList) = false := by simp
 clear hb1 hy hyr hye hX
 go_wp2_with fail
 refine (formatTrmI_any _ _ _ y (HY.out.below bwT) X HX.out).mono ?_
 rintro e2 w2 ⟨rfl, hb2⟩
 have hp2 : Below w1.heap.size w1 w2 := Below.after bwT hb2 szT
 have s2 := hp2.size
 have y0 : w2.cell? ⟨w1.heap.size, 0, none⟩ = some (.slice rao y.1.length rcap) := oldc hb2 ltT (by simp [go_sem])
 have y1 : w2.cell? ⟨w1.heap.size, 1, none⟩ = some (.slice eao y.2.length ecap) := oldc hb2 ltT (by simp [go_sem])
 have ly : w1.heap.size < w2.heap.size := by have := hb2.size; simp at this; omega
 clear hb2
 go_wp2_with fail
 refine (parseBack_any _ m (oldc (hB1.trans (hp2.mono s1)) hgl hm) (by omega) y HTY.out X HX.out).mono ?_
 rintro e3 w3 ⟨za, zb, rfl, hoz, hb3⟩
 have hp3 : Below w1.heap.size w1 w3 := hp2.trans (hb3.mono s2)
 have s3 := hp3.size
 have y0 := oldc hb3 ly y0
 have y1 := oldc hb3 ly y1
 have ly : w1.heap.size < w3.heap.size := Nat.lt_of_lt_of_le ly hb3.size
 obtain ⟨zao, zn, zcap, zeo, zen, zec, rfl, rfl⟩ := shapeTrm hoz.rd
 have HZ := Lib.hid hoz.rd
 clear hb3 hoz hp2 s2
 obtain ⟨W3, hW3⟩ : ∃ W : World, W = w3.alloc (.cells #[.slice zao zn zcap, .slice zeo zen zec] 25) := ⟨_, rfl⟩
 have hB33 : Below w3.heap.size w3 W3 := by rw [hW3]; exact bwT
 have z0 : W3.cell? ⟨w3.heap.size, 0, none⟩ = some (.slice zao zn zcap) := by rw [hW3]; simp [go_sem]
 have z1 : W3.cell? ⟨w3.heap.size, 1, none⟩ = some (.slice zeo zen zec) := by rw [hW3]; simp [go_sem]
 have lz : w3.heap.size < W3.heap.size := by rw [hW3]; simp
 have y0 := oldc hB33 ly y0
 have y1 := oldc hB33 ly y1
 have hp4 : Below w1.heap.size w1 W3 := hp3.trans (hB33.mono s3)
 have s4 := hp4.size
 have ly : w1.heap.size < W3.heap.size := by omega
 have HZ := Lib.hid (HZ.out.below hB33)
 have HY4 := Lib.hid (HY.out.below hp4)
 go_upto_region 5 with fail
 rw [← hW3]
 clear hW3 hB33 hp3 s3
 go_cut [33] (fun s33 wx => s33 = .bool false ∧ Below W3.heap.size W3 wx)
 case first =>
  refine wp_region_held_drew (S := (fun w' => w'.cell? ⟨w3.heap.size, 0, none⟩ = some (.slice zao zn zcap) ∧ w'.cell? ⟨w3.heap.size, 1, none⟩ = some (.slice zeo zen zec) ∧ w'.cell? ⟨w1.heap.size, 0, none⟩ = some (.slice rao y.1.length rcap) ∧ w'.cell? ⟨w1.heap.size, 1, none⟩ = some (.slice eao y.2.length ecap))) (by kernel_rfl) ?_ (fun hHeld => ?_)
  ·first | exact trivial | ((try dsimp only); go_keep)
  refine tkA 0 ?_
  try simp only [Act.put, cA, cB, cC]
  refine tkA 1 ?_
  try simp only [Act.put, cA, cB, cC]
  refine tkA 2 ?_
  try simp only [Act.put, cA, cB, cC]
  refine tkA 3 ?_
  try simp only [Act.put, cA, cB, cC]
  refine tkA 5 ?_
  try simp only [Act.put, cA, cB, cC]
  refine wpAnyH_ready (rs := [4]) (by kernel_rfl) (by simp) ?_
  refine rdR (fun K hK => ?_) ?_
  ·go_simp
   refine (formatTrmS_any _ _ _ y (HZ.out.below ?b1) X HX.out).mono ?_
   case b1 => exact bwT
   rintro e5 w5 ⟨rfl, hb5⟩
   have hp5 : Below W3.heap.size W3 w5 := Below.trans (show Below W3.heap.size W3 _ from bwT) (hb5.mono szT)
   have hS5 := And.intro (oldc hp5 lz z0) (And.intro (oldc hp5 lz z1) (And.intro (oldc hp5 ly y0) (oldc hp5 ly y1)))
   refine hK.out _ _ ?_ (fun hHeld => ?_)
   ·exact kpT
   clear hK K
   try simp only [Act.put, cA, cB, cC]
   refine wpAnyH_ready (rs := [6]) (by kernel_rfl) (by simp) ?_
   refine rdR (fun K hK => ?_) ?_
   ·go_simp
    refine (formatTrmS_any _ _ _ y (HY4.out.below ?b1) X HX.out).mono ?_
    case b1 => exact bwT
    rintro e6 w6 ⟨rfl, hb6⟩
    have hp6 : Below W3.heap.size W3 w6 := hp5.trans (Below.trans (show Below w5.heap.size w5 _ from bwT) (hb6.mono szT) |>.mono hp5.size)
    have hS6 := And.intro (oldc hp6 lz z0) (And.intro (oldc hp6 lz z1) (And.intro (oldc hp6 ly y0) (oldc hp6 ly y1)))
    refine hK.out _ _ ?_ (fun hHeld => ?_)
    ·exact kpT
    clear hK K
    try simp only [Act.put, cA, cB, cC]
    refine tkA 7 ?_
    try simp only [Act.put, cA, cB, cC]
    refine tkA 8 ?_
    try simp only [Act.put, cA, cB, cC]
    refine wpAnyH_done (by kernel_rfl) ?_ _
    go_wp2_with fail
    go_meet
    exact ⟨rfl, hp6⟩
   exact AllReadyH.nil
  exact AllReadyH.nil
 case rest =>
  obtain ⟨W5, hW5⟩ : ∃ W : World, W = wc := ⟨_, rfl⟩
  subst hW5
  obtain ⟨rfl, hb5⟩ := hcut
  have hp5 : Below w1.heap.size w1 W5 := hp4.trans (hb5.mono s4)
  have s5 := hp5.size
  have y0 := oldc hb5 ly y0
  have y1 := oldc hb5 ly y1
  have ly : w1.heap.size < W5.heap.size := Nat.lt_of_lt_of_le ly hb5.size
  clear hb5 hp4 s4 z0 z1 lz HZ HY4 hXX HX
  go_wp2_with fail
  refine (fresh_any _ _ code (HC0.out.below (hB1.trans (hp5.mono s1))) hq1 3 (by omega) (by omega)).mono ?_
  rintro e6 w6 ⟨u, cs, rfl, hou, hcl, hb6⟩
  have hp6 : Below w1.heap.size w1 w6 := hp5.trans (hb6.mono s5)
  have s6 := hp6.size
  have y0 := oldc hb6 ly y0
  have y1 := oldc hb6 ly y1
  have ly : w1.heap.size < w6.heap.size := Nat.lt_of_lt_of_le ly hb6.size
  have HU := Lib.hid hou.rd
  clear hb6 hou hp5 s5
  go_wp2_with fail
  refine (makeType_any _ _ cs HU.out (by omega) 4 (by omega) (by omega)).mono ?_
  rintro e7 w7 ⟨tb, t, rfl, hot, hkt, hb7⟩
  have hp7 : Below w1.heap.size w1 w7 := hp6.trans (hb7.mono s6)
  have s7 := hp7.size
  have y0 := oldc hb7 ly y0
  have y1 := oldc hb7 ly y1
  have ly : w1.heap.size < w7.heap.size := Nat.lt_of_lt_of_le ly hb7.size
  obtain ⟨-, -, hts⟩ := hot.rd.kin
  obtain ⟨tao, tn, tcap, rfl, htn, -⟩ := hts.shape
  subst htn
  have HT := Lib.hid hot.rd
  have HKT := Lib.hid hkt.out.1
  obtain ⟨T, hT⟩ : ∃ T, T = tmText (tmO y t) := ⟨_, rfl⟩
  have HTT := Lib.hid hT
  obtain ⟨b, hlet_b⟩ : ∃ r, r = (tmO y t).isSome := ⟨_, rfl⟩
  have HB := Lib.hid hlet_b
  clear hlet_b
  have HTN := Lib.hid (show T = tmText (tmO y (nf y.1 t)) by rw [tmO_nf HTY.out HKT.out]; exact hT)
  have HBN := Lib.hid (show b = (tmO y (nf y.1 t)).isSome by rw [tmO_nf HTY.out HKT.out]; exact HB.out)
  have hTT : (T.toList != T.toList) = false := by simp
  have hbb : (b != b) = false := by simp
  clear hb7 hot hkt hts hT HU hp6 s6
  go_wp2_with fail
  refine (termForI_x _ _ _ _ _ y t (HY.out.below (hp7.trans bwT)) (HT.out.below bwT) T HTT.out b HB.out).mono ?_
  rintro e8 w8 ⟨rfl, hb8⟩
  have hp8 : Below w7.heap.size w7 w8 := Below.after bwT hb8 szT
  have t0 : w8.cell? ⟨w7.heap.size, 0, none⟩ = some (.int .i64 t.1) := oldc hb8 ltT (by simp [go_sem])
  have t1 : w8.cell? ⟨w7.heap.size, 1, none⟩ = some (.slice tao t.2.length tcap) := oldc hb8 ltT (by simp [go_sem])
  have lt : w7.heap.size < w8.heap.size := by have := hb8.size; simp at this; omega
  have y0 := oldc hp8 ly y0
  have y1 := oldc hp8 ly y1
  have ly : w1.heap.size < w8.heap.size := by omega
  have hp18 : Below w1.heap.size w1 w8 := hp7.trans (hp8.mono s7)
  have s8 := hp18.size
  have HT8 := Lib.hid (HT.out.below hp8)
  have HY8 := Lib.hid (HY.out.below hp18)
  have HR8 := Lib.hid (HYR.out.below hp18)
  have HAR := Lib.hid (isTerm_facts HTY.out).1
  clear hb8 hp8 hp7 s7 HT
  go_upto_region 9 with fail
  refine wp_region_held_drew (S := (fun w' => w'.cell? ⟨w1.heap.size, 0, none⟩ = some (.slice rao y.1.length rcap) ∧ w'.cell? ⟨w1.heap.size, 1, none⟩ = some (.slice eao y.2.length ecap) ∧ w'.cell? ⟨w7.heap.size, 0, none⟩ = some (.int .i64 t.1) ∧ w'.cell? ⟨w7.heap.size, 1, none⟩ = some (.slice tao t.2.length tcap))) (by kernel_rfl) ?_ (fun hHeld => ?_)
  ·first | exact trivial | ((try dsimp only); go_keep)
  refine tkA 0 ?_
  try simp only [Act.put, cA, cB, cC]
  refine tkA 1 ?_
  try simp only [Act.put, cA, cB, cC]
  refine tkA 3 ?_
  try simp only [Act.put, cA, cB, cC]
  refine tkA 2 ?_
  try simp only [Act.put, cA, cB, cC]
  refine wpAnyH_ready (rs := [4]) (by kernel_rfl) (by simp) ?_
  refine rdR (fun K hK => ?_) ?_
  ·go_simp
   refine (normalFormI_k _ _ _ _ y.1 t (HR8.out.below ?b1) (HT8.out.below ?b2) HAR.out HKT.out).mono ?_
   case b1 => exact bwT
   case b2 => exact bwT
   rintro e9 w9 ⟨na, nb, rfl, hon, hb9⟩
   have hp9 : Below w8.heap.size w8 w9 := Below.trans (show Below w8.heap.size w8 _ from bwT) (hb9.mono szT)
   have hS9 := And.intro (oldc hp9 ly y0) (And.intro (oldc hp9 ly y1) (And.intro (oldc hp9 lt t0) (oldc hp9 lt t1)))
   have HN := Lib.hid hon.rd
   clear hon hb9
   refine hK.out _ _ ?_ (fun hHeld => ?_)
   ·exact kpT
   clear hK K
   try simp only [Act.put, cA, cB, cC]
   refine wpAnyH_ready (rs := [5]) (by kernel_rfl) (by simp) ?_
   refine rdR (fun K hK => ?_) ?_
   ·go_simp
    refine (termForI_x _ _ _ _ _ y (nf y.1 t) (HY8.out.below ?b1) (HN.out.below ?b2) T HTN.out b HBN.out).mono ?_
    case b1 => exact hp9.trans bwT
    case b2 => exact bwT
    rintro e10 w10 ⟨rfl, hb10⟩
    have hp10 : Below w8.heap.size w8 w10 := hp9.trans ((Below.trans (show Below w9.heap.size w9 _ from bwT) (hb10.mono szT)).mono hp9.size)
    have hS10 := And.intro (oldc hp10 ly y0) (And.intro (oldc hp10 ly y1) (And.intro (oldc hp10 lt t0) (oldc hp10 lt t1)))
    clear hb10
    refine hK.out _ _ ?_ (fun hHeld => ?_)
    ·exact kpT
    clear hK K
    try simp only [Act.put, cA, cB, cC]
    refine tkA 6 ?_
    try simp only [Act.put, cA, cB, cC]
    refine tkA 7 ?_
    try simp only [Act.put, cA, cB, cC]
    refine tkA 8 ?_
    try simp only [Act.put, cA, cB, cC]
    refine tkA 9 ?_
    try simp only [Act.put, cA, cB, cC]
    refine tkA 10 ?_
    try simp only [Act.put, cA, cB, cC]
    refine wpAnyH_done (by kernel_rfl) ?_ _
    have y0 := oldc hp10 ly y0
    have y1 := oldc hp10 ly y1
    have ly : w1.heap.size < w10.heap.size := Nat.lt_of_lt_of_le ly hp10.size
    have hp11 : Below w1.heap.size w1 w10 := hp18.trans (hp10.mono s8)
    have s11 := hp11.size
    have HYA := Lib.hid (HY.out.below hp11)
    have HRA := Lib.hid (HYR.out.below hp11)
    have HEA := Lib.hid (HYE.out.below hp11)
    have hB11 : Below w.heap.size w w10 := hB1.trans (hp11.mono s1)
    clear hS9 hS10 hp10 hp9 HN HY8 HR8 HT8 t0 t1 lt hp18 s8 HTT HB HTN HBN
    go_wp2
    go_loopw [13, 66] (fun _ s66 wr => ∃ (i : Nat) (xv : Value), i ≤ y.2.length ∧ s66 = .int .i64 i ∧ Hid (XB w10.heap.size w10 (.slice rao y.1.length rcap) xv (renE (y.2.take i)) wr) ∧ Hid (∀ e ∈ y.2.take i, e.2.size < 12)) (fun _ s66 _ => y.2.length - (intOf s66).toNat)
    case atStart => exact ⟨0, _, Nat.zero_le _, rfl, Lib.hid ⟨by simp [go_sem], by simp [go_sem], by intro o; simp [go_sem], by simp, GE.nil _ _ _ _, bwT⟩, Lib.hid (by simp)⟩
    case round =>
     obtain ⟨wb, hwb⟩ : ∃ wm : World, wm = wr := ⟨_, rfl⟩
     subst hwb
     obtain ⟨i, xv, hi1, rfl, HX, HL⟩ := hrel
     obtain ⟨xao, xcap, hxv⟩ := HX.out.ge.len
     obtain ⟨xn, hxn⟩ : ∃ n, n = (renE (y.2.take i)).length := ⟨_, rfl⟩
     rw [← hxn] at hxv
     subst hxv
     have hxi : xn ≤ 60 := by rw [hxn]; unfold renE; rw [List.length_map, List.length_take]; omega
     have HXN := Lib.hid hxn
     clear hxn
     have hbb := HX.out.below
     have q0 := HX.out.q0
     have q1 := HX.out.q1
     have qf := HX.out.fr
     have lx := HX.out.lt
     have y0 := oldc hbb ly y0
     have y1 := oldc hbb ly y1
     have sbb := hbb.size
     by_cases hli : i < y.2.length
     ·have hI : (i : Int) < (y.2.length : Int) := by omega
      obtain ⟨b, off, tye, tyl, tm, vtyl, hao, hx, c0, c1, c2, gI, gS, htl, -, -, -, hbl⟩ := (HEA.out.below hbb).dEnt_at hli
      subst hao
      obtain ⟨lao, ln, lcap, rfl, -⟩ := htl.shape
      have HE := Lib.hid hx.out
      have HTL := Lib.hid htl
      have HI := Lib.hid gI
      clear hx htl gI
      by_cases htm : 12 ≤ tm.size
      ·have htmI : (12 : Int) ≤ (tm.size : Int) := by omega
       clear HX HL
       go_wp2
       go_ret
       exact ⟨rfl, hB11.trans ((show Below w10.heap.size w10 _ from hbb.trans (show Below w10.heap.size wb _ from bwT)).mono hB11.size)⟩
      have htmI : ¬ (12 : Int) ≤ (tm.size : Int) := by omega
      have HL2 := Lib.hid (show ∀ e ∈ y.2.take (i + 1), e.2.size < 12 from fun e he => by
       rw [take_snoc HE.out] at he
       rcases List.mem_append.1 he with he | he
       ·exact HL.out e he
       ·rw [List.mem_singleton.1 he]; show tm.size < 12; omega)
      obtain ⟨WE, hWE⟩ : ∃ W : World, W = wb.alloc (.cells #[.int .i64 tye, .slice lao ln lcap, .string tm] 43) := ⟨_, rfl⟩
      have hBE : Below wb.heap.size wb WE := by rw [hWE]; exact bwT
      have e0 : WE.cell? ⟨wb.heap.size, 0, none⟩ = some (.int .i64 tye) := by rw [hWE]; simp [go_sem]
      have e1 : WE.cell? ⟨wb.heap.size, 1, none⟩ = some (.slice lao ln lcap) := by rw [hWE]; simp [go_sem]
      have e2 : WE.cell? ⟨wb.heap.size, 2, none⟩ = some (.string tm) := by rw [hWE]; simp [go_sem]
      have le : wb.heap.size < WE.heap.size := by rw [hWE]; simp
      have q0 := oldc hBE lx q0
      have q1 := oldc hBE lx q1
      have qf : ∀ o, WE.frozen? ⟨w10.heap.size, o, none⟩ = false := fun o => (hBE.frozen (p := ⟨w10.heap.size, o, none⟩) lx).trans (qf o)
      have lxE := Nat.lt_of_lt_of_le lx hBE.size
      have HIT := Lib.hid (show RdS (fun b => b < w10.heap.size ∧ some b ≠ (Value.slice xao xn xcap).ownBlock) WE [.int .i64 tye, .slice lao ln lcap, .string (qT tm)] (((tye, tyl), qT tm) : Ent) from
       RdS.ent2 ((HTL.out.rds (S := fun b => b < w10.heap.size ∧ some b ≠ (Value.slice xao xn xcap).ownBlock) (fun b _ h2 => ⟨by omega, fun e => by have := (HX.out.ge.own e.symm).1; omega⟩)).below hBE) HI.out (by
        unfold maxLen qT
        rw [ByteArray.size_append]
        show 1 + tm.size ≤ _
        omega))
      go_upto_region 16 with fail
      rw [← hWE]
      clear hWE c0 c1 c2 HTL HI
      go_wp2_with (at_builtin; refine wpList_app (v := .slice xao xn xcap) (u := .slice (some ⟨WE.heap.size, 0, none⟩) 1 1) rfl rfl rfl rfl (run_one_h slEntry (by show (0 : Nat) < 3; omega) (GE.keep HX.out.ge (w' := WE.alloc (.cells #[.int .i64 tye, .slice lao ln lcap, .string ((⟨#[113]⟩ : ByteArray) ++ tm)] 43)) (fun b hb _ => (hBE.trans (Below.mono (show Below WE.heap.size WE _ from bwT) hBE.size)).block b hb)) (y := (((tye, tyl), qT tm) : Ent)) ?c1 (HIT.out.below bwT) ?c2 ?c3 ?c4) ?_)
      case c1 =>
       intro j u hj
       (match j, hj with | 0, hj => (simp at hj; subst hj; simp [go_sem]) | 1, hj => (simp at hj; subst hj; simp [go_sem]) | 2, hj => (simp at hj; subst hj; simp [go_sem, qT]))
      case c2 => rw [← HXN.out]; unfold maxLen; omega
      case c3 => rw [← HXN.out]; omega
      case c4 => first | omega | (simp; omega)
      rintro v' w11 hGB
      obtain ⟨hG, hB⟩ := hGB.out
      have hBA : Below wb.heap.size wb (WE.alloc (.cells #[.int .i64 tye, .slice lao ln lcap, .string ((⟨#[113]⟩ : ByteArray) ++ tm)] 43)) := hBE.trans (Below.mono (show Below WE.heap.size WE _ from bwT) hBE.size)
      obtain ⟨zao, zcap, hz⟩ := hG.len
      obtain ⟨zn, hzn⟩ : ∃ n, n = (renE (y.2.take i) ++ [(((tye, tyl), qT tm) : Ent)]).length := ⟨_, rfl⟩
      rw [← hzn] at hz
      subst hz
      clear hzn
      have HX2 := Lib.hid (HX.out.push hBA hG hB)
      have hBK : Below (w10.heap.size + 1) wb w11 := (hBA.mono (by omega)).trans hB
      have q0 := oldc hBK (Nat.lt_succ_self _) HX.out.q0
      have q1 := oldc hBK (Nat.lt_succ_self _) HX.out.q1
      have qf : ∀ o, w11.frozen? ⟨w10.heap.size, o, none⟩ = false := fun o => (hBK.frozen (p := ⟨w10.heap.size, o, none⟩) (Nat.lt_succ_self _)).trans (HX.out.fr o)
      have lx11 : w10.heap.size < w11.heap.size := Nat.lt_of_lt_of_le lx hBK.size
      clear hG hB hGB hBA hBK HIT e0 e1 e2 HX
      go_wp2
      go_roundw
      case rel => exact ⟨i + 1, _, by omega, by go_num, Lib.hid (by rw [ren_snoc HE.out]; exact HX2.out), HL2⟩
      case measure => simp [intOf]; omega
     ·have hie : i = y.2.length := by omega
      subst hie
      have hI : ¬ ((y.2.length : Nat) : Int) < ((y.2.length : Nat) : Int) := by omega
      have HL3 := Lib.hid (show ∀ e ∈ y.2, e.2.size < 12 from fun e he => HL.out e (by rw [List.take_length]; exact he))
      have HDV := Lib.hid (ren_div HTY.out HL3.out (n := 2) (by omega) (by omega)).1.symm
      have HDW := Lib.hid (ren_div HTY.out HL3.out (n := 1) (by omega) (by omega)).2.symm
      obtain ⟨r, hlet_r⟩ : ∃ r, r = isRecip y 2 := ⟨_, rfl⟩
      have HR1 := Lib.hid hlet_r
      clear hlet_r
      have HR2 := Lib.hid (show r = isRecip (ren y) 2 by rw [ren_recip HTY.out HL3.out]; exact HR1.out)
      have hrr : (r == r) = true := by simp
      have HXR := Lib.hid (show Rd false 0 wb.heap.size wb [.slice rao y.1.length rcap, .slice xao xn xcap] (ren y) from
       Rd.pair (((HRA.out.below hbb).mono (Nat.le_refl _) (by omega))) (by have := HX.out.ge.rd; rw [List.take_length] at this; exact this))
      have HYB := Lib.hid (HYA.out.below hbb)
      have hBb := hB11.trans (hbb.mono hB11.size)
      have lyb : w1.heap.size < wb.heap.size := by omega
      clear HX HL qf HEA HRA HYA hbb
      go_upto_region 20 with fail
      refine wp_region_held_drew (S := (fun w' => w'.cell? ⟨w1.heap.size, 0, none⟩ = some (.slice rao y.1.length rcap) ∧ w'.cell? ⟨w1.heap.size, 1, none⟩ = some (.slice eao y.2.length ecap) ∧ w'.cell? ⟨w10.heap.size, 0, none⟩ = some (.slice rao y.1.length rcap) ∧ w'.cell? ⟨w10.heap.size, 1, none⟩ = some (.slice xao xn xcap))) (by kernel_rfl) ?_ (fun hHeld => ?_)
      ·first | exact trivial | ((try dsimp only); go_keep)
      refine tkA 0 ?_
      try simp only [Act.put, cA, cB, cC]
      refine tkA 1 ?_
      try simp only [Act.put, cA, cB, cC]
      refine wpAnyH_ready (rs := [2]) (by kernel_rfl) (by simp) ?_
      refine rdR (fun K hK => ?_) ?_
      ·go_simp
       refine (sameDivI_b _ _ _ _ _ y (ren y) (HYB.out.below ?b1) (HXR.out.below ?b2) 2 true HDV.out).mono ?_
       case b1 => exact bwT
       case b2 => exact bwT
       rintro e20 w20 ⟨rfl, hb20⟩
       have hp20 : Below wb.heap.size wb w20 := Below.trans (show Below wb.heap.size wb _ from bwT) (hb20.mono szT)
       have hS20 := And.intro (oldc hp20 lyb y0) (And.intro (oldc hp20 lyb y1) (And.intro (oldc hp20 lx q0) (oldc hp20 lx q1)))
       clear hb20
       refine hK.out _ _ ?_ (fun hHeld => ?_)
       ·exact kpT
       clear hK K
       try simp only [Act.put, cA, cB, cC]
       refine tkA 3 ?_
       try simp only [Act.put, cA, cB, cC]
       refine tkA 4 ?_
       try simp only [Act.put, cA, cB, cC]
       refine tkA 5 ?_
       try simp only [Act.put, cA, cB, cC]
       refine wpAnyH_ready (rs := [6]) (by kernel_rfl) (by simp) ?_
       refine rdR (fun K hK => ?_) ?_
       ·go_simp
        refine (sameDivI_b _ _ _ _ _ (ren y) y (HXR.out.below ?b1) (HYB.out.below ?b2) 1 true HDW.out).mono ?_
        case b1 => exact hp20.trans bwT
        case b2 => exact hp20.trans bwT
        rintro e21 w21 ⟨rfl, hb21⟩
        have hp21 : Below wb.heap.size wb w21 := hp20.trans ((Below.trans (show Below w20.heap.size w20 _ from bwT) (hb21.mono szT)).mono hp20.size)
        have hS21 := And.intro (oldc hp21 lyb y0) (And.intro (oldc hp21 lyb y1) (And.intro (oldc hp21 lx q0) (oldc hp21 lx q1)))
        clear hb21
        refine hK.out _ _ ?_ (fun hHeld => ?_)
        ·exact kpT
        clear hK K
        try simp only [Act.put, cA, cB, cC]
        refine tkA 7 ?_
        try simp only [Act.put, cA, cB, cC]
        refine tkA 8 ?_
        try simp only [Act.put, cA, cB, cC]
        refine tkA 9 ?_
        try simp only [Act.put, cA, cB, cC]
        refine tkA 11 ?_
        try simp only [Act.put, cA, cB, cC]
        refine wpAnyH_ready (rs := [10]) (by kernel_rfl) (by simp) ?_
        refine rdR (fun K hK => ?_) ?_
        ·go_simp
         refine (isRecipI_b _ _ _ y (HYB.out.below ?b1) 2 r HR1.out).mono ?_
         case b1 => exact hp21.trans bwT
         rintro e22 w22 ⟨rfl, hb22⟩
         have hp22 : Below wb.heap.size wb w22 := hp21.trans ((Below.trans (show Below w21.heap.size w21 _ from bwT) (hb22.mono szT)).mono hp21.size)
         have hS22 := And.intro (oldc hp22 lyb y0) (And.intro (oldc hp22 lyb y1) (And.intro (oldc hp22 lx q0) (oldc hp22 lx q1)))
         refine hK.out _ _ ?_ (fun hHeld => ?_)
         ·exact kpT
         clear hK K
         try simp only [Act.put, cA, cB, cC]
         refine wpAnyH_ready (rs := [12]) (by kernel_rfl) (by simp) ?_
         refine rdR (fun K hK => ?_) ?_
         ·go_simp
          refine (isRecipI_b _ _ _ (ren y) (HXR.out.below ?b1) 2 r HR2.out).mono ?_
          case b1 => exact hp22.trans bwT
          rintro e23 w23 ⟨rfl, hb23⟩
          have hp23 : Below wb.heap.size wb w23 := hp22.trans ((Below.trans (show Below w22.heap.size w22 _ from bwT) (hb23.mono szT)).mono hp22.size)
          have hS23 := And.intro (oldc hp23 lyb y0) (And.intro (oldc hp23 lyb y1) (And.intro (oldc hp23 lx q0) (oldc hp23 lx q1)))
          refine hK.out _ _ ?_ (fun hHeld => ?_)
          ·exact kpT
          clear hK K
          try simp only [Act.put, cA, cB, cC]
          refine tkA 13 ?_
          try simp only [Act.put, cA, cB, cC]
          refine tkA 14 ?_
          try simp only [Act.put, cA, cB, cC]
          refine tkA 15 ?_
          try simp only [Act.put, cA, cB, cC]
          refine wpAnyH_done (by kernel_rfl) ?_ _
          have hBE : Below w.heap.size w w23 := hBb.trans (hp23.mono hBb.size)
          clear hHeld hS20 hS21 hS22 hS23 hp20 hp21 hp22
          go_wp2
          go_ret
          exact ⟨rfl, hBE.trans (Below.mono (show Below w23.heap.size w23 _ from bwT) hBE.size)⟩
         exact AllReadyH.nil
        exact AllReadyH.nil
       exact AllReadyH.nil
      exact AllReadyH.nil
   exact AllReadyH.nil
  exact AllReadyH.nil
end Go.Proofs.YtdpkldapobbnpaaGreatDoor
