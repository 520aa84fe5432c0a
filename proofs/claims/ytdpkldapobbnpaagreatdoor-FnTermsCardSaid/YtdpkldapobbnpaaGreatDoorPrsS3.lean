/- Contract: how the reference reads a rule. Written by prs_gen.py. -/
import Derived.Test.YtdpkldapobbnpaaGreatDoorPrsS2
namespace Go.Proofs.YtdpkldapobbnpaaGreatDoor
set_option linter.unusedVariables false
set_option linter.unusedSimpArgs false
open Go.RowKit
def rul0 : Rul := (⟨#[]⟩, 0, 0, [], [])
def PostRB (w : World) (O : Option Rul) (e : Ending) (w' : World) : Prop := ∃ u0 u1 u2 u3 u4, e = .returned (.tuple #[.agg #[u0, u1, u2, u3, u4], .bool O.isSome]) ∧ Ow w.heap.size w'.heap.size w' [u0, u1, u2, u3, u4] (O.getD rul0) ∧ Below w.heap.size w w'
theorem ruleS_no {l : Bs} (h : (spl 32 l).length ≠ 4) : ruleS l = none := by
 unfold ruleS
 split
 ·rename_i e; rw [e] at h; exact absurd rfl h
 ·rfl
theorem ruleS_four {l a b c d : Bs} (h : spl 32 l = [a, b, c, d]) : ruleS l = ruleS4 l a b d := by
 unfold ruleS
 rw [h]
theorem four_of {α : Type} {l : List α} (h : l.length = 4) : ∃ a b c d, l = [a, b, c, d] := by
 match l, h with
 | [a, b, c, d], _ => exact ⟨a, b, c, d, rfl⟩
theorem map_txt {l : List Bs} {xs : List ByteArray} (h : l.map txt = xs) : l = xs.map (fun x => x.data.toList) := by
 subst h
 rw [List.map_map]
 conv => lhs; rw [← List.map_id l]
 exact List.map_congr_left fun x _ => (list_txt x).symm
theorem txt_init (s : ByteArray) : s.extract 0 (s.size - 1) = txt s.data.toList.dropLast := by
 rw [txt_sub, List.dropLast_eq_take, ← Lib.size_eq]; rfl
theorem ruleS1_nil {u : ByteArray} (h : u.size = 0) : ruleS1 u.data.toList = (0, u.data.toList) := by
 have : u.data.toList = [] := List.eq_nil_of_length_eq_zero (by rw [← Lib.size_eq]; exact h)
 rw [this]; rfl
theorem head_eq {u : ByteArray} (h : 0 < u.size) : u.data.toList.head? = some (u[0]'h) := by
 rw [List.head?_eq_getElem?]; exact byte_at u h
theorem last_eq {u : ByteArray} (h : u.size - 1 < u.size) : u.data.toList.getLast? = some (u[u.size - 1]'h) := by
 rw [List.getLast?_eq_getElem?, ← Lib.size_eq]; exact byte_at u h
theorem ruleS1_one {u : ByteArray} (h : 0 < u.size) (e : u[0]'h = 94) : ruleS1 u.data.toList = (1, (u.extract 1 u.size).data.toList) := by
 rw [ruleS1, head_eq h, e, if_pos rfl, sub_from, list_txt]
theorem ruleS1_two {u : ByteArray} (h : 0 < u.size) (e : ¬ u[0]'h = 94) (h1 : u.size - 1 < u.size) (e1 : u[u.size - 1]'h1 = 36) : ruleS1 u.data.toList = (2, (u.extract 0 (u.size - 1)).data.toList) := by
 rw [ruleS1, head_eq h, if_neg (by intro x; exact e (Option.some.inj x)), last_eq h1, e1, if_pos rfl, txt_init, list_txt]
theorem ruleS1_zero {u : ByteArray} (h : 0 < u.size) (e : ¬ u[0]'h = 94) (h1 : u.size - 1 < u.size) (e1 : ¬ u[u.size - 1]'h1 = 36) : ruleS1 u.data.toList = (0, u.data.toList) := by
 rw [ruleS1, head_eq h, if_neg (by intro x; exact e (Option.some.inj x)), last_eq h1, if_neg (by intro x; exact e1 (Option.some.inj x))]
theorem Ow.rul_mk {lo hi lo' hi' l h : Nat} {w : World} {nm : ByteArray} {sx pl : Int} {fr tw : List Stp} {vfr vtw : Value} (hnm : nm.size ≤ maxLen) (hsx : I64 sx) (hpl : I64 pl) (h1 : Ow lo hi w [vfr] fr) (h2 : Ow lo' hi' w [vtw] tw) (hd : hi ≤ lo' ∨ hi' ≤ lo) (l1 : l ≤ lo) (l2 : l ≤ lo') (u1 : hi ≤ h) (u2 : hi' ≤ h) : Ow l h w [.string nm, .int .i64 sx, .int .i64 pl, vfr, vtw] ((nm, sx, pl, fr, tw) : Rul) := by
 obtain ⟨f1, a1, b1, n1⟩ := h1
 obtain ⟨f2, a2, b2, n2⟩ := h2
 refine ⟨f1 ++ f2, dRul_mk hnm hsx hpl a1 a2, fun b hb => ?_, ?_⟩
 ·rcases List.mem_append.1 hb with hb | hb
  ·have := b1 b hb; omega
  ·have := b2 b hb; omega
 ·rw [List.nodup_append]
  refine ⟨n1, n2, fun i hi j hj e => ?_⟩
  have := b1 i hi
  have := b2 j hj
  omega
theorem nil_rul (lo hi : Nat) (w : World) : Ow lo hi w [.string ⟨#[]⟩, .int .i64 0, .int .i64 0, .slice none 0 0, .slice none 0 0] rul0 :=
 ⟨[], dRul_zero w, fun _ h => (by cases h), List.nodup_nil⟩
theorem Rd.strs {z : Bool} {lo hi : Nat} {w : World} {xs : List ByteArray} {ao : Option Addr} {n cap : Nat} (h : Rd z lo hi w [.slice ao n cap] xs) (hn : 0 < n) :
  ∃ b off, ao = some ⟨b, off, none⟩ ∧ b < w.heap.size ∧ ∀ i x, xs[i]? = some x → w.cell? ⟨b, off + i, none⟩ = some (.string x) ∧ x.size ≤ maxLen := by
 obtain ⟨b, off, x, rfl, -, -, -, -, -, hb, -⟩ := h.str_at hn
 refine ⟨b, off, rfl, hb, fun i x hx => ?_⟩
 obtain ⟨_, _, _, e, e2, -⟩ := h.shape
 simp only [Value.slice.injEq] at e
 obtain ⟨-, rfl, -⟩ := e
 have hi : i < xs.length := (List.getElem?_eq_some_iff.1 hx).1
 obtain ⟨b', off', x', e, h1, h2, h3, -⟩ := h.str_at (i := i) (by omega)
 simp only [Option.some.injEq, Addr.mk.injEq] at e
 obtain ⟨rfl, rfl, -⟩ := e
 obtain rfl : x' = x := Option.some.inj (h1.out.symm.trans hx)
 exact ⟨h2, h3⟩
theorem formatRuleS_x {z : Bool} {lo hi : Nat} (w : World) (u0 u1 u2 u3 u4 : Value) (r : Rul) (h : Rd z lo hi w [u0, u1, u2, u3, u4] r) (R : ByteArray) (hR : R = ruleTxt r) : Calls Tryz.prog 39 #[.agg #[u0, u1, u2, u3, u4]] w (PostV w (.string R)) := formatRuleS_any w u0 u1 u2 u3 u4 r h R hR
set_option maxRecDepth 20000 in
set_option maxHeartbeats 16000000 in
theorem parseRuleS_any (w : World) (s : ByteArray) (hs : s.size ≤ 1099511627776) (O : Option Rul) (hO : O = ruleS s.data.toList) :
  Calls Tryz.prog 20 #[.string s] w (PostRB w O) := by
 obtain ⟨P, hP⟩ : ∃ P, P = (spl 32 s.data.toList).map txt := ⟨_, rfl⟩
 have HP := Lib.hid hP
 have HO := Lib.hid hO
 clear hP hO
 go_enter Tryz.func20, Tryz.ntmps20
 go_wp2_with fail
 refine (splitS_any _ s hs 32 32 rfl P HP.out).mono ?_
 rintro e1 w1 ⟨pv, rfl, hop, hbw1⟩
 have hpw1 : Below w.heap.size w w1 := Below.after bwT hbw1 szT
 have sw1 := hpw1.size
 have hBw1 : Below w.heap.size w w1 := hpw1
 have l_r : w.heap.size < w1.heap.size := by have := hbw1.size; simp at this; omega
 have q_r0 : w1.cell? ⟨w.heap.size, 0, none⟩ = some (.string ⟨#[]⟩) := oldc hbw1 ltT (by simp [go_sem])
 have q_r1 : w1.cell? ⟨w.heap.size, 1, none⟩ = some (.int .i64 0) := oldc hbw1 ltT (by simp [go_sem])
 have q_r2 : w1.cell? ⟨w.heap.size, 2, none⟩ = some (.int .i64 0) := oldc hbw1 ltT (by simp [go_sem])
 have q_r3 : w1.cell? ⟨w.heap.size, 3, none⟩ = some (.slice none 0 0) := oldc hbw1 ltT (by simp [go_sem])
 have q_r4 : w1.cell? ⟨w.heap.size, 4, none⟩ = some (.slice none 0 0) := oldc hbw1 ltT (by simp [go_sem])
 have f_r : ∀ o, w1.frozen? ⟨w.heap.size, o, none⟩ = false := fun o => (hbw1.frozen (p := ⟨w.heap.size, o, none⟩) ltT).trans (by simp [go_sem])
 clear hbw1 hpw1
 have hl1 := l_r
 obtain ⟨pao, pn, pcap, rfl, hpn, -⟩ := hop.rd.shape
 by_cases h4 : pn = 4
 rotate_left
 ·obtain rfl : O = none := by rw [HO.out]; exact ruleS_no (by have := congrArg List.length HP.out; rw [List.length_map] at this; omega)
  have h4I : ((pn : Int) == 4) = false := by rw [beq_eq_false_iff_ne]; omega
  clear HO HP hop
  go_wp2
  exact bodyPost_ret (v := .tuple #[.agg #[.string ⟨#[]⟩, .int .i64 0, .int .i64 0, .slice none 0 0, .slice none 0 0], .bool false]) (by simp [results, go_sem, *]) rfl ⟨_, _, _, _, _, rfl, nil_rul _ _ _, bwT⟩
 subst h4
 obtain ⟨A, B, C, D, rfl⟩ := four_of hpn
 obtain ⟨pb, po, rfl, lp, hcs⟩ := hop.rd.strs (by decide)
 obtain ⟨pA, hAs⟩ := hcs 0 A rfl
 obtain ⟨pB, hBs⟩ := hcs 1 B rfl
 obtain ⟨pD, hDs⟩ := hcs 3 D rfl
 have HR4 := Lib.hid (show O = ruleS4 s.data.toList A.data.toList B.data.toList D.data.toList by rw [HO.out]; exact ruleS_four (map_txt HP.out.symm))
 clear HO HP hop hcs hpn
 unfold maxLen at hAs hBs hDs
 simp only [Nat.add_zero] at pA
 by_cases hA2 : 2 ≤ A.size
 rotate_left
 ·obtain rfl : O = none := by rw [HR4.out, ruleS4, if_neg]; intro h; have := h.1; rw [← Lib.size_eq] at this; omega
  have hI : (A.size : Int) < 2 := by omega
  clear HR4
  go_wp2
  exact bodyPost_ret (v := .tuple #[.agg #[.string ⟨#[]⟩, .int .i64 0, .int .i64 0, .slice none 0 0, .slice none 0 0], .bool false]) (by simp [results, go_sem, *]) rfl ⟨_, _, _, _, _, rfl, nil_rul _ _ _, bwT⟩
 have hA2I : ¬ (A.size : Int) < 2 := by omega
 by_cases hB1 : 1 ≤ B.size
 rotate_left
 ·obtain rfl : O = none := by rw [HR4.out, ruleS4, if_neg]; intro h; have := h.2.1; rw [← Lib.size_eq] at this; omega
  have hI : (B.size : Int) < 1 := by omega
  clear HR4
  go_wp2
  exact bodyPost_ret (v := .tuple #[.agg #[.string ⟨#[]⟩, .int .i64 0, .int .i64 0, .slice none 0 0, .slice none 0 0], .bool false]) (by simp [results, go_sem, *]) rfl ⟨_, _, _, _, _, rfl, nil_rul _ _ _, bwT⟩
 have hB1I : ¬ (B.size : Int) < 1 := by omega
 obtain ⟨W4, hW4⟩ : ∃ W : World, W = w1 := ⟨_, rfl⟩
 subst hW4
 have hB4 : Below w.heap.size w W4 := hBw1
 obtain ⟨nm, hnm⟩ : ∃ nm, nm = A.extract 0 (A.size - 1) := ⟨_, rfl⟩
 have HNM := Lib.hid hnm.symm
 have hnms : nm.size ≤ 9223372036854775807 := by rw [hnm, ByteArray.size_extract]; omega
 have HNT := Lib.hid (show nm = txt A.data.toList.dropLast by rw [hnm, txt_init])
 obtain ⟨XD, hXD⟩ : ∃ X, X = readS D.data.toList := ⟨_, rfl⟩
 have HXD := Lib.hid hXD
 clear hnm hXD
 have hw : IntKind.i64.wrap ((A.size : Int) - 1) = (A.size : Int) - 1 := IntWalk.i64_in _ (by omega)
 have hA3 : (1 : Int) ≤ (A.size : Int) := by omega
 have hA0 : (0 : Int) ≤ (A.size : Int) - 1 := by omega
 have hA1 : (A.size : Int) - 1 ≤ (A.size : Int) := by omega
 go_upto_region 4 with fail
 go_cut [5] (fun s5 wx => ∃ (g : Nat) (dv : Value), s5 = .pointer (some ⟨g, 0, none⟩) ∧ wx.cell? ⟨g, 0, none⟩ = some (.string nm) ∧ wx.cell? ⟨g, 1, none⟩ = some (.int .i64 0) ∧ wx.cell? ⟨g, 2, none⟩ = some (.int .i64 0) ∧ wx.cell? ⟨g, 3, none⟩ = some (.slice none 0 0) ∧ wx.cell? ⟨g, 4, none⟩ = some dv ∧ (∀ o, wx.frozen? ⟨g, o, none⟩ = false) ∧ W4.heap.size ≤ g ∧ g < wx.heap.size ∧ Hid (∃ lo hi, Ow lo hi wx [dv] XD ∧ W4.heap.size ≤ lo ∧ hi ≤ wx.heap.size ∧ (g < lo ∨ hi ≤ g)) ∧ Below W4.heap.size W4 wx)
 case first =>
  refine wp_region_held_drew (S := (fun w' => w'.cell? ⟨pb, po, none⟩ = some (.string A) ∧ w'.cell? ⟨pb, po + 3, none⟩ = some (.string D))) (by kernel_rfl) ?_ (fun hHeld => ?_)
  ·first | exact trivial | ((try dsimp only); go_keep)
  refine tkA 0 ?_
  try simp only [Act.put, cA, cB, cC]
  refine tkA 3 ?_
  try simp only [Act.put, cA, cB, cC]
  refine tkA 9 ?_
  try simp only [Act.put, cA, cB, cC]
  refine tkA 1 ?_
  try simp only [Act.put, cA, cB, cC]
  refine tkA 4 ?_
  try simp only [Act.put, cA, cB, cC]
  refine tkA 10 ?_
  try simp only [Act.put, cA, cB, cC]
  refine tkA 2 ?_
  try simp only [Act.put, cA, cB, cC]
  refine tkA 5 ?_
  try simp only [Act.put, cA, cB, cC]
  refine tkA 11 ?_
  try simp only [Act.put, cA, cB, cC]
  refine tkA 6 ?_
  try simp only [Act.put, cA, cB, cC]
  refine tkA 7 ?_
  try simp only [Act.put, cA, cB, cC]
  refine tkA 8 ?_
  try simp only [Act.put, cA, cB, cC]
  refine wpAnyH_ready (rs := [12, 14]) (by kernel_rfl) (by simp) ?_
  refine rdR (fun K hK => ?_) ?_
  ·go_simp
   refine (readS_any _ D hDs XD HXD.out).mono ?_
   rintro e2 w2 ⟨dv, rfl, hod, hb2⟩
   have hp2 : Below W4.heap.size W4 w2 := Below.trans (show Below W4.heap.size W4 _ from bwT) (hb2.mono szT)
   have s2 := hp2.size
   have hS2 := And.intro (oldc hp2 lp pA) (oldc hp2 lp pD)
   obtain ⟨dao, dn, dcap, rfl, -⟩ := hod.rd.shape
   have HOD := Lib.hid hod
   clear hb2 hod
   refine hK.out _ _ ?_ (fun hHeld => ?_)
   ·exact kpT
   clear hK K
   try simp only [Act.put, cA, cB, cC]
   refine tkA 13 ?_
   try simp only [Act.put, cA, cB, cC]
   refine wpAnyH_ready (rs := [14]) (by kernel_rfl) (by simp) ?_
   refine rdR (fun K hK => ?_) ?_
   ·go_simp
    refine hK.out _ _ ?_ (fun hHeld => ?_)
    ·exact kpT
    clear hK K
    try simp only [Act.put, cA, cB, cC]
    refine wpAnyH_ready (rs := [15]) (by kernel_rfl) (by simp) ?_
    refine rdR (fun K hK => ?_) ?_
    ·go_simp
     refine hK.out _ _ ?_ (fun hHeld => ?_)
     ·exact kpT
     clear hK K
     try simp only [Act.put, cA, cB, cC]
     refine wpAnyH_done (by kernel_rfl) ?_ _
     have HA := HNM.out
     go_wp2_with fail
     go_meet
     exact ⟨w2.heap.size, _, rfl, (by rw [← HA]; simp [go_sem, *]), (by simp [go_sem, *]), (by simp [go_sem, *]), (by simp [go_sem, *]), (by simp [go_sem, *]), (fun o => by simp [go_sem, *]), s2, (by simp), Lib.hid ⟨_, _, HOD.out.keep zmT, (by simp), (by simp), (by simp)⟩, bwT⟩
    exact AllReadyH.nil
   exact AllReadyH.nil
  refine rdR (fun K hK => ?_) ?_
  ·go_simp
   refine hK.out _ _ ?_ (fun hHeld => ?_)
   ·exact kpT
   clear hK K
   try simp only [Act.put, cA, cB, cC]
   refine wpAnyH_ready (rs := [12]) (by kernel_rfl) (by simp) ?_
   refine rdR (fun K hK => ?_) ?_
   ·go_simp
    refine (readS_any _ D hDs XD HXD.out).mono ?_
    rintro e2 w2 ⟨dv, rfl, hod, hb2⟩
    have hp2 : Below W4.heap.size W4 w2 := Below.trans (show Below W4.heap.size W4 _ from bwT) (hb2.mono szT)
    have s2 := hp2.size
    have hS2 := And.intro (oldc hp2 lp pA) (oldc hp2 lp pD)
    obtain ⟨dao, dn, dcap, rfl, -⟩ := hod.rd.shape
    have y0 : w2.cell? ⟨W4.heap.size, 0, none⟩ = some (.string ⟨#[]⟩) := oldc hb2 (by simp) (by simp [go_sem])
    have y1 : w2.cell? ⟨W4.heap.size, 1, none⟩ = some (.int .i64 0) := oldc hb2 (by simp) (by simp [go_sem])
    have y2 : w2.cell? ⟨W4.heap.size, 2, none⟩ = some (.int .i64 0) := oldc hb2 (by simp) (by simp [go_sem])
    have y3 : w2.cell? ⟨W4.heap.size, 3, none⟩ = some (.slice none 0 0) := oldc hb2 (by simp) (by simp [go_sem])
    have y4 : w2.cell? ⟨W4.heap.size, 4, none⟩ = some (.slice none 0 0) := oldc hb2 (by simp) (by simp [go_sem])
    have yf : ∀ o, w2.frozen? ⟨W4.heap.size, o, none⟩ = false := (fun o => (hb2.frozen (p := ⟨W4.heap.size, o, none⟩) (by simp)).trans (by simp [go_sem]))
    have yl : W4.heap.size < w2.heap.size := (by have := hb2.size; simp at this; omega)
    have HOD := Lib.hid hod
    clear hb2 hod
    refine hK.out _ _ ?_ (fun hHeld => ?_)
    ·exact kpT
    clear hK K
    try simp only [Act.put, cA, cB, cC]
    refine tkA 13 ?_
    try simp only [Act.put, cA, cB, cC]
    refine wpAnyH_ready (rs := [15]) (by kernel_rfl) (by simp) ?_
    refine rdR (fun K hK => ?_) ?_
    ·go_simp
     refine hK.out _ _ ?_ (fun hHeld => ?_)
     ·exact kpT
     clear hK K
     try simp only [Act.put, cA, cB, cC]
     refine wpAnyH_done (by kernel_rfl) ?_ _
     have HA := HNM.out
     go_wp2_with fail
     go_meet
     exact ⟨W4.heap.size, _, rfl, (by rw [← HA]; simp [go_sem, *]), (by simp [go_sem, *]), (by simp [go_sem, *]), (by simp [go_sem, *]), (by simp [go_sem, *]), (fun o => by simp [go_sem, *]), Nat.le_refl _, (by simp; omega), Lib.hid ⟨_, _, HOD.out.keep zmT, (by simp), (by simp), (by simp)⟩, bwT⟩
    exact AllReadyH.nil
   exact AllReadyH.nil
  exact AllReadyH.nil
 case rest =>
  obtain ⟨g, dv, rfl, y0, y1, y2, y3, y4, yf, hg4, lg, HOD, hbx⟩ := hcut
  obtain ⟨W5, hW5⟩ : ∃ W : World, W = wc := ⟨_, rfl⟩
  subst hW5
  have s45 := hbx.size
  have hB5 : Below w.heap.size w W5 := hB4.trans (hbx.mono hB4.size)
  have q_r0 := oldc hbx l_r q_r0
  have q_r1 := oldc hbx l_r q_r1
  have q_r2 := oldc hbx l_r q_r2
  have q_r3 := oldc hbx l_r q_r3
  have q_r4 := oldc hbx l_r q_r4
  have f_r : ∀ o, W5.frozen? ⟨w.heap.size, o, none⟩ = false := fun o => (hbx.frozen (p := ⟨w.heap.size, o, none⟩) l_r).trans (f_r o)
  have l_r5 : w.heap.size < W5.heap.size := by omega
  have pB := oldc hbx lp pB
  obtain ⟨e, he⟩ : ∃ e, e = (cutE B.data.toList).1 := ⟨_, rfl⟩
  obtain ⟨u, hu⟩ : ∃ u, u = txt (cutE B.data.toList).2 := ⟨_, rfl⟩
  have hus : u.size ≤ 9223372036854775807 := by rw [hu, size_txt]; have := cutE_len B.data.toList; rw [← Lib.size_eq] at this; omega
  have hul : u.data.toList = (cutE B.data.toList).2 := by rw [hu, list_txt]
  have her := cutE_rng B.data.toList
  rw [← he] at her
  have HI := Lib.hid (show I64 e by unfold I64; omega)
  have HR5 := Lib.hid (show ∀ (p : Int) (v : ByteArray) (XF : List Stp) (r1 : Bool) (K : ByteArray), ruleS1 u.data.toList = (p, v.data.toList) → XF = readS v.data.toList → r1 = isRule (nm, e, p, XF, XD) → K = ruleTxt (nm, e, p, XF, XD) → O = if r1 = true ∧ K = s then some (nm, e, p, XF, XD) else none by
   intro p v XF r1 K h1 h2 h3 h4
   rw [HR4.out, ruleS4]
   rw [← hul, h1, ← he]
   dsimp only
   rw [← h2, ← HXD.out, ← HNT.out, ← h3, ← h4, txt_list, ← Lib.size_eq, ← Lib.size_eq]
   by_cases hh : r1 = true ∧ K = s
   ·rw [if_pos ⟨hA2, hB1, hh⟩, if_pos hh]
   ·rw [if_neg (fun h => hh h.2.2), if_neg hh])
  have HE := Lib.hid he
  have HU := Lib.hid hu
  clear he hu hul hbx pA pD hA2I hB1I HR4 HXD HNT HNM hA3 hA0 hA1 hw
  go_wp2_with fail
  refine (cutS_any _ B (by unfold maxLen; omega) e u HE.out HU.out).mono ?_
  rintro e6 w6 ⟨rfl, hb6⟩
  have s56 := hb6.size
  have hB6 : Below w.heap.size w w6 := Below.after hB5 hb6 hB5.size
  have q_r0 := oldc hb6 l_r5 q_r0
  have q_r1 := oldc hb6 l_r5 q_r1
  have q_r2 := oldc hb6 l_r5 q_r2
  have q_r3 := oldc hb6 l_r5 q_r3
  have q_r4 := oldc hb6 l_r5 q_r4
  have f_r : ∀ o, w6.frozen? ⟨w.heap.size, o, none⟩ = false := fun o => (hb6.frozen (p := ⟨w.heap.size, o, none⟩) l_r5).trans (f_r o)
  have y0 := oldc hb6 lg y0
  have y1 := oldc hb6 lg y1
  have y2 := oldc hb6 lg y2
  have y3 := oldc hb6 lg y3
  have y4 := oldc hb6 lg y4
  have yf : ∀ o, w6.frozen? ⟨g, o, none⟩ = false := fun o => (hb6.frozen (p := ⟨g, o, none⟩) lg).trans (yf o)
  have l_g6 : g < w6.heap.size := by omega
  have l_r6 : w.heap.size < w6.heap.size := by omega
  have hgr : ¬ g = w.heap.size := by omega
  have hgr2 : ¬ w.heap.size = g := by omega
  obtain ⟨dlo, dhi, hod, hd1, hd2, hd3⟩ := HOD.out
  obtain ⟨dao, dn, dcap, rfl, -⟩ := hod.rd.shape
  have HOD6 := Lib.hid (hod.below hb6)
  clear hod hb6 HOD HE HU pB
  by_cases h0 : u.size = 0
  ·have h0I : ¬ (0 : Int) < (u.size : Int) := by omega
   have HS1 := Lib.hid (show ruleS1 u.data.toList = (0, u.data.toList) by rw [ruleS1_nil h0])
   have hvs : (u).size ≤ 9223372036854775807 := by omega
   obtain ⟨v, hv⟩ : ∃ v, v = u := ⟨_, rfl⟩
   subst hv
   obtain ⟨XF, hXF⟩ : ∃ X, X = readS v.data.toList := ⟨_, rfl⟩
   obtain ⟨r1, hr1⟩ : ∃ r, r = isRule (nm, e, 0, XF, XD) := ⟨_, rfl⟩
   obtain ⟨K, hK⟩ : ∃ K, K = ruleTxt (nm, e, 0, XF, XD) := ⟨_, rfl⟩
   have HO6 := Lib.hid (HR5.out _ _ _ _ _ HS1.out hXF hr1 hK)
   have HXF := Lib.hid hXF
   have H1 := Lib.hid hr1
   have HK := Lib.hid hK
   clear hXF hr1 hK HR5 HS1
   go_wp2_with fail
   refine (readS_any _ v (by unfold maxLen; omega) XF HXF.out).mono ?_
   rintro e7 w7 ⟨fv, rfl, hof, hb7⟩
   have hp7 : Below W4.heap.size w6 w7 := Below.trans (show Below W4.heap.size w6 _ from bwT) (hb7.mono (by simp; omega))
   have s67 := hb7.size
   simp only [World.size_setCell] at s67 hof
   obtain ⟨fao, fn, fcap, rfl, -⟩ := hof.rd.shape
   replace q_r0 := oldc hp7 l_r q_r0
   replace q_r1 := oldc hp7 l_r q_r1
   replace q_r2 := oldc hp7 l_r q_r2
   replace q_r3 := oldc hp7 l_r q_r3
   replace q_r4 := oldc hp7 l_r q_r4
   replace f_r : ∀ o, w7.frozen? ⟨w.heap.size, o, none⟩ = false := fun o => (hp7.frozen (p := ⟨w.heap.size, o, none⟩) l_r).trans (f_r o)
   have z0 : w7.cell? ⟨g, 0, none⟩ = some (.string nm) := oldc hb7 ltT (by simp [go_sem, *])
   have z1 : w7.cell? ⟨g, 1, none⟩ = some (.int .i64 e) := oldc hb7 ltT (by simp [go_sem, *])
   have z2 : w7.cell? ⟨g, 2, none⟩ = some (.int .i64 0) := oldc hb7 ltT (by simp [go_sem, *])
   have z3 : w7.cell? ⟨g, 3, none⟩ = some (.slice none 0 0) := oldc hb7 ltT (by simp [go_sem, *])
   have z4 : w7.cell? ⟨g, 4, none⟩ = some (.slice dao dn dcap) := oldc hb7 ltT (by simp [go_sem, *])
   have zf : ∀ o, w7.frozen? ⟨g, o, none⟩ = false := fun o => (hb7.frozen (p := ⟨g, o, none⟩) ltT).trans (by simp [go_sem, *])
   have hB7 : Below w.heap.size w w7 := hB6.trans (hp7.mono hB4.size)
   have l_g7 : g < w7.heap.size := by omega
   have HRU := Lib.hid (show Ow W4.heap.size w7.heap.size (w7.setCell ⟨g, 3, none⟩ (.slice fao fn fcap)) [.string nm, .int .i64 e, .int .i64 0, .slice fao fn fcap, .slice dao dn dcap] ((nm, e, 0, XF, XD) : Rul) from
    Ow.rul_mk (by unfold maxLen; omega) HI.out (by unfold I64; omega) (hof.keep zmT) (((HOD6.out.keep ((Zone.refl dlo dhi w6).setCell (p := ⟨g, 1, none⟩) hd3 _)).below hb7).keep ((Zone.refl dlo dhi w7).setCell (p := ⟨g, 3, none⟩) hd3 _)) (by omega) (by omega) hd1 (Nat.le_refl _) (by omega))
   clear hb7 hof hp7 y0 y1 y2 y3 y4 yf HOD6
   go_wp2_with fail
   refine (isRuleS_b _ _ _ _ _ _ (nm, e, 0, XF, XD) HRU.out.rd r1 H1.out).mono ?_
   rintro e8 w8 ⟨rfl, hb8⟩
   have s78 := hb8.size
   simp only [World.size_setCell] at s78
   have hB8 : Below w.heap.size w w8 := Below.trans (show Below w.heap.size w (w7.setCell ⟨g, 3, none⟩ (.slice fao fn fcap)) from bwT) (hb8.mono (by simp; omega))
   replace q_r0 : w8.cell? ⟨w.heap.size, 0, none⟩ = some (.string ⟨#[]⟩) := oldc hb8 ltT (by simp [go_sem, *])
   replace q_r1 : w8.cell? ⟨w.heap.size, 1, none⟩ = some (.int .i64 0) := oldc hb8 ltT (by simp [go_sem, *])
   replace q_r2 : w8.cell? ⟨w.heap.size, 2, none⟩ = some (.int .i64 0) := oldc hb8 ltT (by simp [go_sem, *])
   replace q_r3 : w8.cell? ⟨w.heap.size, 3, none⟩ = some (.slice none 0 0) := oldc hb8 ltT (by simp [go_sem, *])
   replace q_r4 : w8.cell? ⟨w.heap.size, 4, none⟩ = some (.slice none 0 0) := oldc hb8 ltT (by simp [go_sem, *])
   replace f_r : ∀ o, w8.frozen? ⟨w.heap.size, o, none⟩ = false := fun o => (hb8.frozen (p := ⟨w.heap.size, o, none⟩) ltT).trans (by simp [go_sem, *])
   replace z0 : w8.cell? ⟨g, 0, none⟩ = some (.string nm) := oldc hb8 ltT (by simp [go_sem, *])
   replace z1 : w8.cell? ⟨g, 1, none⟩ = some (.int .i64 e) := oldc hb8 ltT (by simp [go_sem, *])
   replace z2 : w8.cell? ⟨g, 2, none⟩ = some (.int .i64 0) := oldc hb8 ltT (by simp [go_sem, *])
   replace z3 : w8.cell? ⟨g, 3, none⟩ = some (.slice fao fn fcap) := oldc hb8 ltT (by simp [go_sem, *])
   replace z4 : w8.cell? ⟨g, 4, none⟩ = some (.slice dao dn dcap) := oldc hb8 ltT (by simp [go_sem, *])
   have HRU8 := Lib.hid (HRU.out.below (hb8.mono (by simp)))
   clear hb8 HRU
   cases r1
   ·obtain rfl : O = none := by have := HO6.out; rw [this]; simp
    clear HO6 HRU8
    go_wp2
    exact bodyPost_ret (v := .tuple #[.agg #[.string ⟨#[]⟩, .int .i64 0, .int .i64 0, .slice none 0 0, .slice none 0 0], .bool false]) (by simp [results, go_sem, *]) rfl ⟨_, _, _, _, _, rfl, nil_rul _ _ _, bwT⟩
   go_wp2_with fail
   refine (formatRuleS_x _ _ _ _ _ _ (nm, e, 0, XF, XD) HRU8.out.rd K HK.out).mono ?_
   rintro e9 w9 ⟨rfl, hb9⟩
   have s89 := hb9.size
   have hB9 : Below w.heap.size w w9 := hB8.trans (hb9.mono hB8.size)
   replace q_r0 : w9.cell? ⟨w.heap.size, 0, none⟩ = some (.string ⟨#[]⟩) := oldc hb9 ltT (by simp [go_sem, *])
   replace q_r1 : w9.cell? ⟨w.heap.size, 1, none⟩ = some (.int .i64 0) := oldc hb9 ltT (by simp [go_sem, *])
   replace q_r2 : w9.cell? ⟨w.heap.size, 2, none⟩ = some (.int .i64 0) := oldc hb9 ltT (by simp [go_sem, *])
   replace q_r3 : w9.cell? ⟨w.heap.size, 3, none⟩ = some (.slice none 0 0) := oldc hb9 ltT (by simp [go_sem, *])
   replace q_r4 : w9.cell? ⟨w.heap.size, 4, none⟩ = some (.slice none 0 0) := oldc hb9 ltT (by simp [go_sem, *])
   replace f_r : ∀ o, w9.frozen? ⟨w.heap.size, o, none⟩ = false := fun o => (hb9.frozen (p := ⟨w.heap.size, o, none⟩) ltT).trans (by simp [go_sem, *])
   replace z0 : w9.cell? ⟨g, 0, none⟩ = some (.string nm) := oldc hb9 ltT (by simp [go_sem, *])
   replace z1 : w9.cell? ⟨g, 1, none⟩ = some (.int .i64 e) := oldc hb9 ltT (by simp [go_sem, *])
   replace z2 : w9.cell? ⟨g, 2, none⟩ = some (.int .i64 0) := oldc hb9 ltT (by simp [go_sem, *])
   replace z3 : w9.cell? ⟨g, 3, none⟩ = some (.slice fao fn fcap) := oldc hb9 ltT (by simp [go_sem, *])
   replace z4 : w9.cell? ⟨g, 4, none⟩ = some (.slice dao dn dcap) := oldc hb9 ltT (by simp [go_sem, *])
   have HRU9 := Lib.hid (HRU8.out.below hb9)
   clear hb9 HRU8
   by_cases hks : K = s
   ·subst hks
    obtain rfl : O = some (nm, e, 0, XF, XD) := by have := HO6.out; rw [this]; simp
    have q0 : (K.toList == K.toList) = true := by simp
    clear HO6
    go_wp2
    exact bodyPost_ret (v := .tuple #[.agg #[.string nm, .int .i64 e, .int .i64 0, .slice fao fn fcap, .slice dao dn dcap], .bool true]) (by simp [results, go_sem, *]) rfl ⟨_, _, _, _, _, rfl, (HRU9.out.keep zmT).mono (by omega) (by simp; omega), bwT⟩
   ·obtain rfl : O = none := by have := HO6.out; rw [this]; exact if_neg (fun h => hks h.2)
    have q0 : (K.toList == s.toList) = false := by rw [text_eq, decide_eq_false hks]
    clear HO6 hks HRU9
    go_wp2
    exact bodyPost_ret (v := .tuple #[.agg #[.string ⟨#[]⟩, .int .i64 0, .int .i64 0, .slice none 0 0, .slice none 0 0], .bool false]) (by simp [results, go_sem, *]) rfl ⟨_, _, _, _, _, rfl, nil_rul _ _ _, bwT⟩
  have hu0 : 0 < u.size := by omega
  have hu1 : u.size - 1 < u.size := by omega
  have h0I : (0 : Int) < (u.size : Int) := by omega
  by_cases e94 : u[0]'hu0 = 94
  ·have h94 : (((u[0]'hu0).toNat : Int) == 94) = true := by rw [e94]; rfl
   have h1I : (1 : Int) ≤ (u.size : Int) := by omega
   have HS1 := Lib.hid (show ruleS1 u.data.toList = (1, (u.extract 1 u.size).data.toList) by rw [ruleS1_one hu0 e94])
   clear e94
   have hvs : (u.extract 1 u.size).size ≤ 9223372036854775807 := by rw [ByteArray.size_extract]; omega
   obtain ⟨v, hv⟩ : ∃ v, v = u.extract 1 u.size := ⟨_, rfl⟩
   rw [← hv] at HS1 hvs
   have HV := Lib.hid hv.symm
   obtain ⟨XF, hXF⟩ : ∃ X, X = readS v.data.toList := ⟨_, rfl⟩
   obtain ⟨r1, hr1⟩ : ∃ r, r = isRule (nm, e, 1, XF, XD) := ⟨_, rfl⟩
   obtain ⟨K, hK⟩ : ∃ K, K = ruleTxt (nm, e, 1, XF, XD) := ⟨_, rfl⟩
   have HO6 := Lib.hid (HR5.out _ _ _ _ _ HS1.out hXF hr1 hK)
   have HXF := Lib.hid hXF
   have H1 := Lib.hid hr1
   have HK := Lib.hid hK
   clear hXF hr1 hK HR5 HS1
   clear hv
   go_wp2_with fail
   rw [HV.out]
   refine (readS_any _ v (by unfold maxLen; omega) XF HXF.out).mono ?_
   rintro e7 w7 ⟨fv, rfl, hof, hb7⟩
   have hp7 : Below W4.heap.size w6 w7 := Below.trans (show Below W4.heap.size w6 _ from bwT) (hb7.mono (by simp; omega))
   have s67 := hb7.size
   simp only [World.size_setCell] at s67 hof
   obtain ⟨fao, fn, fcap, rfl, -⟩ := hof.rd.shape
   replace q_r0 := oldc hp7 l_r q_r0
   replace q_r1 := oldc hp7 l_r q_r1
   replace q_r2 := oldc hp7 l_r q_r2
   replace q_r3 := oldc hp7 l_r q_r3
   replace q_r4 := oldc hp7 l_r q_r4
   replace f_r : ∀ o, w7.frozen? ⟨w.heap.size, o, none⟩ = false := fun o => (hp7.frozen (p := ⟨w.heap.size, o, none⟩) l_r).trans (f_r o)
   have z0 : w7.cell? ⟨g, 0, none⟩ = some (.string nm) := oldc hb7 ltT (by simp [go_sem, *])
   have z1 : w7.cell? ⟨g, 1, none⟩ = some (.int .i64 e) := oldc hb7 ltT (by simp [go_sem, *])
   have z2 : w7.cell? ⟨g, 2, none⟩ = some (.int .i64 1) := oldc hb7 ltT (by simp [go_sem, *])
   have z3 : w7.cell? ⟨g, 3, none⟩ = some (.slice none 0 0) := oldc hb7 ltT (by simp [go_sem, *])
   have z4 : w7.cell? ⟨g, 4, none⟩ = some (.slice dao dn dcap) := oldc hb7 ltT (by simp [go_sem, *])
   have zf : ∀ o, w7.frozen? ⟨g, o, none⟩ = false := fun o => (hb7.frozen (p := ⟨g, o, none⟩) ltT).trans (by simp [go_sem, *])
   have hB7 : Below w.heap.size w w7 := hB6.trans (hp7.mono hB4.size)
   have l_g7 : g < w7.heap.size := by omega
   have HRU := Lib.hid (show Ow W4.heap.size w7.heap.size (w7.setCell ⟨g, 3, none⟩ (.slice fao fn fcap)) [.string nm, .int .i64 e, .int .i64 1, .slice fao fn fcap, .slice dao dn dcap] ((nm, e, 1, XF, XD) : Rul) from
    Ow.rul_mk (by unfold maxLen; omega) HI.out (by unfold I64; omega) (hof.keep zmT) (((HOD6.out.keep (((Zone.refl dlo dhi w6).setCell (p := ⟨g, 1, none⟩) hd3 _).setCell (p := ⟨g, 2, none⟩) hd3 _)).below hb7).keep ((Zone.refl dlo dhi w7).setCell (p := ⟨g, 3, none⟩) hd3 _)) (by omega) (by omega) hd1 (Nat.le_refl _) (by omega))
   clear hb7 hof hp7 y0 y1 y2 y3 y4 yf HOD6
   go_wp2_with fail
   refine (isRuleS_b _ _ _ _ _ _ (nm, e, 1, XF, XD) HRU.out.rd r1 H1.out).mono ?_
   rintro e8 w8 ⟨rfl, hb8⟩
   have s78 := hb8.size
   simp only [World.size_setCell] at s78
   have hB8 : Below w.heap.size w w8 := Below.trans (show Below w.heap.size w (w7.setCell ⟨g, 3, none⟩ (.slice fao fn fcap)) from bwT) (hb8.mono (by simp; omega))
   replace q_r0 : w8.cell? ⟨w.heap.size, 0, none⟩ = some (.string ⟨#[]⟩) := oldc hb8 ltT (by simp [go_sem, *])
   replace q_r1 : w8.cell? ⟨w.heap.size, 1, none⟩ = some (.int .i64 0) := oldc hb8 ltT (by simp [go_sem, *])
   replace q_r2 : w8.cell? ⟨w.heap.size, 2, none⟩ = some (.int .i64 0) := oldc hb8 ltT (by simp [go_sem, *])
   replace q_r3 : w8.cell? ⟨w.heap.size, 3, none⟩ = some (.slice none 0 0) := oldc hb8 ltT (by simp [go_sem, *])
   replace q_r4 : w8.cell? ⟨w.heap.size, 4, none⟩ = some (.slice none 0 0) := oldc hb8 ltT (by simp [go_sem, *])
   replace f_r : ∀ o, w8.frozen? ⟨w.heap.size, o, none⟩ = false := fun o => (hb8.frozen (p := ⟨w.heap.size, o, none⟩) ltT).trans (by simp [go_sem, *])
   replace z0 : w8.cell? ⟨g, 0, none⟩ = some (.string nm) := oldc hb8 ltT (by simp [go_sem, *])
   replace z1 : w8.cell? ⟨g, 1, none⟩ = some (.int .i64 e) := oldc hb8 ltT (by simp [go_sem, *])
   replace z2 : w8.cell? ⟨g, 2, none⟩ = some (.int .i64 1) := oldc hb8 ltT (by simp [go_sem, *])
   replace z3 : w8.cell? ⟨g, 3, none⟩ = some (.slice fao fn fcap) := oldc hb8 ltT (by simp [go_sem, *])
   replace z4 : w8.cell? ⟨g, 4, none⟩ = some (.slice dao dn dcap) := oldc hb8 ltT (by simp [go_sem, *])
   have HRU8 := Lib.hid (HRU.out.below (hb8.mono (by simp)))
   clear hb8 HRU
   cases r1
   ·obtain rfl : O = none := by have := HO6.out; rw [this]; simp
    clear HO6 HRU8
    go_wp2
    exact bodyPost_ret (v := .tuple #[.agg #[.string ⟨#[]⟩, .int .i64 0, .int .i64 0, .slice none 0 0, .slice none 0 0], .bool false]) (by simp [results, go_sem, *]) rfl ⟨_, _, _, _, _, rfl, nil_rul _ _ _, bwT⟩
   go_wp2_with fail
   refine (formatRuleS_x _ _ _ _ _ _ (nm, e, 1, XF, XD) HRU8.out.rd K HK.out).mono ?_
   rintro e9 w9 ⟨rfl, hb9⟩
   have s89 := hb9.size
   have hB9 : Below w.heap.size w w9 := hB8.trans (hb9.mono hB8.size)
   replace q_r0 : w9.cell? ⟨w.heap.size, 0, none⟩ = some (.string ⟨#[]⟩) := oldc hb9 ltT (by simp [go_sem, *])
   replace q_r1 : w9.cell? ⟨w.heap.size, 1, none⟩ = some (.int .i64 0) := oldc hb9 ltT (by simp [go_sem, *])
   replace q_r2 : w9.cell? ⟨w.heap.size, 2, none⟩ = some (.int .i64 0) := oldc hb9 ltT (by simp [go_sem, *])
   replace q_r3 : w9.cell? ⟨w.heap.size, 3, none⟩ = some (.slice none 0 0) := oldc hb9 ltT (by simp [go_sem, *])
   replace q_r4 : w9.cell? ⟨w.heap.size, 4, none⟩ = some (.slice none 0 0) := oldc hb9 ltT (by simp [go_sem, *])
   replace f_r : ∀ o, w9.frozen? ⟨w.heap.size, o, none⟩ = false := fun o => (hb9.frozen (p := ⟨w.heap.size, o, none⟩) ltT).trans (by simp [go_sem, *])
   replace z0 : w9.cell? ⟨g, 0, none⟩ = some (.string nm) := oldc hb9 ltT (by simp [go_sem, *])
   replace z1 : w9.cell? ⟨g, 1, none⟩ = some (.int .i64 e) := oldc hb9 ltT (by simp [go_sem, *])
   replace z2 : w9.cell? ⟨g, 2, none⟩ = some (.int .i64 1) := oldc hb9 ltT (by simp [go_sem, *])
   replace z3 : w9.cell? ⟨g, 3, none⟩ = some (.slice fao fn fcap) := oldc hb9 ltT (by simp [go_sem, *])
   replace z4 : w9.cell? ⟨g, 4, none⟩ = some (.slice dao dn dcap) := oldc hb9 ltT (by simp [go_sem, *])
   have HRU9 := Lib.hid (HRU8.out.below hb9)
   clear hb9 HRU8
   by_cases hks : K = s
   ·subst hks
    obtain rfl : O = some (nm, e, 1, XF, XD) := by have := HO6.out; rw [this]; simp
    have q0 : (K.toList == K.toList) = true := by simp
    clear HO6
    go_wp2
    exact bodyPost_ret (v := .tuple #[.agg #[.string nm, .int .i64 e, .int .i64 1, .slice fao fn fcap, .slice dao dn dcap], .bool true]) (by simp [results, go_sem, *]) rfl ⟨_, _, _, _, _, rfl, (HRU9.out.keep zmT).mono (by omega) (by simp; omega), bwT⟩
   ·obtain rfl : O = none := by have := HO6.out; rw [this]; exact if_neg (fun h => hks h.2)
    have q0 : (K.toList == s.toList) = false := by rw [text_eq, decide_eq_false hks]
    clear HO6 hks HRU9
    go_wp2
    exact bodyPost_ret (v := .tuple #[.agg #[.string ⟨#[]⟩, .int .i64 0, .int .i64 0, .slice none 0 0, .slice none 0 0], .bool false]) (by simp [results, go_sem, *]) rfl ⟨_, _, _, _, _, rfl, nil_rul _ _ _, bwT⟩
  have h94 : (((u[0]'hu0).toNat : Int) == 94) = false := by rw [beq_eq_false_iff_ne]; intro h; exact e94 (UInt8.toNat.inj (by have : (94 : UInt8).toNat = 94 := rfl; omega))
  have hm0 : (0 : Int) ≤ (u.size : Int) - 1 := by omega
  have hm1 : (u.size : Int) - 1 < (u.size : Int) := by omega
  have hm2 : (u.size : Int) - 1 ≤ (u.size : Int) := by omega
  have hm3 : (1 : Int) ≤ (u.size : Int) := by omega
  by_cases e36 : u[u.size - 1]'hu1 = 36
  ·have h36 : (((u[u.size - 1]'hu1).toNat : Int) == 36) = true := by rw [e36]; rfl
   have HS1 := Lib.hid (show ruleS1 u.data.toList = (2, (u.extract 0 (u.size - 1)).data.toList) by rw [ruleS1_two hu0 e94 hu1 e36])
   clear e94 e36
   have hvs : (u.extract 0 (u.size - 1)).size ≤ 9223372036854775807 := by rw [ByteArray.size_extract]; omega
   obtain ⟨v, hv⟩ : ∃ v, v = u.extract 0 (u.size - 1) := ⟨_, rfl⟩
   rw [← hv] at HS1 hvs
   have HV := Lib.hid hv.symm
   obtain ⟨XF, hXF⟩ : ∃ X, X = readS v.data.toList := ⟨_, rfl⟩
   obtain ⟨r1, hr1⟩ : ∃ r, r = isRule (nm, e, 2, XF, XD) := ⟨_, rfl⟩
   obtain ⟨K, hK⟩ : ∃ K, K = ruleTxt (nm, e, 2, XF, XD) := ⟨_, rfl⟩
   have HO6 := Lib.hid (HR5.out _ _ _ _ _ HS1.out hXF hr1 hK)
   have HXF := Lib.hid hXF
   have H1 := Lib.hid hr1
   have HK := Lib.hid hK
   clear hXF hr1 hK HR5 HS1
   clear hv
   go_wp2_with fail
   rw [HV.out]
   refine (readS_any _ v (by unfold maxLen; omega) XF HXF.out).mono ?_
   rintro e7 w7 ⟨fv, rfl, hof, hb7⟩
   have hp7 : Below W4.heap.size w6 w7 := Below.trans (show Below W4.heap.size w6 _ from bwT) (hb7.mono (by simp; omega))
   have s67 := hb7.size
   simp only [World.size_setCell] at s67 hof
   obtain ⟨fao, fn, fcap, rfl, -⟩ := hof.rd.shape
   replace q_r0 := oldc hp7 l_r q_r0
   replace q_r1 := oldc hp7 l_r q_r1
   replace q_r2 := oldc hp7 l_r q_r2
   replace q_r3 := oldc hp7 l_r q_r3
   replace q_r4 := oldc hp7 l_r q_r4
   replace f_r : ∀ o, w7.frozen? ⟨w.heap.size, o, none⟩ = false := fun o => (hp7.frozen (p := ⟨w.heap.size, o, none⟩) l_r).trans (f_r o)
   have z0 : w7.cell? ⟨g, 0, none⟩ = some (.string nm) := oldc hb7 ltT (by simp [go_sem, *])
   have z1 : w7.cell? ⟨g, 1, none⟩ = some (.int .i64 e) := oldc hb7 ltT (by simp [go_sem, *])
   have z2 : w7.cell? ⟨g, 2, none⟩ = some (.int .i64 2) := oldc hb7 ltT (by simp [go_sem, *])
   have z3 : w7.cell? ⟨g, 3, none⟩ = some (.slice none 0 0) := oldc hb7 ltT (by simp [go_sem, *])
   have z4 : w7.cell? ⟨g, 4, none⟩ = some (.slice dao dn dcap) := oldc hb7 ltT (by simp [go_sem, *])
   have zf : ∀ o, w7.frozen? ⟨g, o, none⟩ = false := fun o => (hb7.frozen (p := ⟨g, o, none⟩) ltT).trans (by simp [go_sem, *])
   have hB7 : Below w.heap.size w w7 := hB6.trans (hp7.mono hB4.size)
   have l_g7 : g < w7.heap.size := by omega
   have HRU := Lib.hid (show Ow W4.heap.size w7.heap.size (w7.setCell ⟨g, 3, none⟩ (.slice fao fn fcap)) [.string nm, .int .i64 e, .int .i64 2, .slice fao fn fcap, .slice dao dn dcap] ((nm, e, 2, XF, XD) : Rul) from
    Ow.rul_mk (by unfold maxLen; omega) HI.out (by unfold I64; omega) (hof.keep zmT) (((HOD6.out.keep (((Zone.refl dlo dhi w6).setCell (p := ⟨g, 1, none⟩) hd3 _).setCell (p := ⟨g, 2, none⟩) hd3 _)).below hb7).keep ((Zone.refl dlo dhi w7).setCell (p := ⟨g, 3, none⟩) hd3 _)) (by omega) (by omega) hd1 (Nat.le_refl _) (by omega))
   clear hb7 hof hp7 y0 y1 y2 y3 y4 yf HOD6
   go_wp2_with fail
   refine (isRuleS_b _ _ _ _ _ _ (nm, e, 2, XF, XD) HRU.out.rd r1 H1.out).mono ?_
   rintro e8 w8 ⟨rfl, hb8⟩
   have s78 := hb8.size
   simp only [World.size_setCell] at s78
   have hB8 : Below w.heap.size w w8 := Below.trans (show Below w.heap.size w (w7.setCell ⟨g, 3, none⟩ (.slice fao fn fcap)) from bwT) (hb8.mono (by simp; omega))
   replace q_r0 : w8.cell? ⟨w.heap.size, 0, none⟩ = some (.string ⟨#[]⟩) := oldc hb8 ltT (by simp [go_sem, *])
   replace q_r1 : w8.cell? ⟨w.heap.size, 1, none⟩ = some (.int .i64 0) := oldc hb8 ltT (by simp [go_sem, *])
   replace q_r2 : w8.cell? ⟨w.heap.size, 2, none⟩ = some (.int .i64 0) := oldc hb8 ltT (by simp [go_sem, *])
   replace q_r3 : w8.cell? ⟨w.heap.size, 3, none⟩ = some (.slice none 0 0) := oldc hb8 ltT (by simp [go_sem, *])
   replace q_r4 : w8.cell? ⟨w.heap.size, 4, none⟩ = some (.slice none 0 0) := oldc hb8 ltT (by simp [go_sem, *])
   replace f_r : ∀ o, w8.frozen? ⟨w.heap.size, o, none⟩ = false := fun o => (hb8.frozen (p := ⟨w.heap.size, o, none⟩) ltT).trans (by simp [go_sem, *])
   replace z0 : w8.cell? ⟨g, 0, none⟩ = some (.string nm) := oldc hb8 ltT (by simp [go_sem, *])
   replace z1 : w8.cell? ⟨g, 1, none⟩ = some (.int .i64 e) := oldc hb8 ltT (by simp [go_sem, *])
   replace z2 : w8.cell? ⟨g, 2, none⟩ = some (.int .i64 2) := oldc hb8 ltT (by simp [go_sem, *])
   replace z3 : w8.cell? ⟨g, 3, none⟩ = some (.slice fao fn fcap) := oldc hb8 ltT (by simp [go_sem, *])
   replace z4 : w8.cell? ⟨g, 4, none⟩ = some (.slice dao dn dcap) := oldc hb8 ltT (by simp [go_sem, *])
   have HRU8 := Lib.hid (HRU.out.below (hb8.mono (by simp)))
   clear hb8 HRU
   cases r1
   ·obtain rfl : O = none := by have := HO6.out; rw [this]; simp
    clear HO6 HRU8
    go_wp2
    exact bodyPost_ret (v := .tuple #[.agg #[.string ⟨#[]⟩, .int .i64 0, .int .i64 0, .slice none 0 0, .slice none 0 0], .bool false]) (by simp [results, go_sem, *]) rfl ⟨_, _, _, _, _, rfl, nil_rul _ _ _, bwT⟩
   go_wp2_with fail
   refine (formatRuleS_x _ _ _ _ _ _ (nm, e, 2, XF, XD) HRU8.out.rd K HK.out).mono ?_
   rintro e9 w9 ⟨rfl, hb9⟩
   have s89 := hb9.size
   have hB9 : Below w.heap.size w w9 := hB8.trans (hb9.mono hB8.size)
   replace q_r0 : w9.cell? ⟨w.heap.size, 0, none⟩ = some (.string ⟨#[]⟩) := oldc hb9 ltT (by simp [go_sem, *])
   replace q_r1 : w9.cell? ⟨w.heap.size, 1, none⟩ = some (.int .i64 0) := oldc hb9 ltT (by simp [go_sem, *])
   replace q_r2 : w9.cell? ⟨w.heap.size, 2, none⟩ = some (.int .i64 0) := oldc hb9 ltT (by simp [go_sem, *])
   replace q_r3 : w9.cell? ⟨w.heap.size, 3, none⟩ = some (.slice none 0 0) := oldc hb9 ltT (by simp [go_sem, *])
   replace q_r4 : w9.cell? ⟨w.heap.size, 4, none⟩ = some (.slice none 0 0) := oldc hb9 ltT (by simp [go_sem, *])
   replace f_r : ∀ o, w9.frozen? ⟨w.heap.size, o, none⟩ = false := fun o => (hb9.frozen (p := ⟨w.heap.size, o, none⟩) ltT).trans (by simp [go_sem, *])
   replace z0 : w9.cell? ⟨g, 0, none⟩ = some (.string nm) := oldc hb9 ltT (by simp [go_sem, *])
   replace z1 : w9.cell? ⟨g, 1, none⟩ = some (.int .i64 e) := oldc hb9 ltT (by simp [go_sem, *])
   replace z2 : w9.cell? ⟨g, 2, none⟩ = some (.int .i64 2) := oldc hb9 ltT (by simp [go_sem, *])
   replace z3 : w9.cell? ⟨g, 3, none⟩ = some (.slice fao fn fcap) := oldc hb9 ltT (by simp [go_sem, *])
   replace z4 : w9.cell? ⟨g, 4, none⟩ = some (.slice dao dn dcap) := oldc hb9 ltT (by simp [go_sem, *])
   have HRU9 := Lib.hid (HRU8.out.below hb9)
   clear hb9 HRU8
   by_cases hks : K = s
   ·subst hks
    obtain rfl : O = some (nm, e, 2, XF, XD) := by have := HO6.out; rw [this]; simp
    have q0 : (K.toList == K.toList) = true := by simp
    clear HO6
    go_wp2
    exact bodyPost_ret (v := .tuple #[.agg #[.string nm, .int .i64 e, .int .i64 2, .slice fao fn fcap, .slice dao dn dcap], .bool true]) (by simp [results, go_sem, *]) rfl ⟨_, _, _, _, _, rfl, (HRU9.out.keep zmT).mono (by omega) (by simp; omega), bwT⟩
   ·obtain rfl : O = none := by have := HO6.out; rw [this]; exact if_neg (fun h => hks h.2)
    have q0 : (K.toList == s.toList) = false := by rw [text_eq, decide_eq_false hks]
    clear HO6 hks HRU9
    go_wp2
    exact bodyPost_ret (v := .tuple #[.agg #[.string ⟨#[]⟩, .int .i64 0, .int .i64 0, .slice none 0 0, .slice none 0 0], .bool false]) (by simp [results, go_sem, *]) rfl ⟨_, _, _, _, _, rfl, nil_rul _ _ _, bwT⟩
  ·have h36 : (((u[u.size - 1]'hu1).toNat : Int) == 36) = false := by rw [beq_eq_false_iff_ne]; intro h; exact e36 (UInt8.toNat.inj (by have : (36 : UInt8).toNat = 36 := rfl; omega))
   have HS1 := Lib.hid (show ruleS1 u.data.toList = (0, u.data.toList) by rw [ruleS1_zero hu0 e94 hu1 e36])
   clear e94 e36
   have hvs : (u).size ≤ 9223372036854775807 := by omega
   obtain ⟨v, hv⟩ : ∃ v, v = u := ⟨_, rfl⟩
   subst hv
   obtain ⟨XF, hXF⟩ : ∃ X, X = readS v.data.toList := ⟨_, rfl⟩
   obtain ⟨r1, hr1⟩ : ∃ r, r = isRule (nm, e, 0, XF, XD) := ⟨_, rfl⟩
   obtain ⟨K, hK⟩ : ∃ K, K = ruleTxt (nm, e, 0, XF, XD) := ⟨_, rfl⟩
   have HO6 := Lib.hid (HR5.out _ _ _ _ _ HS1.out hXF hr1 hK)
   have HXF := Lib.hid hXF
   have H1 := Lib.hid hr1
   have HK := Lib.hid hK
   clear hXF hr1 hK HR5 HS1
   go_wp2_with fail
   refine (readS_any _ v (by unfold maxLen; omega) XF HXF.out).mono ?_
   rintro e7 w7 ⟨fv, rfl, hof, hb7⟩
   have hp7 : Below W4.heap.size w6 w7 := Below.trans (show Below W4.heap.size w6 _ from bwT) (hb7.mono (by simp; omega))
   have s67 := hb7.size
   simp only [World.size_setCell] at s67 hof
   obtain ⟨fao, fn, fcap, rfl, -⟩ := hof.rd.shape
   replace q_r0 := oldc hp7 l_r q_r0
   replace q_r1 := oldc hp7 l_r q_r1
   replace q_r2 := oldc hp7 l_r q_r2
   replace q_r3 := oldc hp7 l_r q_r3
   replace q_r4 := oldc hp7 l_r q_r4
   replace f_r : ∀ o, w7.frozen? ⟨w.heap.size, o, none⟩ = false := fun o => (hp7.frozen (p := ⟨w.heap.size, o, none⟩) l_r).trans (f_r o)
   have z0 : w7.cell? ⟨g, 0, none⟩ = some (.string nm) := oldc hb7 ltT (by simp [go_sem, *])
   have z1 : w7.cell? ⟨g, 1, none⟩ = some (.int .i64 e) := oldc hb7 ltT (by simp [go_sem, *])
   have z2 : w7.cell? ⟨g, 2, none⟩ = some (.int .i64 0) := oldc hb7 ltT (by simp [go_sem, *])
   have z3 : w7.cell? ⟨g, 3, none⟩ = some (.slice none 0 0) := oldc hb7 ltT (by simp [go_sem, *])
   have z4 : w7.cell? ⟨g, 4, none⟩ = some (.slice dao dn dcap) := oldc hb7 ltT (by simp [go_sem, *])
   have zf : ∀ o, w7.frozen? ⟨g, o, none⟩ = false := fun o => (hb7.frozen (p := ⟨g, o, none⟩) ltT).trans (by simp [go_sem, *])
   have hB7 : Below w.heap.size w w7 := hB6.trans (hp7.mono hB4.size)
   have l_g7 : g < w7.heap.size := by omega
   have HRU := Lib.hid (show Ow W4.heap.size w7.heap.size (w7.setCell ⟨g, 3, none⟩ (.slice fao fn fcap)) [.string nm, .int .i64 e, .int .i64 0, .slice fao fn fcap, .slice dao dn dcap] ((nm, e, 0, XF, XD) : Rul) from
    Ow.rul_mk (by unfold maxLen; omega) HI.out (by unfold I64; omega) (hof.keep zmT) (((HOD6.out.keep ((Zone.refl dlo dhi w6).setCell (p := ⟨g, 1, none⟩) hd3 _)).below hb7).keep ((Zone.refl dlo dhi w7).setCell (p := ⟨g, 3, none⟩) hd3 _)) (by omega) (by omega) hd1 (Nat.le_refl _) (by omega))
   clear hb7 hof hp7 y0 y1 y2 y3 y4 yf HOD6
   go_wp2_with fail
   refine (isRuleS_b _ _ _ _ _ _ (nm, e, 0, XF, XD) HRU.out.rd r1 H1.out).mono ?_
   rintro e8 w8 ⟨rfl, hb8⟩
   have s78 := hb8.size
   simp only [World.size_setCell] at s78
   have hB8 : Below w.heap.size w w8 := Below.trans (show Below w.heap.size w (w7.setCell ⟨g, 3, none⟩ (.slice fao fn fcap)) from bwT) (hb8.mono (by simp; omega))
   replace q_r0 : w8.cell? ⟨w.heap.size, 0, none⟩ = some (.string ⟨#[]⟩) := oldc hb8 ltT (by simp [go_sem, *])
   replace q_r1 : w8.cell? ⟨w.heap.size, 1, none⟩ = some (.int .i64 0) := oldc hb8 ltT (by simp [go_sem, *])
   replace q_r2 : w8.cell? ⟨w.heap.size, 2, none⟩ = some (.int .i64 0) := oldc hb8 ltT (by simp [go_sem, *])
   replace q_r3 : w8.cell? ⟨w.heap.size, 3, none⟩ = some (.slice none 0 0) := oldc hb8 ltT (by simp [go_sem, *])
   replace q_r4 : w8.cell? ⟨w.heap.size, 4, none⟩ = some (.slice none 0 0) := oldc hb8 ltT (by simp [go_sem, *])
   replace f_r : ∀ o, w8.frozen? ⟨w.heap.size, o, none⟩ = false := fun o => (hb8.frozen (p := ⟨w.heap.size, o, none⟩) ltT).trans (by simp [go_sem, *])
   replace z0 : w8.cell? ⟨g, 0, none⟩ = some (.string nm) := oldc hb8 ltT (by simp [go_sem, *])
   replace z1 : w8.cell? ⟨g, 1, none⟩ = some (.int .i64 e) := oldc hb8 ltT (by simp [go_sem, *])
   replace z2 : w8.cell? ⟨g, 2, none⟩ = some (.int .i64 0) := oldc hb8 ltT (by simp [go_sem, *])
   replace z3 : w8.cell? ⟨g, 3, none⟩ = some (.slice fao fn fcap) := oldc hb8 ltT (by simp [go_sem, *])
   replace z4 : w8.cell? ⟨g, 4, none⟩ = some (.slice dao dn dcap) := oldc hb8 ltT (by simp [go_sem, *])
   have HRU8 := Lib.hid (HRU.out.below (hb8.mono (by simp)))
   clear hb8 HRU
   cases r1
   ·obtain rfl : O = none := by have := HO6.out; rw [this]; simp
    clear HO6 HRU8
    go_wp2
    exact bodyPost_ret (v := .tuple #[.agg #[.string ⟨#[]⟩, .int .i64 0, .int .i64 0, .slice none 0 0, .slice none 0 0], .bool false]) (by simp [results, go_sem, *]) rfl ⟨_, _, _, _, _, rfl, nil_rul _ _ _, bwT⟩
   go_wp2_with fail
   refine (formatRuleS_x _ _ _ _ _ _ (nm, e, 0, XF, XD) HRU8.out.rd K HK.out).mono ?_
   rintro e9 w9 ⟨rfl, hb9⟩
   have s89 := hb9.size
   have hB9 : Below w.heap.size w w9 := hB8.trans (hb9.mono hB8.size)
   replace q_r0 : w9.cell? ⟨w.heap.size, 0, none⟩ = some (.string ⟨#[]⟩) := oldc hb9 ltT (by simp [go_sem, *])
   replace q_r1 : w9.cell? ⟨w.heap.size, 1, none⟩ = some (.int .i64 0) := oldc hb9 ltT (by simp [go_sem, *])
   replace q_r2 : w9.cell? ⟨w.heap.size, 2, none⟩ = some (.int .i64 0) := oldc hb9 ltT (by simp [go_sem, *])
   replace q_r3 : w9.cell? ⟨w.heap.size, 3, none⟩ = some (.slice none 0 0) := oldc hb9 ltT (by simp [go_sem, *])
   replace q_r4 : w9.cell? ⟨w.heap.size, 4, none⟩ = some (.slice none 0 0) := oldc hb9 ltT (by simp [go_sem, *])
   replace f_r : ∀ o, w9.frozen? ⟨w.heap.size, o, none⟩ = false := fun o => (hb9.frozen (p := ⟨w.heap.size, o, none⟩) ltT).trans (by simp [go_sem, *])
   replace z0 : w9.cell? ⟨g, 0, none⟩ = some (.string nm) := oldc hb9 ltT (by simp [go_sem, *])
   replace z1 : w9.cell? ⟨g, 1, none⟩ = some (.int .i64 e) := oldc hb9 ltT (by simp [go_sem, *])
   replace z2 : w9.cell? ⟨g, 2, none⟩ = some (.int .i64 0) := oldc hb9 ltT (by simp [go_sem, *])
   replace z3 : w9.cell? ⟨g, 3, none⟩ = some (.slice fao fn fcap) := oldc hb9 ltT (by simp [go_sem, *])
   replace z4 : w9.cell? ⟨g, 4, none⟩ = some (.slice dao dn dcap) := oldc hb9 ltT (by simp [go_sem, *])
   have HRU9 := Lib.hid (HRU8.out.below hb9)
   clear hb9 HRU8
   by_cases hks : K = s
   ·subst hks
    obtain rfl : O = some (nm, e, 0, XF, XD) := by have := HO6.out; rw [this]; simp
    have q0 : (K.toList == K.toList) = true := by simp
    clear HO6
    go_wp2
    exact bodyPost_ret (v := .tuple #[.agg #[.string nm, .int .i64 e, .int .i64 0, .slice fao fn fcap, .slice dao dn dcap], .bool true]) (by simp [results, go_sem, *]) rfl ⟨_, _, _, _, _, rfl, (HRU9.out.keep zmT).mono (by omega) (by simp; omega), bwT⟩
   ·obtain rfl : O = none := by have := HO6.out; rw [this]; exact if_neg (fun h => hks h.2)
    have q0 : (K.toList == s.toList) = false := by rw [text_eq, decide_eq_false hks]
    clear HO6 hks HRU9
    go_wp2
    exact bodyPost_ret (v := .tuple #[.agg #[.string ⟨#[]⟩, .int .i64 0, .int .i64 0, .slice none 0 0, .slice none 0 0], .bool false]) (by simp [results, go_sem, *]) rfl ⟨_, _, _, _, _, rfl, nil_rul _ _ _, bwT⟩
end Go.Proofs.YtdpkldapobbnpaaGreatDoor
