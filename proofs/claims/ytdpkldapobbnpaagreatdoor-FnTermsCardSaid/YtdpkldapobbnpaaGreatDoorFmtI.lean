/- Contracts: how types are written (impl). -/
import Derived.Test.YtdpkldapobbnpaaGreatDoorTrmC
import Derived.Test.YtdpkldapobbnpaaGreatDoorFmt
namespace Go.Proofs.YtdpkldapobbnpaaGreatDoor
set_option linter.unusedVariables false
set_option linter.unusedSimpArgs false
open Go.RowKit
set_option maxHeartbeats 1000000 in
theorem prefixI_any (w : World) (e : Int) (he : 0 ≤ e ∧ e ≤ 2) (X : ByteArray) (hX : X = egoTxt e) : Calls Tryz.prog 79 #[.int .i64 e] w (PostV w (.string X)) := by
 rcases (show e = 0 ∨ e = 1 ∨ e = 2 by omega) with rfl | rfl | rfl <;> subst hX
 ·go_enter Tryz.func79, Tryz.ntmps79
  go_wp2
  go_ret
  exact ⟨rfl, bwT⟩
 ·go_enter Tryz.func79, Tryz.ntmps79
  go_wp2
  go_ret
  exact ⟨rfl, bwT⟩
 ·go_enter Tryz.func79, Tryz.ntmps79
  go_wp2
  go_ret
  exact ⟨rfl, bwT⟩
set_option maxHeartbeats 1000000 in
theorem orDotI_any (w : World) (s : ByteArray) : Calls Tryz.prog 81 #[.string s] w (PostV w (.string (dotT s))) := by
 by_cases h : s = ⟨#[]⟩
 ·subst h
  go_enter Tryz.func81, Tryz.ntmps81
  go_wp2
  go_ret
  exact ⟨rfl, bwT⟩
 ·unfold dotT
  rw [if_neg h]
  have h2 := ne_text h
  go_enter Tryz.func81, Tryz.ntmps81
  go_wp2
  go_ret
  exact ⟨rfl, bwT⟩
set_option maxHeartbeats 4000000 in
theorem stepsTextI_any {z : Bool} {lo hi : Nat} (w : World) (v : Value) (l : List Stp) (h : Rd z lo hi w [v] l) (hl : l.length ≤ 8) (hk : SOk l) : Calls Tryz.prog 80 #[v] w (PostV w (.string (stepsT l))) := by
 obtain ⟨ao, n, cap, rfl, hn, hnc, hcm, -⟩ := h.shape
 subst hn
 have HB := Lib.hid h
 have HK := Lib.hid hk
 clear h hk
 go_enter Tryz.func80, Tryz.ntmps80
 go_wp2
 go_loopw [3, 5, 8] (fun s3 _ s8 wr => ∃ i : Nat, i ≤ l.length ∧ s8 = .int .i64 i ∧ s3 = .string (stepsT (l.take i)) ∧ Below w.heap.size w wr) (fun _ _ s8 _ => l.length - (intOf s8).toNat)
 case atStart => exact ⟨0, Nat.zero_le _, rfl, rfl, Below.refl _ _⟩
 case round =>
  obtain ⟨wb, hwb⟩ : ∃ wm : World, wm = wr := ⟨_, rfl⟩
  subst hwb
  obtain ⟨i, hi, rfl, rfl, hbb⟩ := hrel
  have sB := hbb.size
  obtain ⟨X, hX⟩ : ∃ X, X = stepsT (l.take i) := ⟨_, rfl⟩
  rw [← hX]
  have HX := Lib.hid hX
  clear hX
  by_cases hi0 : i < l.length
  ·have hmi : (i : Int) < (l.length : Int) := by omega
   obtain ⟨sb, soff, ki, ag, rfl, hx, c0, c1, -, -, -, -, sbl, -⟩ := HB.out.stp_at (i := i) hi0
   have hka := HK.out _ (List.mem_of_getElem? hx.out)
   dsimp only at hka
   have k0 := oldc hbb sbl c0
   have k1 := oldc hbb sbl c1
   have HX2 := Lib.hid (show X ++ (aTxt ag ++ kTxt ki) = stepsT (l.take (i + 1)) by rw [HX.out, take_snoc hx.out, stepsT, stepsT, List.foldl_append]; rfl)
   have hw : IntKind.i64.wrap (ki - 1) = ki - 1 := IntWalk.i64_in _ (by omega)
   have h0 : (0 : Int) ≤ ki := by omega
   have h1 : (0 : Int) ≤ ki - 1 := by omega
   have h2 : ki - 1 ≤ ki := by omega
   have h3 : ki ≤ 8 := hka.1.2
   obtain ⟨K, hK⟩ : ∃ K, K = kTxt ki := ⟨_, rfl⟩
   obtain ⟨hkT, hKs⟩ := kTxt_at hka.1
   rw [← hK] at hkT hKs HX2
   have hXs : X.size ≤ 16 := by
    have := stepsT_size (l.take i) (fun x hx => HK.out x (List.mem_of_mem_take hx))
    rw [← HX.out, List.length_take] at this; omega
   have hX1 : ¬ 9223372036854775807 < X.size + 1 := by omega
   have hX2 : ¬ 9223372036854775807 < X.size + 2 := by omega
   clear hK
   go_upto_region 5 with fail
   rcases (show ag = 0 ∨ ag = 1 ∨ ag = 2 by omega) with rfl | rfl | rfl
   ·refine wp_region_held_drew (S := (fun w' => w'.cell? ⟨wb.heap.size, 0, none⟩ = some (.int .i64 ki) ∧ w'.cell? ⟨wb.heap.size, 1, none⟩ = some (.int .i64 0))) (by kernel_rfl) ?_ (fun hHeld => ?_)
    ·first | exact trivial | ((try dsimp only); go_keep)
    refine tkA 0 ?_
    try simp only [Act.put, cA, cB, cC]
    refine tkA 2 ?_
    try simp only [Act.put, cA, cB, cC]
    refine tkA 6 ?_
    try simp only [Act.put, cA, cB, cC]
    refine tkA 9 ?_
    try simp only [Act.put, cA, cB, cC]
    refine tkA 3 ?_
    try simp only [Act.put, cA, cB, cC]
    refine tkA 7 ?_
    try simp only [Act.put, cA, cB, cC]
    refine tkA 10 ?_
    try simp only [Act.put, cA, cB, cC]
    refine tkA 8 ?_
    try simp only [Act.put, cA, cB, cC]
    refine tkA 11 ?_
    try simp only [Act.put, cA, cB, cC]
    refine wpAnyH_ready (rs := [1]) (by kernel_rfl) (by simp) ?_
    refine rdR (fun K hK => ?_) ?_
    ·go_simp
     refine hK.out _ _ ?_ (fun hHeld => ?_)
     ·exact kpT
     clear hK K
     try simp only [Act.put, cA, cB, cC]
     refine tkA 4 ?_
     try simp only [Act.put, cA, cB, cC]
     refine wpAnyH_ready (rs := [5]) (by kernel_rfl) (by simp) ?_
     refine rdR (fun K hK => ?_) ?_
     ·go_simp
      refine hK.out _ _ ?_ (fun hHeld => ?_)
      ·exact kpT
      clear hK K
      try simp only [Act.put, cA, cB, cC]
      refine tkA 12 ?_
      try simp only [Act.put, cA, cB, cC]
      refine tkA 13 ?_
      try simp only [Act.put, cA, cB, cC]
      refine tkA 14 ?_
      try simp only [Act.put, cA, cB, cC]
      refine wpAnyH_done (by kernel_rfl) ?_ _
      have HX3 := Lib.hid (show X ++ (⟨#[]⟩ ++ K) = stepsT (l.take (i + 1)) from HX2.out)
      rw [HX3.out]
      go_wp2
      go_roundw
      case rel => exact ⟨i + 1, by omega, by go_num, rfl, bwT⟩
      case measure => simp [intOf]; omega
     exact AllReadyH.nil
    exact AllReadyH.nil
   ·refine wp_region_held_drew (S := (fun w' => w'.cell? ⟨wb.heap.size, 0, none⟩ = some (.int .i64 ki) ∧ w'.cell? ⟨wb.heap.size, 1, none⟩ = some (.int .i64 1))) (by kernel_rfl) ?_ (fun hHeld => ?_)
    ·first | exact trivial | ((try dsimp only); go_keep)
    refine tkA 0 ?_
    try simp only [Act.put, cA, cB, cC]
    refine tkA 2 ?_
    try simp only [Act.put, cA, cB, cC]
    refine tkA 6 ?_
    try simp only [Act.put, cA, cB, cC]
    refine tkA 9 ?_
    try simp only [Act.put, cA, cB, cC]
    refine tkA 3 ?_
    try simp only [Act.put, cA, cB, cC]
    refine tkA 7 ?_
    try simp only [Act.put, cA, cB, cC]
    refine tkA 10 ?_
    try simp only [Act.put, cA, cB, cC]
    refine tkA 8 ?_
    try simp only [Act.put, cA, cB, cC]
    refine tkA 11 ?_
    try simp only [Act.put, cA, cB, cC]
    refine wpAnyH_ready (rs := [1]) (by kernel_rfl) (by simp) ?_
    refine rdR (fun K hK => ?_) ?_
    ·go_simp
     refine hK.out _ _ ?_ (fun hHeld => ?_)
     ·exact kpT
     clear hK K
     try simp only [Act.put, cA, cB, cC]
     refine tkA 4 ?_
     try simp only [Act.put, cA, cB, cC]
     refine wpAnyH_ready (rs := [5]) (by kernel_rfl) (by simp) ?_
     refine rdR (fun K hK => ?_) ?_
     ·go_simp
      refine hK.out _ _ ?_ (fun hHeld => ?_)
      ·exact kpT
      clear hK K
      try simp only [Act.put, cA, cB, cC]
      refine tkA 12 ?_
      try simp only [Act.put, cA, cB, cC]
      refine tkA 13 ?_
      try simp only [Act.put, cA, cB, cC]
      refine tkA 14 ?_
      try simp only [Act.put, cA, cB, cC]
      refine wpAnyH_done (by kernel_rfl) ?_ _
      have HX3 := Lib.hid (show X ++ (⟨#[101]⟩ ++ K) = stepsT (l.take (i + 1)) from HX2.out)
      rw [HX3.out]
      go_wp2
      go_roundw
      case rel => exact ⟨i + 1, by omega, by go_num, rfl, bwT⟩
      case measure => simp [intOf]; omega
     exact AllReadyH.nil
    exact AllReadyH.nil
   ·refine wp_region_held_drew (S := (fun w' => w'.cell? ⟨wb.heap.size, 0, none⟩ = some (.int .i64 ki) ∧ w'.cell? ⟨wb.heap.size, 1, none⟩ = some (.int .i64 2))) (by kernel_rfl) ?_ (fun hHeld => ?_)
    ·first | exact trivial | ((try dsimp only); go_keep)
    refine tkA 0 ?_
    try simp only [Act.put, cA, cB, cC]
    refine tkA 2 ?_
    try simp only [Act.put, cA, cB, cC]
    refine tkA 6 ?_
    try simp only [Act.put, cA, cB, cC]
    refine tkA 9 ?_
    try simp only [Act.put, cA, cB, cC]
    refine tkA 3 ?_
    try simp only [Act.put, cA, cB, cC]
    refine tkA 7 ?_
    try simp only [Act.put, cA, cB, cC]
    refine tkA 10 ?_
    try simp only [Act.put, cA, cB, cC]
    refine tkA 8 ?_
    try simp only [Act.put, cA, cB, cC]
    refine tkA 11 ?_
    try simp only [Act.put, cA, cB, cC]
    refine wpAnyH_ready (rs := [1]) (by kernel_rfl) (by simp) ?_
    refine rdR (fun K hK => ?_) ?_
    ·go_simp
     refine hK.out _ _ ?_ (fun hHeld => ?_)
     ·exact kpT
     clear hK K
     try simp only [Act.put, cA, cB, cC]
     refine tkA 4 ?_
     try simp only [Act.put, cA, cB, cC]
     refine wpAnyH_ready (rs := [5]) (by kernel_rfl) (by simp) ?_
     refine rdR (fun K hK => ?_) ?_
     ·go_simp
      refine hK.out _ _ ?_ (fun hHeld => ?_)
      ·exact kpT
      clear hK K
      try simp only [Act.put, cA, cB, cC]
      refine tkA 12 ?_
      try simp only [Act.put, cA, cB, cC]
      refine tkA 13 ?_
      try simp only [Act.put, cA, cB, cC]
      refine tkA 14 ?_
      try simp only [Act.put, cA, cB, cC]
      refine wpAnyH_done (by kernel_rfl) ?_ _
      have HX3 := Lib.hid (show X ++ (⟨#[121]⟩ ++ K) = stepsT (l.take (i + 1)) from HX2.out)
      rw [HX3.out]
      go_wp2
      go_roundw
      case rel => exact ⟨i + 1, by omega, by go_num, rfl, bwT⟩
      case measure => simp [intOf]; omega
     exact AllReadyH.nil
    exact AllReadyH.nil
  ·obtain rfl : i = l.length := by omega
   have nI : ¬ (l.length : Int) < (l.length : Int) := by omega
   rw [List.take_length] at HX
   go_wp2
   go_ret
   exact ⟨by rw [← HX.out]; rfl, hbb⟩
set_option maxRecDepth 20000 in
set_option maxHeartbeats 4000000 in
theorem formatI_any {z : Bool} {lo hi : Nat} (w : World) (a b : Value) (t : Kin) (h : Rd z lo hi w [a, b] t) : Calls Tryz.prog 38 #[.agg #[a, b]] w (PostV w (.string (kinTxt t))) := by
 obtain ⟨R, hR⟩ : ∃ R, R = kinTxt t := ⟨_, rfl⟩
 rw [← hR]
 have HR := Lib.hid (show R = if isKin t = true then egoTxt t.1 ++ dotT (stepsT t.2) else ⟨#[]⟩ from hR)
 clear hR
 have HT := Lib.hid h
 obtain ⟨rfl, -, hb⟩ := h.kin
 obtain ⟨sao, sn, scap, rfl, hsn, -⟩ := hb.shape
 subst hsn
 have HB := Lib.hid hb
 obtain ⟨r1, hlet_r1⟩ : ∃ r, r = isKin t := ⟨_, rfl⟩
 have H1 := Lib.hid hlet_r1
 clear hlet_r1
 clear h hb
 go_enter Tryz.func38, Tryz.ntmps38
 go_wp2_with fail
 refine (isTypeI_b _ _ _ t (HT.out.below bwT) r1 H1.out).mono ?_
 rintro e1 w1 ⟨rfl, hbw1⟩
 have hpw1 : Below w.heap.size w w1 := Below.after bwT hbw1 szT
 have sw1 := hpw1.size
 have hBw1 : Below w.heap.size w w1 := hpw1
 have l_t : w.heap.size < w1.heap.size := by have := hbw1.size; simp at this; omega
 have q_t0 : w1.cell? ⟨w.heap.size, 0, none⟩ = some (.int .i64 t.1) := oldc hbw1 ltT (by simp [go_sem])
 have q_t1 : w1.cell? ⟨w.heap.size, 1, none⟩ = some (.slice sao t.2.length scap) := oldc hbw1 ltT (by simp [go_sem])
 clear hbw1 hpw1
 cases r1
 ·obtain rfl : R = ⟨#[]⟩ := by rw [HR.out, if_neg (by rw [← H1.out]; decide)]
  clear HR H1 HT HB
  go_wp2
  go_ret
  exact ⟨rfl, hBw1⟩
 have hk := isKin_facts H1.out.symm
 have hk1 := hk.1
 have hk2 := hk.2.1
 have HK := Lib.hid hk.2.2.2
 obtain ⟨E, hE⟩ : ∃ E, E = egoTxt t.1 := ⟨_, rfl⟩
 obtain ⟨S, hS⟩ : ∃ S, S = stepsT t.2 := ⟨_, rfl⟩
 obtain ⟨D, hD⟩ : ∃ D, D = dotT S := ⟨_, rfl⟩
 have HRE := Lib.hid (show R = E ++ D by rw [HR.out, if_pos H1.out.symm, hE, hD, hS])
 have hs1 : E.size ≤ 2 := by rw [hE]; exact egoTxt_size _
 have hs2 : D.size ≤ 17 := by
  have h2 := dotT_size (stepsT t.2)
  have h3 := stepsT_size t.2 HK.out
  rw [hD, hS]; omega
 have hcc : ¬ 9223372036854775807 < E.size + D.size := by omega
 have HE := Lib.hid hE
 have HS := Lib.hid hS
 have HD := Lib.hid hD
 obtain ⟨W1, hW1⟩ : ∃ W : World, W = w1 := ⟨_, rfl⟩
 subst hW1
 have hB1 : Below w.heap.size w W1 := hBw1
 have l1 : w.heap.size < W1.heap.size := l_t
 clear hk hE hS hD HR H1
 go_upto_region 3 with fail
 refine wp_region_held_drew (S := (fun w' => w'.cell? ⟨w.heap.size, 0, none⟩ = some (.int .i64 t.1) ∧ w'.cell? ⟨w.heap.size, 1, none⟩ = some (.slice sao t.2.length scap))) (by kernel_rfl) ?_ (fun hHeld => ?_)
 ·first | exact trivial | ((try dsimp only); go_keep)
 refine tkA 0 ?_
 try simp only [Act.put, cA, cB, cC]
 refine tkA 3 ?_
 try simp only [Act.put, cA, cB, cC]
 refine tkA 1 ?_
 try simp only [Act.put, cA, cB, cC]
 refine tkA 4 ?_
 try simp only [Act.put, cA, cB, cC]
 refine wpAnyH_ready (rs := [2]) (by kernel_rfl) (by simp) ?_
 refine rdR (fun K hK => ?_) ?_
 ·go_simp
  refine (prefixI_any _ t.1 hk1 E HE.out).mono ?_
  rintro e2 w2 ⟨rfl, hb2⟩
  have hp2 : Below W1.heap.size W1 w2 := Below.trans (show Below W1.heap.size W1 _ from bwT) (hb2.mono szT)
  have sz2 := hp2.size
  have hS2 := And.intro (oldc hp2 l1 q_t0) (oldc hp2 l1 q_t1)
  clear hb2
  refine hK.out _ _ ?_ (fun hHeld => ?_)
  ·exact kpT
  clear hK K
  try simp only [Act.put, cA, cB, cC]
  refine wpAnyH_ready (rs := [5]) (by kernel_rfl) (by simp) ?_
  refine rdR (fun K hK => ?_) ?_
  ·go_simp
   refine (stepsTextI_any _ _ t.2 (HB.out.below ?b1) hk2 HK.out).mono ?_
   case b1 => exact Below.trans hB1 (Below.mono bwT hB1.size)
   rw [← HS.out]
   rintro e3 w3 ⟨rfl, hb3⟩
   have hp3 : Below W1.heap.size W1 w3 := Below.trans (show Below W1.heap.size W1 _ from bwT) (hb3.mono szT)
   have sz3 := hp3.size
   have hS3 := And.intro (oldc hp3 l1 q_t0) (oldc hp3 l1 q_t1)
   clear hb3
   refine hK.out _ _ ?_ (fun hHeld => ?_)
   ·exact kpT
   clear hK K
   try simp only [Act.put, cA, cB, cC]
   refine wpAnyH_ready (rs := [6]) (by kernel_rfl) (by simp) ?_
   refine rdR (fun K hK => ?_) ?_
   ·go_simp
    refine (orDotI_any _ S).mono ?_
    rw [← HD.out]
    rintro e4 w4 ⟨rfl, hb4⟩
    have hp4 : Below W1.heap.size W1 w4 := Below.trans (show Below W1.heap.size W1 _ from bwT) (hb4.mono szT)
    have sz4 := hp4.size
    have hS4 := And.intro (oldc hp4 l1 q_t0) (oldc hp4 l1 q_t1)
    clear hb4
    refine hK.out _ _ ?_ (fun hHeld => ?_)
    ·exact kpT
    clear hK K
    try simp only [Act.put, cA, cB, cC]
    refine tkA 7 ?_
    try simp only [Act.put, cA, cB, cC]
    refine tkA 8 ?_
    try simp only [Act.put, cA, cB, cC]
    refine wpAnyH_done (by kernel_rfl) ?_ _
    rw [← HRE.out]
    go_wp2
    go_ret
    exact ⟨rfl, hB1.trans (Below.mono bwT hB1.size)⟩
   exact AllReadyH.nil
  exact AllReadyH.nil
 exact AllReadyH.nil
end Go.Proofs.YtdpkldapobbnpaaGreatDoor
