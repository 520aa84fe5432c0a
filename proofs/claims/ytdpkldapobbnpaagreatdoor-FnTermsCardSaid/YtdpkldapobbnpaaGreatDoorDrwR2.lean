/- Contracts: the reference's draws of lists of rules. Written by drwr2_gen.py. -/
import Derived.Test.YtdpkldapobbnpaaGreatDoorDrwR
namespace Go.Proofs.YtdpkldapobbnpaaGreatDoor
set_option linter.unusedVariables false
set_option linter.unusedSimpArgs false
open Go.RowKit
section
variable {P : Program} {α : Type} [Rep α] {nd : Bool} {lo lo' hi : Nat} {w : World} {E : TypeId} {v : Value} {xs : List α}
theorem step_spread {ops : Array Oper} {o : Oper} {a : Act} {K : Act → World → Prop} {Q : Exit → Act → World → Prop} {EE : Prop} (hgd : o.guard = none) {s x : Operand} {t : TypeId}
  (ho : o.op = .call { callee := .builtin .append, args := #[s, x], argTypes := #[t, t] })
  {z0 : Value} {bytes : Nat} (hT : SlTy P t E z0 (Rep.sz α) bytes) (hsz : 0 < Rep.sz α) (hG : GL nd lo lo' hi w E v xs) (hs : a.eval s = v)
  {vs : Value} (hx : a.eval x = vs) {ys : List α} {lx hx' : Nat}
  (hy : It nd lx hx' w [vs] ys) (hl : lo' ≤ lx) (hd : hi ≤ lx ∨ (hx' ≤ lo ∧ (nd = true → hx' ≤ lo'))) (h63 : xs.length + ys.length ≤ maxLen) (hbytes : (xs.length + ys.length) * bytes ≤ 140737488355328) (hlo : lo ≤ w.heap.size)
  (h : ∀ v' w', GL nd lo lo' w'.heap.size w' E v' (xs ++ ys) → w.grownBy w' v.ownBlock → Below lo w w' → K (a.put o.dst v') w') :
  if Region.wanted o (yielded ops a.tmps) = true then Oper.wp P o a w K Q else EE := by
 have hw : Region.wanted o (yielded ops a.tmps) = true := by simp [Region.wanted, hgd]
 rw [if_pos hw]
 obtain ⟨fp, ⟨v1, hv1, ao, n, cap, rfl, e1, e2, e3, e4, hr⟩, hz, hn⟩ := hy
 simp at hv1; subst hv1
 have hG' := hG
 obtain ⟨css, fps, hown, _, hf, hg, _⟩ := hG'
 subst e1
 have key : ∃ v' w', (Builtin.append_ #[t, t] o.type #[v, .slice ao ys.length cap]).run P w = .ok v' w' ∧ GL nd lo lo' w'.heap.size w' E v' (xs ++ ys) ∧ w.grownBy w' v.ownBlock ∧ Below lo w w' := by
  rcases hr with ⟨h0, rfl⟩ | ⟨b, off, css', fps', rfl, hb, rfl, hzip, hcells, _⟩
  ·have hys : ys = [] := List.eq_nil_of_length_eq_zero h0
   subst hys
   obtain ⟨v', w', hrun, h2, h3, _, h5⟩ := run_push (P := P) (t := t) (ty := o.type) hT hsz hG (ao := ao) (c := cap) (css' := []) (ys := []) (fps' := []) trivial (fun h => ⟨rfl, e4 h⟩) (fun a _ j u hj => by simp at hj) (by simp) (by simp) (by simpa using h63) (by simpa using hbytes) hlo
   exact ⟨v', w', hrun, h2, h3, h5⟩
  ·obtain ⟨v', w', hrun, h2, h3, _, h5⟩ := run_push (P := P) (t := t) (ty := o.type) hT hsz hG (ao := some ⟨b, off, none⟩) (c := cap) (css' := css') (ys := ys) (fps' := fps') hzip (fun h => by cases h)
    (fun a e j u hj => by
     simp only [Option.some.injEq] at e; subst e
     have := hcells j u hj
     by_cases hj0 : j = 0
     ·subst hj0; simpa [Addr.add] using this
     ·simpa [Addr.add, hj0] using this)
    (fun b' hb => by
     have h3 := hz b' (by simp only [List.mem_cons]; exact .inr hb)
     refine ⟨Nat.le_trans hl h3.1, fun e => ?_⟩
     have h1 := hg b' e.symm
     have h2 := (hown.lt b' e.symm).1
     omega)
    (fun hnd => ⟨(List.nodup_cons.1 (hn hnd)).2, fun b' hb => by
     have h3 := hz b' (by simp only [List.mem_cons]; exact .inr hb)
     rcases hd with hd | ⟨_, hd⟩
     ·left; omega
     ·right; have := hd hnd; omega⟩) h63 hbytes hlo
   exact ⟨v', w', hrun, h2, h3, h5⟩
 obtain ⟨v', w', hrun, h2, h3, h5⟩ := key
 unfold Oper.wp execOp
 simp only [ho, resolve, invoke, builtin, Sem.run_bind, Sem.run_pure, Result.andThen_ok, List.map_toArray, List.map_cons, List.map_nil, hs, hx]
 rw [hrun]
 exact h v' w' h2 h3 h5
end
theorem It.below {α : Type} [Rep α] {nd : Bool} {lo hi : Nat} {w w' : World} {cs : List Value} {x : α} (h : It nd lo hi w cs x) (k : Below w.heap.size w w') : It nd lo hi w' cs x := by
 obtain ⟨fp, h1, h2, h3⟩ := h
 exact ⟨fp, Rep.keep h1 (fun b hb => k.block b (Rep.lt h1 b hb)), h2, h3⟩
def nameL : List Bs := [[103, 101, 110, 101, 114, 97, 116, 105, 111, 110], [109, 101, 114, 103, 105, 110, 103], [115, 107, 101, 119, 105, 110, 103]]
def PostDRS (p : Nat) (w : World) (e : Ending) (w' : World) : Prop := ∃ (v : Value) (rs : List Rul), e = .returned v ∧ Ow w.heap.size w'.heap.size w' [v] rs ∧ Hid ((∀ r ∈ rs, goodB r = true) ∧ rs.length ≤ 12) ∧ CurOk p w' ∧ OffF [p] w w'
set_option maxRecDepth 20000 in
set_option maxHeartbeats 16000000 in
theorem l4Rules_any (w : World) (p : Nat) (h : CurOk p w) :
  Calls Tryz.prog 77 #[.pointer (some ⟨p, 0, none⟩)] w (PostDRS p w) := by
 have hpl := h.lt
 go_enter Tryz.func77, Tryz.ntmps77
 go_wp2_with fail
 refine (l01Once_any _ p h 3 (by omega) (by omega)).mono ?_
 rintro e1 w1 ⟨c1, rfl, hC1, hO1⟩
 have s1 := hO1.size
 cases c1
 rotate_left
 ·have hsz := sz_lits (ls := nameL) (by decide)
  have HL := Lib.hid (Ow.strs_lit0 w1 9 (nameL.map txt) hsz.1 hsz.2).rd
  have HC := Lib.hid (show CurOk p (w1.alloc (.cells ((nameL.map txt).map Value.string).toArray 9)) from hC1.grow bwT)
  clear hsz hC1 h
  go_wp2_with (go_at_call 76; refine (l01Pick_any _ p HC.out _ (nameL.map txt) HL.out (by decide) (by decide) (.inl (by omega)) (by simp)).mono ?_)
  rintro e2 w2 ⟨s, rfl, hs, hC2, hO2⟩
  have hF2 : OffF [p] w w2 := (hO1.alloc _).trans hO2
  clear hs HL HC hO1 hO2
  go_wp2_with fail
  refine (sampleS_any _ s _ rfl).mono ?_
  rintro e3 w3 ⟨v, rfl, ho, hb3⟩
  have HO := Lib.hid ho
  have HF := Lib.hid (OffF.below hF2 hb3)
  have HC := Lib.hid (hC2.grow hb3)
  have s2 := hF2.size
  clear ho hb3 hC2
  go_wp2
  go_ret
  exact ⟨_, _, rfl, HO.out.mono s2 (Nat.le_refl _), Lib.hid ⟨smp_good _, smpX_len _⟩, HC.out, HF.out⟩
 clear h
 go_wp2_with (go_at_call 78; refine (l01Below_any _ p (hC1.grow bwT) 7 (by omega) (by omega)).mono ?_)
 rintro e2 w2 ⟨k0, rfl, ⟨hk0, hk6⟩, hC2, hO2⟩
 have hF2 : OffF [p] w w2 := (hO1.alloc _).trans hO2
 have s2 := hO2.size
 simp only [World.size_alloc] at s2
 have HG2 := Lib.hid (show GL true w1.heap.size w1.heap.size w2.heap.size w2 50 (.slice (some ⟨w1.heap.size, 0, none⟩) 0 0) ([] : List Rul) from ((GL.lit0 (α := Rul) true w1.heap.size w1.heap.size w1 50 (Nat.le_refl _)).keep (offzn hO2 (.inl (by omega)) (by simp)) (offzn hO2 (.inl (by omega)) (by simp))).top)
 clear hC1 hO2
 go_wp2
 go_loopw [3, 4, 5] (fun s3 s4 _ wr => ∃ (k : Int) (L : List Rul), 0 ≤ k ∧ (L.length : Int) + k ≤ 6 ∧ s4 = .int .i64 k ∧ Hid (GL true w1.heap.size w1.heap.size wr.heap.size wr 50 s3 L) ∧ Hid (∀ r ∈ L, goodB r = true) ∧ CurOk p wr ∧ OffF [p] w wr ∧ w1.heap.size ≤ wr.heap.size) (fun _ s4 _ _ => (intOf s4).toNat)
 case atStart => exact ⟨k0, [], hk0, (by first | (simp; done) | (simp; omega)), rfl, HG2, Lib.hid (fun r hr => by cases hr), hC2, hF2, by omega⟩
 case round =>
  clear HG2 hC2 hF2
  obtain ⟨wb, hwb⟩ : ∃ wm : World, wm = wr := ⟨_, rfl⟩
  subst hwb
  obtain ⟨k, L, hk, hLk, rfl, hG, hgd, hCb, hFb, h1b⟩ := hrel
  obtain ⟨oao, ocap, rfl, -, -⟩ := hG.out.len
  by_cases hlt : 0 < k
  rotate_left
  ·have hL : ¬ (0 : Int) < k := hlt
   have HOW := Lib.hid (hG.out.ow (l0 := w.heap.size) s1 s1)
   have hl12 : L.length ≤ 12 := by omega
   clear hG
   go_wp2
   go_ret
   exact ⟨_, _, rfl, HOW.out, Lib.hid ⟨hgd.out, hl12⟩, hCb, hFb⟩
  have sb := hFb.size
  have HCb := Lib.hid hCb
  clear hCb
  go_wp2_with fail
  refine (l4Some_any _ p HCb.out).mono ?_
  rintro e2 w2 ⟨x0, x1, x2, x3, x4, r, rfl, hor, hgr, hC2, hO2⟩
  have sb2 := hO2.size
  have HG2 := Lib.hid ((hG.out.keep (offzn hO2 (.inl (by omega)) (Nat.le_refl _)) (offzn hO2 (.inl (by omega)) (Nat.le_refl _))))
  have hF2 : OffF [p] w w2 := hFb.trans hO2
  obtain ⟨nm, sx, pl, fr, tw, fao, fn, fcap, tao, tn, tcap, hrr, rfl, rfl, rfl, rfl, rfl⟩ := rul_form hor
  subst hrr
  obtain ⟨W3, hW3⟩ : ∃ W : World, W = w2.alloc (.cells #[.string nm, .int .i64 sx, .int .i64 pl, .slice fao fn fcap, .slice tao tn tcap] 50) := ⟨_, rfl⟩
  have hB3 : Below w2.heap.size w2 W3 := by rw [hW3]; exact bwT
  have sz3 : W3.heap.size = w2.heap.size + 1 := by rw [hW3]; simp
  have t0 : W3.cell? ⟨w2.heap.size, 0, none⟩ = some (.string nm) := by rw [hW3]; simp [go_sem]
  have t1 : W3.cell? ⟨w2.heap.size, 1, none⟩ = some (.int .i64 sx) := by rw [hW3]; simp [go_sem]
  have t2 : W3.cell? ⟨w2.heap.size, 2, none⟩ = some (.int .i64 pl) := by rw [hW3]; simp [go_sem]
  have t3 : W3.cell? ⟨w2.heap.size, 3, none⟩ = some (.slice fao fn fcap) := by rw [hW3]; simp [go_sem]
  have t4 : W3.cell? ⟨w2.heap.size, 4, none⟩ = some (.slice tao tn tcap) := by rw [hW3]; simp [go_sem]
  have lT : w2.heap.size < W3.heap.size := by omega
  have HG3 := Lib.hid (HG2.out.below hB3).top
  have HG3b := Lib.hid (HG2.out.below hB3)
  have HITR := Lib.hid (show It false 0 W3.heap.size W3 [.string nm, .int .i64 sx, .int .i64 pl, .slice fao fn fcap, .slice tao tn tcap] ((nm, sx, pl, fr, tw) : Rul) from ((hor.rd.mono (Nat.zero_le _) (Nat.le_of_lt lT)).below hB3).it)
  have HRD := Lib.hid (show It false 0 W3.heap.size W3 [.slice oao L.length ocap] L from (HG3.out.rd (l0 := 0) (Nat.zero_le _) (Nat.zero_le _)).it)
  have HOR := Lib.hid (hor.below hB3)
  have HC3 := Lib.hid (hC2.grow hB3)
  have HF3 := Lib.hid (OffF.below hF2 hB3)
  have HGR := Lib.hid hgr.out
  clear hor hC2 hO2 hF2 hFb hG HG2 HCb hgr
  obtain ⟨R1, hlet_R1⟩ : ∃ r, r = areRules (L ++ [((nm, sx, pl, fr, tw) : Rul)]) := ⟨_, rfl⟩
  have H1 := Lib.hid hlet_R1
  clear hlet_R1
  go_upto_region 8 with fail
  rw [← hW3]
  clear hW3 hB3
  have hL6 : L.length ≤ 6 := by omega
  go_cut [31] (fun s31 wx => ∃ (c : Bool) (wy : World), s31 = .bool c ∧ Below W3.heap.size W3 wy ∧ OffF [p] wy wx ∧ CurOk p wx)
  case first =>
   cases R1
   ·skip
    refine wp_region_held_drew (S := (fun w' => w'.cell? ⟨w2.heap.size, 0, none⟩ = some (.string nm) ∧ w'.cell? ⟨w2.heap.size, 1, none⟩ = some (.int .i64 sx) ∧ w'.cell? ⟨w2.heap.size, 2, none⟩ = some (.int .i64 pl) ∧ w'.cell? ⟨w2.heap.size, 3, none⟩ = some (.slice fao fn fcap) ∧ w'.cell? ⟨w2.heap.size, 4, none⟩ = some (.slice tao tn tcap))) (by kernel_rfl) ?_ (fun hHeld => ?_)
    ·first | exact trivial | ((try dsimp only); go_keep)
    refine tkA 1 ?_
    try simp only [Act.put, cA, cB, cC]
    refine tkA 3 ?_
    try simp only [Act.put, cA, cB, cC]
    refine wpAnyH_ready (rs := [0, 4]) (by kernel_rfl) (by simp) ?_
    refine rdR (fun K hK => ?_) ?_
    ·go_simp
     refine hK.out _ _ ?_ (fun hHeld => ?_)
     ·exact kpT
     clear hK K
     try simp only [Act.put, cA, cB, cC]
     refine wpAnyH_ready (rs := [2, 4]) (by kernel_rfl) (by simp) ?_
     refine rdR (fun K hK => ?_) ?_
     ·have hGT := GL.lit0 (α := Rul) false W3.heap.size 0 W3 50 (Nat.le_refl _)
      try rw [World.size_alloc] at hGT
      refine step_spread rfl rfl slRule (by show (0 : Nat) < 5; omega) hGT (by simp [Act.eval, Act.put]) (vs := .slice oao L.length ocap) (by simp [Act.eval, Act.put]) (ys := L) (lx := 0) (hx' := W3.heap.size) (It.below HRD.out (show Below W3.heap.size W3 _ from bwT)) (Nat.le_refl _) (.inr ⟨Nat.le_refl _, fun h => by cases h⟩) (by unfold maxLen; simp; omega) (by simp; omega) ltT ?_
      rintro v5 w5 hG5 hg5 hb5
      have hp5 : Below W3.heap.size W3 w5 := Below.trans (show Below W3.heap.size W3 _ from bwT) hb5
      have s5 := hp5.size
      obtain ⟨ao5, cap5, hv5, -, -⟩ := hG5.len
      subst hv5
      have hG5 : GL false W3.heap.size 0 w5.heap.size w5 50 (.slice ao5 L.length cap5) L := hG5
      have hS5 := And.intro (oldc hp5 lT t0) (And.intro (oldc hp5 lT t1) (And.intro (oldc hp5 lT t2) (And.intro (oldc hp5 lT t3) (oldc hp5 lT t4))))
      have HG5 := Lib.hid hG5
      clear hG5 hb5 hGT
      refine hK.out _ _ ?_ (fun hHeld => ?_)
      ·exact kpT
      clear hK K
      try simp only [Act.put, cA, cB, cC]
      refine wpAnyH_ready (rs := [4]) (by kernel_rfl) (by simp) ?_
      refine rdR (fun K hK => ?_) ?_
      ·go_simp
       refine hK.out _ _ ?_ (fun hHeld => ?_)
       ·exact kpT
       clear hK K
       try simp only [Act.put, cA, cB, cC]
       refine wpAnyH_ready (rs := [5]) (by kernel_rfl) (by simp) ?_
       refine rdR (fun K hK => ?_) ?_
       ·refine step_push rfl rfl slRule (by show (0 : Nat) < 5; omega) (HG5.out.alloc _) (by simp [Act.eval, Act.put]) (ad := ⟨w5.heap.size, 0, none⟩) (c := 1) (by simp [Act.eval, Act.put]) (cs := [.string nm, .int .i64 sx, .int .i64 pl, .slice fao fn fcap, .slice tao tn tcap]) (y := ((nm, sx, pl, fr, tw) : Rul)) (lx := 0) (hx' := W3.heap.size) ?c1 (It.below HITR.out (show Below W3.heap.size W3 _ from hp5.trans bwT)) (Nat.le_refl _) (.inr ⟨Nat.le_refl _, fun h => by cases h⟩) (by unfold maxLen; omega) (by omega) ltT rfl rfl ?_
        case c1 =>
         intro j c hj
         (match j, hj with | 0, hj => (simp at hj; subst hj; simp [Addr.add, go_sem]) | 1, hj => (simp at hj; subst hj; simp [Addr.add, go_sem]) | 2, hj => (simp at hj; subst hj; simp [Addr.add, go_sem]) | 3, hj => (simp at hj; subst hj; simp [Addr.add, go_sem]) | 4, hj => (simp at hj; subst hj; simp [Addr.add, go_sem]))
        rintro g7 cap7 w7 hG7 hg7 hat7 hlg7 hlt7 hb7
        have hp7 : Below W3.heap.size W3 w7 := (hp5.trans (show Below W3.heap.size w5 _ from bwT)).trans hb7
        have s7 := hp7.size
        have hS7 := And.intro (oldc hp7 lT t0) (And.intro (oldc hp7 lT t1) (And.intro (oldc hp7 lT t2) (And.intro (oldc hp7 lT t3) (oldc hp7 lT t4))))
        have HG7 := Lib.hid (hG7.rd (l0 := 0) (Nat.zero_le _) (Nat.zero_le _))
        clear hG7 hg7 hat7 hb7
        refine hK.out _ _ ?_ (fun hHeld => ?_)
        ·exact kpT
        clear hK K
        try simp only [Act.put, cA, cB, cC]
        refine wpAnyH_ready (rs := [6]) (by kernel_rfl) (by simp) ?_
        refine rdR (fun K hK => ?_) ?_
        ·go_simp
         refine (areRulesS_b _ _ (L ++ [((nm, sx, pl, fr, tw) : Rul)]) HG7.out false H1.out).mono ?_
         rintro e8 w8 ⟨rfl, hb8⟩
         have hp8 : Below W3.heap.size W3 w8 := hp7.trans (hb8.mono s7)
         have s8 := hp8.size
         have hS8 := And.intro (oldc hp8 lT t0) (And.intro (oldc hp8 lT t1) (And.intro (oldc hp8 lT t2) (And.intro (oldc hp8 lT t3) (oldc hp8 lT t4))))
         clear hb8
         refine hK.out _ _ ?_ (fun hHeld => ?_)
         ·exact kpT
         clear hK K
         try simp only [Act.put, cA, cB, cC]
         refine tkA 7 ?_
         try simp only [Act.put, cA, cB, cC]
         refine tkA 8 ?_
         try simp only [Act.put, cA, cB, cC]
         refine wpAnyH_ready (rs := [9]) (by kernel_rfl) (by simp) ?_
         refine rdR (fun K hK => ?_) ?_
         ·go_simp
          refine (l01Once_any _ p (HC3.out.grow (Below.trans hp8 bwT)) 40 (by omega) (by omega)).mono ?_
          rintro e9 w9 ⟨c9, rfl, hC9, hO9⟩
          have hS9 := And.intro (offq hO9 (show w2.heap.size ≠ p by omega) (by omega) (oldc hp8 lT t0)) (And.intro (offq hO9 (show w2.heap.size ≠ p by omega) (by omega) (oldc hp8 lT t1)) (And.intro (offq hO9 (show w2.heap.size ≠ p by omega) (by omega) (oldc hp8 lT t2)) (And.intro (offq hO9 (show w2.heap.size ≠ p by omega) (by omega) (oldc hp8 lT t3)) (offq hO9 (show w2.heap.size ≠ p by omega) (by omega) (oldc hp8 lT t4)))))
          refine hK.out _ _ ?_ (fun hHeld => ?_)
          ·exact kpT
          clear hK K
          try simp only [Act.put, cA, cB, cC]
          refine tkA 10 ?_
          try simp only [Act.put, cA, cB, cC]
          refine wpAnyH_done (by kernel_rfl) ?_ _
          go_wp2_with fail
          go_meet
          exact ⟨_, w8, rfl, hp8, hO9, hC9⟩
         exact AllReadyH.nil
        exact AllReadyH.nil
       exact AllReadyH.nil
      exact AllReadyH.nil
     refine rdR (fun K hK => ?_) ?_
     ·go_simp
      refine hK.out _ _ ?_ (fun hHeld => ?_)
      ·exact kpT
      clear hK K
      try simp only [Act.put, cA, cB, cC]
      refine wpAnyH_ready (rs := [2]) (by kernel_rfl) (by simp) ?_
      refine rdR (fun K hK => ?_) ?_
      ·have hGT := (GL.lit0 (α := Rul) false W3.heap.size 0 W3 50 (Nat.le_refl _)).alloc (.cells #[.string nm, .int .i64 sx, .int .i64 pl, .slice fao fn fcap, .slice tao tn tcap] 50)
       try rw [World.size_alloc] at hGT
       refine step_spread rfl rfl slRule (by show (0 : Nat) < 5; omega) hGT (by simp [Act.eval, Act.put]) (vs := .slice oao L.length ocap) (by simp [Act.eval, Act.put]) (ys := L) (lx := 0) (hx' := W3.heap.size) (It.below HRD.out (show Below W3.heap.size W3 _ from bwT)) (Nat.le_refl _) (.inr ⟨Nat.le_refl _, fun h => by cases h⟩) (by unfold maxLen; simp; omega) (by simp; omega) ltT ?_
       rintro v5 w5 hG5 hg5 hb5
       have hp5 : Below W3.heap.size W3 w5 := Below.trans (show Below W3.heap.size W3 _ from bwT) hb5
       have s5 := hp5.size
       obtain ⟨ao5, cap5, hv5, -, -⟩ := hG5.len
       subst hv5
       have hG5 : GL false W3.heap.size 0 w5.heap.size w5 50 (.slice ao5 L.length cap5) L := hG5
       have m5 : ∀ j c, ([.string nm, .int .i64 sx, .int .i64 pl, .slice fao fn fcap, .slice tao tn tcap] : List Value)[j]? = some c → w5.cell? ⟨W3.heap.size + 1, j, none⟩ = some c := by intro j c hj; rw [World.cell?_of_block (a := ⟨W3.heap.size + 1, j, none⟩) (hg5.block (W3.heap.size + 1) ltT (by simp [Value.ownBlock]))]; (match j, hj with | 0, hj => (simp at hj; subst hj; simp [go_sem]) | 1, hj => (simp at hj; subst hj; simp [go_sem]) | 2, hj => (simp at hj; subst hj; simp [go_sem]) | 3, hj => (simp at hj; subst hj; simp [go_sem]) | 4, hj => (simp at hj; subst hj; simp [go_sem]))
       have hS5 := And.intro (oldc hp5 lT t0) (And.intro (oldc hp5 lT t1) (And.intro (oldc hp5 lT t2) (And.intro (oldc hp5 lT t3) (oldc hp5 lT t4))))
       have HG5 := Lib.hid hG5
       clear hG5 hb5 hGT
       refine hK.out _ _ ?_ (fun hHeld => ?_)
       ·exact kpT
       clear hK K
       try simp only [Act.put, cA, cB, cC]
       refine wpAnyH_ready (rs := [5]) (by kernel_rfl) (by simp) ?_
       refine rdR (fun K hK => ?_) ?_
       ·refine step_push rfl rfl slRule (by show (0 : Nat) < 5; omega) HG5.out (by simp [Act.eval, Act.put]) (ad := ⟨W3.heap.size + 1, 0, none⟩) (c := 1) (by simp [Act.eval, Act.put]) (cs := [.string nm, .int .i64 sx, .int .i64 pl, .slice fao fn fcap, .slice tao tn tcap]) (y := ((nm, sx, pl, fr, tw) : Rul)) (lx := 0) (hx' := W3.heap.size) ?c1 (It.below HITR.out hp5) (Nat.le_refl _) (.inr ⟨Nat.le_refl _, fun h => by cases h⟩) (by unfold maxLen; omega) (by omega) ltT rfl rfl ?_
        case c1 =>
         intro j c hj
         (have h := m5 j c hj; by_cases hj0 : j = 0; (subst hj0; simpa [Addr.add] using h); simpa [Addr.add, hj0] using h)
        rintro g7 cap7 w7 hG7 hg7 hat7 hlg7 hlt7 hb7
        have hp7 : Below W3.heap.size W3 w7 := hp5.trans hb7
        have s7 := hp7.size
        have hS7 := And.intro (oldc hp7 lT t0) (And.intro (oldc hp7 lT t1) (And.intro (oldc hp7 lT t2) (And.intro (oldc hp7 lT t3) (oldc hp7 lT t4))))
        have HG7 := Lib.hid (hG7.rd (l0 := 0) (Nat.zero_le _) (Nat.zero_le _))
        clear hG7 hg7 hat7 hb7
        refine hK.out _ _ ?_ (fun hHeld => ?_)
        ·exact kpT
        clear hK K
        try simp only [Act.put, cA, cB, cC]
        refine wpAnyH_ready (rs := [6]) (by kernel_rfl) (by simp) ?_
        refine rdR (fun K hK => ?_) ?_
        ·go_simp
         refine (areRulesS_b _ _ (L ++ [((nm, sx, pl, fr, tw) : Rul)]) HG7.out false H1.out).mono ?_
         rintro e8 w8 ⟨rfl, hb8⟩
         have hp8 : Below W3.heap.size W3 w8 := hp7.trans (hb8.mono s7)
         have s8 := hp8.size
         have hS8 := And.intro (oldc hp8 lT t0) (And.intro (oldc hp8 lT t1) (And.intro (oldc hp8 lT t2) (And.intro (oldc hp8 lT t3) (oldc hp8 lT t4))))
         clear hb8
         refine hK.out _ _ ?_ (fun hHeld => ?_)
         ·exact kpT
         clear hK K
         try simp only [Act.put, cA, cB, cC]
         refine tkA 7 ?_
         try simp only [Act.put, cA, cB, cC]
         refine tkA 8 ?_
         try simp only [Act.put, cA, cB, cC]
         refine wpAnyH_ready (rs := [9]) (by kernel_rfl) (by simp) ?_
         refine rdR (fun K hK => ?_) ?_
         ·go_simp
          refine (l01Once_any _ p (HC3.out.grow (Below.trans hp8 bwT)) 40 (by omega) (by omega)).mono ?_
          rintro e9 w9 ⟨c9, rfl, hC9, hO9⟩
          have hS9 := And.intro (offq hO9 (show w2.heap.size ≠ p by omega) (by omega) (oldc hp8 lT t0)) (And.intro (offq hO9 (show w2.heap.size ≠ p by omega) (by omega) (oldc hp8 lT t1)) (And.intro (offq hO9 (show w2.heap.size ≠ p by omega) (by omega) (oldc hp8 lT t2)) (And.intro (offq hO9 (show w2.heap.size ≠ p by omega) (by omega) (oldc hp8 lT t3)) (offq hO9 (show w2.heap.size ≠ p by omega) (by omega) (oldc hp8 lT t4)))))
          refine hK.out _ _ ?_ (fun hHeld => ?_)
          ·exact kpT
          clear hK K
          try simp only [Act.put, cA, cB, cC]
          refine tkA 10 ?_
          try simp only [Act.put, cA, cB, cC]
          refine wpAnyH_done (by kernel_rfl) ?_ _
          go_wp2_with fail
          go_meet
          exact ⟨_, w8, rfl, hp8, hO9, hC9⟩
         exact AllReadyH.nil
        exact AllReadyH.nil
       exact AllReadyH.nil
      exact AllReadyH.nil
     exact AllReadyH.nil
    refine rdR (fun K hK => ?_) ?_
    ·go_simp
     refine hK.out _ _ ?_ (fun hHeld => ?_)
     ·exact kpT
     clear hK K
     try simp only [Act.put, cA, cB, cC]
     refine wpAnyH_ready (rs := [0]) (by kernel_rfl) (by simp) ?_
     refine rdR (fun K hK => ?_) ?_
     ·go_simp
      refine hK.out _ _ ?_ (fun hHeld => ?_)
      ·exact kpT
      clear hK K
      try simp only [Act.put, cA, cB, cC]
      refine wpAnyH_ready (rs := [2]) (by kernel_rfl) (by simp) ?_
      refine rdR (fun K hK => ?_) ?_
      ·have hGT := (GL.lit0 (α := Rul) false W3.heap.size 0 (W3.alloc (.cells #[.string nm, .int .i64 sx, .int .i64 pl, .slice fao fn fcap, .slice tao tn tcap] 50)) 50 (by simp))
       try rw [World.size_alloc] at hGT
       refine step_spread rfl rfl slRule (by show (0 : Nat) < 5; omega) hGT (by simp [Act.eval, Act.put]) (vs := .slice oao L.length ocap) (by simp [Act.eval, Act.put]) (ys := L) (lx := 0) (hx' := W3.heap.size) (It.below HRD.out (show Below W3.heap.size W3 _ from bwT)) (Nat.le_refl _) (.inr ⟨Nat.le_refl _, fun h => by cases h⟩) (by unfold maxLen; simp; omega) (by simp; omega) ltT ?_
       rintro v5 w5 hG5 hg5 hb5
       have hp5 : Below W3.heap.size W3 w5 := Below.trans (show Below W3.heap.size W3 _ from bwT) hb5
       have s5 := hp5.size
       obtain ⟨ao5, cap5, hv5, -, -⟩ := hG5.len
       subst hv5
       have hG5 : GL false W3.heap.size 0 w5.heap.size w5 50 (.slice ao5 L.length cap5) L := hG5
       have m5 : ∀ j c, ([.string nm, .int .i64 sx, .int .i64 pl, .slice fao fn fcap, .slice tao tn tcap] : List Value)[j]? = some c → w5.cell? ⟨W3.heap.size, j, none⟩ = some c := by intro j c hj; rw [World.cell?_of_block (a := ⟨W3.heap.size, j, none⟩) (hg5.block W3.heap.size ltT (by simp [Value.ownBlock]))]; (match j, hj with | 0, hj => (simp at hj; subst hj; simp [go_sem]) | 1, hj => (simp at hj; subst hj; simp [go_sem]) | 2, hj => (simp at hj; subst hj; simp [go_sem]) | 3, hj => (simp at hj; subst hj; simp [go_sem]) | 4, hj => (simp at hj; subst hj; simp [go_sem]))
       have hS5 := And.intro (oldc hp5 lT t0) (And.intro (oldc hp5 lT t1) (And.intro (oldc hp5 lT t2) (And.intro (oldc hp5 lT t3) (oldc hp5 lT t4))))
       have HG5 := Lib.hid hG5
       clear hG5 hb5 hGT
       refine hK.out _ _ ?_ (fun hHeld => ?_)
       ·exact kpT
       clear hK K
       try simp only [Act.put, cA, cB, cC]
       refine wpAnyH_ready (rs := [5]) (by kernel_rfl) (by simp) ?_
       refine rdR (fun K hK => ?_) ?_
       ·refine step_push rfl rfl slRule (by show (0 : Nat) < 5; omega) HG5.out (by simp [Act.eval, Act.put]) (ad := ⟨W3.heap.size, 0, none⟩) (c := 1) (by simp [Act.eval, Act.put]) (cs := [.string nm, .int .i64 sx, .int .i64 pl, .slice fao fn fcap, .slice tao tn tcap]) (y := ((nm, sx, pl, fr, tw) : Rul)) (lx := 0) (hx' := W3.heap.size) ?c1 (It.below HITR.out hp5) (Nat.le_refl _) (.inr ⟨Nat.le_refl _, fun h => by cases h⟩) (by unfold maxLen; omega) (by omega) ltT rfl rfl ?_
        case c1 =>
         intro j c hj
         (have h := m5 j c hj; by_cases hj0 : j = 0; (subst hj0; simpa [Addr.add] using h); simpa [Addr.add, hj0] using h)
        rintro g7 cap7 w7 hG7 hg7 hat7 hlg7 hlt7 hb7
        have hp7 : Below W3.heap.size W3 w7 := hp5.trans hb7
        have s7 := hp7.size
        have hS7 := And.intro (oldc hp7 lT t0) (And.intro (oldc hp7 lT t1) (And.intro (oldc hp7 lT t2) (And.intro (oldc hp7 lT t3) (oldc hp7 lT t4))))
        have HG7 := Lib.hid (hG7.rd (l0 := 0) (Nat.zero_le _) (Nat.zero_le _))
        clear hG7 hg7 hat7 hb7
        refine hK.out _ _ ?_ (fun hHeld => ?_)
        ·exact kpT
        clear hK K
        try simp only [Act.put, cA, cB, cC]
        refine wpAnyH_ready (rs := [6]) (by kernel_rfl) (by simp) ?_
        refine rdR (fun K hK => ?_) ?_
        ·go_simp
         refine (areRulesS_b _ _ (L ++ [((nm, sx, pl, fr, tw) : Rul)]) HG7.out false H1.out).mono ?_
         rintro e8 w8 ⟨rfl, hb8⟩
         have hp8 : Below W3.heap.size W3 w8 := hp7.trans (hb8.mono s7)
         have s8 := hp8.size
         have hS8 := And.intro (oldc hp8 lT t0) (And.intro (oldc hp8 lT t1) (And.intro (oldc hp8 lT t2) (And.intro (oldc hp8 lT t3) (oldc hp8 lT t4))))
         clear hb8
         refine hK.out _ _ ?_ (fun hHeld => ?_)
         ·exact kpT
         clear hK K
         try simp only [Act.put, cA, cB, cC]
         refine tkA 7 ?_
         try simp only [Act.put, cA, cB, cC]
         refine tkA 8 ?_
         try simp only [Act.put, cA, cB, cC]
         refine wpAnyH_ready (rs := [9]) (by kernel_rfl) (by simp) ?_
         refine rdR (fun K hK => ?_) ?_
         ·go_simp
          refine (l01Once_any _ p (HC3.out.grow (Below.trans hp8 bwT)) 40 (by omega) (by omega)).mono ?_
          rintro e9 w9 ⟨c9, rfl, hC9, hO9⟩
          have hS9 := And.intro (offq hO9 (show w2.heap.size ≠ p by omega) (by omega) (oldc hp8 lT t0)) (And.intro (offq hO9 (show w2.heap.size ≠ p by omega) (by omega) (oldc hp8 lT t1)) (And.intro (offq hO9 (show w2.heap.size ≠ p by omega) (by omega) (oldc hp8 lT t2)) (And.intro (offq hO9 (show w2.heap.size ≠ p by omega) (by omega) (oldc hp8 lT t3)) (offq hO9 (show w2.heap.size ≠ p by omega) (by omega) (oldc hp8 lT t4)))))
          refine hK.out _ _ ?_ (fun hHeld => ?_)
          ·exact kpT
          clear hK K
          try simp only [Act.put, cA, cB, cC]
          refine tkA 10 ?_
          try simp only [Act.put, cA, cB, cC]
          refine wpAnyH_done (by kernel_rfl) ?_ _
          go_wp2_with fail
          go_meet
          exact ⟨_, w8, rfl, hp8, hO9, hC9⟩
         exact AllReadyH.nil
        exact AllReadyH.nil
       exact AllReadyH.nil
      exact AllReadyH.nil
     exact AllReadyH.nil
    exact AllReadyH.nil
   ·skip
    refine wp_region_held_drew (S := (fun w' => w'.cell? ⟨w2.heap.size, 0, none⟩ = some (.string nm) ∧ w'.cell? ⟨w2.heap.size, 1, none⟩ = some (.int .i64 sx) ∧ w'.cell? ⟨w2.heap.size, 2, none⟩ = some (.int .i64 pl) ∧ w'.cell? ⟨w2.heap.size, 3, none⟩ = some (.slice fao fn fcap) ∧ w'.cell? ⟨w2.heap.size, 4, none⟩ = some (.slice tao tn tcap))) (by kernel_rfl) ?_ (fun hHeld => ?_)
    ·first | exact trivial | ((try dsimp only); go_keep)
    refine tkA 1 ?_
    try simp only [Act.put, cA, cB, cC]
    refine tkA 3 ?_
    try simp only [Act.put, cA, cB, cC]
    refine wpAnyH_ready (rs := [0, 4]) (by kernel_rfl) (by simp) ?_
    refine rdR (fun K hK => ?_) ?_
    ·go_simp
     refine hK.out _ _ ?_ (fun hHeld => ?_)
     ·exact kpT
     clear hK K
     try simp only [Act.put, cA, cB, cC]
     refine wpAnyH_ready (rs := [2, 4]) (by kernel_rfl) (by simp) ?_
     refine rdR (fun K hK => ?_) ?_
     ·have hGT := GL.lit0 (α := Rul) false W3.heap.size 0 W3 50 (Nat.le_refl _)
      try rw [World.size_alloc] at hGT
      refine step_spread rfl rfl slRule (by show (0 : Nat) < 5; omega) hGT (by simp [Act.eval, Act.put]) (vs := .slice oao L.length ocap) (by simp [Act.eval, Act.put]) (ys := L) (lx := 0) (hx' := W3.heap.size) (It.below HRD.out (show Below W3.heap.size W3 _ from bwT)) (Nat.le_refl _) (.inr ⟨Nat.le_refl _, fun h => by cases h⟩) (by unfold maxLen; simp; omega) (by simp; omega) ltT ?_
      rintro v5 w5 hG5 hg5 hb5
      have hp5 : Below W3.heap.size W3 w5 := Below.trans (show Below W3.heap.size W3 _ from bwT) hb5
      have s5 := hp5.size
      obtain ⟨ao5, cap5, hv5, -, -⟩ := hG5.len
      subst hv5
      have hG5 : GL false W3.heap.size 0 w5.heap.size w5 50 (.slice ao5 L.length cap5) L := hG5
      have hS5 := And.intro (oldc hp5 lT t0) (And.intro (oldc hp5 lT t1) (And.intro (oldc hp5 lT t2) (And.intro (oldc hp5 lT t3) (oldc hp5 lT t4))))
      have HG5 := Lib.hid hG5
      clear hG5 hb5 hGT
      refine hK.out _ _ ?_ (fun hHeld => ?_)
      ·exact kpT
      clear hK K
      try simp only [Act.put, cA, cB, cC]
      refine wpAnyH_ready (rs := [4]) (by kernel_rfl) (by simp) ?_
      refine rdR (fun K hK => ?_) ?_
      ·go_simp
       refine hK.out _ _ ?_ (fun hHeld => ?_)
       ·exact kpT
       clear hK K
       try simp only [Act.put, cA, cB, cC]
       refine wpAnyH_ready (rs := [5]) (by kernel_rfl) (by simp) ?_
       refine rdR (fun K hK => ?_) ?_
       ·refine step_push rfl rfl slRule (by show (0 : Nat) < 5; omega) (HG5.out.alloc _) (by simp [Act.eval, Act.put]) (ad := ⟨w5.heap.size, 0, none⟩) (c := 1) (by simp [Act.eval, Act.put]) (cs := [.string nm, .int .i64 sx, .int .i64 pl, .slice fao fn fcap, .slice tao tn tcap]) (y := ((nm, sx, pl, fr, tw) : Rul)) (lx := 0) (hx' := W3.heap.size) ?c1 (It.below HITR.out (show Below W3.heap.size W3 _ from hp5.trans bwT)) (Nat.le_refl _) (.inr ⟨Nat.le_refl _, fun h => by cases h⟩) (by unfold maxLen; omega) (by omega) ltT rfl rfl ?_
        case c1 =>
         intro j c hj
         (match j, hj with | 0, hj => (simp at hj; subst hj; simp [Addr.add, go_sem]) | 1, hj => (simp at hj; subst hj; simp [Addr.add, go_sem]) | 2, hj => (simp at hj; subst hj; simp [Addr.add, go_sem]) | 3, hj => (simp at hj; subst hj; simp [Addr.add, go_sem]) | 4, hj => (simp at hj; subst hj; simp [Addr.add, go_sem]))
        rintro g7 cap7 w7 hG7 hg7 hat7 hlg7 hlt7 hb7
        have hp7 : Below W3.heap.size W3 w7 := (hp5.trans (show Below W3.heap.size w5 _ from bwT)).trans hb7
        have s7 := hp7.size
        have hS7 := And.intro (oldc hp7 lT t0) (And.intro (oldc hp7 lT t1) (And.intro (oldc hp7 lT t2) (And.intro (oldc hp7 lT t3) (oldc hp7 lT t4))))
        have HG7 := Lib.hid (hG7.rd (l0 := 0) (Nat.zero_le _) (Nat.zero_le _))
        clear hG7 hg7 hat7 hb7
        refine hK.out _ _ ?_ (fun hHeld => ?_)
        ·exact kpT
        clear hK K
        try simp only [Act.put, cA, cB, cC]
        refine wpAnyH_ready (rs := [6]) (by kernel_rfl) (by simp) ?_
        refine rdR (fun K hK => ?_) ?_
        ·go_simp
         refine (areRulesS_b _ _ (L ++ [((nm, sx, pl, fr, tw) : Rul)]) HG7.out true H1.out).mono ?_
         rintro e8 w8 ⟨rfl, hb8⟩
         have hp8 : Below W3.heap.size W3 w8 := hp7.trans (hb8.mono s7)
         have s8 := hp8.size
         have hS8 := And.intro (oldc hp8 lT t0) (And.intro (oldc hp8 lT t1) (And.intro (oldc hp8 lT t2) (And.intro (oldc hp8 lT t3) (oldc hp8 lT t4))))
         clear hb8
         refine hK.out _ _ ?_ (fun hHeld => ?_)
         ·exact kpT
         clear hK K
         try simp only [Act.put, cA, cB, cC]
         refine tkA 7 ?_
         try simp only [Act.put, cA, cB, cC]
         refine skR 8 ?_
         try simp only [Act.put, cA, cB, cC]
         refine skR 9 ?_
         try simp only [Act.put, cA, cB, cC]
         refine tkA 10 ?_
         try simp only [Act.put, cA, cB, cC]
         refine wpAnyH_done (by kernel_rfl) ?_ _
         go_wp2_with fail
         go_meet
         exact ⟨true, w8, rfl, hp8, OffF.refl _ _, HC3.out.grow hp8⟩
        exact AllReadyH.nil
       exact AllReadyH.nil
      exact AllReadyH.nil
     refine rdR (fun K hK => ?_) ?_
     ·go_simp
      refine hK.out _ _ ?_ (fun hHeld => ?_)
      ·exact kpT
      clear hK K
      try simp only [Act.put, cA, cB, cC]
      refine wpAnyH_ready (rs := [2]) (by kernel_rfl) (by simp) ?_
      refine rdR (fun K hK => ?_) ?_
      ·have hGT := (GL.lit0 (α := Rul) false W3.heap.size 0 W3 50 (Nat.le_refl _)).alloc (.cells #[.string nm, .int .i64 sx, .int .i64 pl, .slice fao fn fcap, .slice tao tn tcap] 50)
       try rw [World.size_alloc] at hGT
       refine step_spread rfl rfl slRule (by show (0 : Nat) < 5; omega) hGT (by simp [Act.eval, Act.put]) (vs := .slice oao L.length ocap) (by simp [Act.eval, Act.put]) (ys := L) (lx := 0) (hx' := W3.heap.size) (It.below HRD.out (show Below W3.heap.size W3 _ from bwT)) (Nat.le_refl _) (.inr ⟨Nat.le_refl _, fun h => by cases h⟩) (by unfold maxLen; simp; omega) (by simp; omega) ltT ?_
       rintro v5 w5 hG5 hg5 hb5
       have hp5 : Below W3.heap.size W3 w5 := Below.trans (show Below W3.heap.size W3 _ from bwT) hb5
       have s5 := hp5.size
       obtain ⟨ao5, cap5, hv5, -, -⟩ := hG5.len
       subst hv5
       have hG5 : GL false W3.heap.size 0 w5.heap.size w5 50 (.slice ao5 L.length cap5) L := hG5
       have m5 : ∀ j c, ([.string nm, .int .i64 sx, .int .i64 pl, .slice fao fn fcap, .slice tao tn tcap] : List Value)[j]? = some c → w5.cell? ⟨W3.heap.size + 1, j, none⟩ = some c := by intro j c hj; rw [World.cell?_of_block (a := ⟨W3.heap.size + 1, j, none⟩) (hg5.block (W3.heap.size + 1) ltT (by simp [Value.ownBlock]))]; (match j, hj with | 0, hj => (simp at hj; subst hj; simp [go_sem]) | 1, hj => (simp at hj; subst hj; simp [go_sem]) | 2, hj => (simp at hj; subst hj; simp [go_sem]) | 3, hj => (simp at hj; subst hj; simp [go_sem]) | 4, hj => (simp at hj; subst hj; simp [go_sem]))
       have hS5 := And.intro (oldc hp5 lT t0) (And.intro (oldc hp5 lT t1) (And.intro (oldc hp5 lT t2) (And.intro (oldc hp5 lT t3) (oldc hp5 lT t4))))
       have HG5 := Lib.hid hG5
       clear hG5 hb5 hGT
       refine hK.out _ _ ?_ (fun hHeld => ?_)
       ·exact kpT
       clear hK K
       try simp only [Act.put, cA, cB, cC]
       refine wpAnyH_ready (rs := [5]) (by kernel_rfl) (by simp) ?_
       refine rdR (fun K hK => ?_) ?_
       ·refine step_push rfl rfl slRule (by show (0 : Nat) < 5; omega) HG5.out (by simp [Act.eval, Act.put]) (ad := ⟨W3.heap.size + 1, 0, none⟩) (c := 1) (by simp [Act.eval, Act.put]) (cs := [.string nm, .int .i64 sx, .int .i64 pl, .slice fao fn fcap, .slice tao tn tcap]) (y := ((nm, sx, pl, fr, tw) : Rul)) (lx := 0) (hx' := W3.heap.size) ?c1 (It.below HITR.out hp5) (Nat.le_refl _) (.inr ⟨Nat.le_refl _, fun h => by cases h⟩) (by unfold maxLen; omega) (by omega) ltT rfl rfl ?_
        case c1 =>
         intro j c hj
         (have h := m5 j c hj; by_cases hj0 : j = 0; (subst hj0; simpa [Addr.add] using h); simpa [Addr.add, hj0] using h)
        rintro g7 cap7 w7 hG7 hg7 hat7 hlg7 hlt7 hb7
        have hp7 : Below W3.heap.size W3 w7 := hp5.trans hb7
        have s7 := hp7.size
        have hS7 := And.intro (oldc hp7 lT t0) (And.intro (oldc hp7 lT t1) (And.intro (oldc hp7 lT t2) (And.intro (oldc hp7 lT t3) (oldc hp7 lT t4))))
        have HG7 := Lib.hid (hG7.rd (l0 := 0) (Nat.zero_le _) (Nat.zero_le _))
        clear hG7 hg7 hat7 hb7
        refine hK.out _ _ ?_ (fun hHeld => ?_)
        ·exact kpT
        clear hK K
        try simp only [Act.put, cA, cB, cC]
        refine wpAnyH_ready (rs := [6]) (by kernel_rfl) (by simp) ?_
        refine rdR (fun K hK => ?_) ?_
        ·go_simp
         refine (areRulesS_b _ _ (L ++ [((nm, sx, pl, fr, tw) : Rul)]) HG7.out true H1.out).mono ?_
         rintro e8 w8 ⟨rfl, hb8⟩
         have hp8 : Below W3.heap.size W3 w8 := hp7.trans (hb8.mono s7)
         have s8 := hp8.size
         have hS8 := And.intro (oldc hp8 lT t0) (And.intro (oldc hp8 lT t1) (And.intro (oldc hp8 lT t2) (And.intro (oldc hp8 lT t3) (oldc hp8 lT t4))))
         clear hb8
         refine hK.out _ _ ?_ (fun hHeld => ?_)
         ·exact kpT
         clear hK K
         try simp only [Act.put, cA, cB, cC]
         refine tkA 7 ?_
         try simp only [Act.put, cA, cB, cC]
         refine skR 8 ?_
         try simp only [Act.put, cA, cB, cC]
         refine skR 9 ?_
         try simp only [Act.put, cA, cB, cC]
         refine tkA 10 ?_
         try simp only [Act.put, cA, cB, cC]
         refine wpAnyH_done (by kernel_rfl) ?_ _
         go_wp2_with fail
         go_meet
         exact ⟨true, w8, rfl, hp8, OffF.refl _ _, HC3.out.grow hp8⟩
        exact AllReadyH.nil
       exact AllReadyH.nil
      exact AllReadyH.nil
     exact AllReadyH.nil
    refine rdR (fun K hK => ?_) ?_
    ·go_simp
     refine hK.out _ _ ?_ (fun hHeld => ?_)
     ·exact kpT
     clear hK K
     try simp only [Act.put, cA, cB, cC]
     refine wpAnyH_ready (rs := [0]) (by kernel_rfl) (by simp) ?_
     refine rdR (fun K hK => ?_) ?_
     ·go_simp
      refine hK.out _ _ ?_ (fun hHeld => ?_)
      ·exact kpT
      clear hK K
      try simp only [Act.put, cA, cB, cC]
      refine wpAnyH_ready (rs := [2]) (by kernel_rfl) (by simp) ?_
      refine rdR (fun K hK => ?_) ?_
      ·have hGT := (GL.lit0 (α := Rul) false W3.heap.size 0 (W3.alloc (.cells #[.string nm, .int .i64 sx, .int .i64 pl, .slice fao fn fcap, .slice tao tn tcap] 50)) 50 (by simp))
       try rw [World.size_alloc] at hGT
       refine step_spread rfl rfl slRule (by show (0 : Nat) < 5; omega) hGT (by simp [Act.eval, Act.put]) (vs := .slice oao L.length ocap) (by simp [Act.eval, Act.put]) (ys := L) (lx := 0) (hx' := W3.heap.size) (It.below HRD.out (show Below W3.heap.size W3 _ from bwT)) (Nat.le_refl _) (.inr ⟨Nat.le_refl _, fun h => by cases h⟩) (by unfold maxLen; simp; omega) (by simp; omega) ltT ?_
       rintro v5 w5 hG5 hg5 hb5
       have hp5 : Below W3.heap.size W3 w5 := Below.trans (show Below W3.heap.size W3 _ from bwT) hb5
       have s5 := hp5.size
       obtain ⟨ao5, cap5, hv5, -, -⟩ := hG5.len
       subst hv5
       have hG5 : GL false W3.heap.size 0 w5.heap.size w5 50 (.slice ao5 L.length cap5) L := hG5
       have m5 : ∀ j c, ([.string nm, .int .i64 sx, .int .i64 pl, .slice fao fn fcap, .slice tao tn tcap] : List Value)[j]? = some c → w5.cell? ⟨W3.heap.size, j, none⟩ = some c := by intro j c hj; rw [World.cell?_of_block (a := ⟨W3.heap.size, j, none⟩) (hg5.block W3.heap.size ltT (by simp [Value.ownBlock]))]; (match j, hj with | 0, hj => (simp at hj; subst hj; simp [go_sem]) | 1, hj => (simp at hj; subst hj; simp [go_sem]) | 2, hj => (simp at hj; subst hj; simp [go_sem]) | 3, hj => (simp at hj; subst hj; simp [go_sem]) | 4, hj => (simp at hj; subst hj; simp [go_sem]))
       have hS5 := And.intro (oldc hp5 lT t0) (And.intro (oldc hp5 lT t1) (And.intro (oldc hp5 lT t2) (And.intro (oldc hp5 lT t3) (oldc hp5 lT t4))))
       have HG5 := Lib.hid hG5
       clear hG5 hb5 hGT
       refine hK.out _ _ ?_ (fun hHeld => ?_)
       ·exact kpT
       clear hK K
       try simp only [Act.put, cA, cB, cC]
       refine wpAnyH_ready (rs := [5]) (by kernel_rfl) (by simp) ?_
       refine rdR (fun K hK => ?_) ?_
       ·refine step_push rfl rfl slRule (by show (0 : Nat) < 5; omega) HG5.out (by simp [Act.eval, Act.put]) (ad := ⟨W3.heap.size, 0, none⟩) (c := 1) (by simp [Act.eval, Act.put]) (cs := [.string nm, .int .i64 sx, .int .i64 pl, .slice fao fn fcap, .slice tao tn tcap]) (y := ((nm, sx, pl, fr, tw) : Rul)) (lx := 0) (hx' := W3.heap.size) ?c1 (It.below HITR.out hp5) (Nat.le_refl _) (.inr ⟨Nat.le_refl _, fun h => by cases h⟩) (by unfold maxLen; omega) (by omega) ltT rfl rfl ?_
        case c1 =>
         intro j c hj
         (have h := m5 j c hj; by_cases hj0 : j = 0; (subst hj0; simpa [Addr.add] using h); simpa [Addr.add, hj0] using h)
        rintro g7 cap7 w7 hG7 hg7 hat7 hlg7 hlt7 hb7
        have hp7 : Below W3.heap.size W3 w7 := hp5.trans hb7
        have s7 := hp7.size
        have hS7 := And.intro (oldc hp7 lT t0) (And.intro (oldc hp7 lT t1) (And.intro (oldc hp7 lT t2) (And.intro (oldc hp7 lT t3) (oldc hp7 lT t4))))
        have HG7 := Lib.hid (hG7.rd (l0 := 0) (Nat.zero_le _) (Nat.zero_le _))
        clear hG7 hg7 hat7 hb7
        refine hK.out _ _ ?_ (fun hHeld => ?_)
        ·exact kpT
        clear hK K
        try simp only [Act.put, cA, cB, cC]
        refine wpAnyH_ready (rs := [6]) (by kernel_rfl) (by simp) ?_
        refine rdR (fun K hK => ?_) ?_
        ·go_simp
         refine (areRulesS_b _ _ (L ++ [((nm, sx, pl, fr, tw) : Rul)]) HG7.out true H1.out).mono ?_
         rintro e8 w8 ⟨rfl, hb8⟩
         have hp8 : Below W3.heap.size W3 w8 := hp7.trans (hb8.mono s7)
         have s8 := hp8.size
         have hS8 := And.intro (oldc hp8 lT t0) (And.intro (oldc hp8 lT t1) (And.intro (oldc hp8 lT t2) (And.intro (oldc hp8 lT t3) (oldc hp8 lT t4))))
         clear hb8
         refine hK.out _ _ ?_ (fun hHeld => ?_)
         ·exact kpT
         clear hK K
         try simp only [Act.put, cA, cB, cC]
         refine tkA 7 ?_
         try simp only [Act.put, cA, cB, cC]
         refine skR 8 ?_
         try simp only [Act.put, cA, cB, cC]
         refine skR 9 ?_
         try simp only [Act.put, cA, cB, cC]
         refine tkA 10 ?_
         try simp only [Act.put, cA, cB, cC]
         refine wpAnyH_done (by kernel_rfl) ?_ _
         go_wp2_with fail
         go_meet
         exact ⟨true, w8, rfl, hp8, OffF.refl _ _, HC3.out.grow hp8⟩
        exact AllReadyH.nil
       exact AllReadyH.nil
      exact AllReadyH.nil
     exact AllReadyH.nil
    exact AllReadyH.nil
  case rest =>
   obtain ⟨c, wy, rfl, hpy, hOx, hCx⟩ := hcut
   obtain ⟨WX, hWX⟩ : ∃ W : World, W = wc := ⟨_, rfl⟩
   subst hWX
   have sy := hpy.size
   have sx2 := hOx.size
   have hnp : w2.heap.size ≠ p := by omega
   have z0 := offq hOx hnp (by omega) (oldc hpy lT t0)
   have z1 := offq hOx hnp (by omega) (oldc hpy lT t1)
   have z2 := offq hOx hnp (by omega) (oldc hpy lT t2)
   have z3 := offq hOx hnp (by omega) (oldc hpy lT t3)
   have z4 := offq hOx hnp (by omega) (oldc hpy lT t4)
   have lTx : w2.heap.size < WX.heap.size := by omega
   have HGX := Lib.hid ((HG3b.out.below hpy).keep (offzn hOx (.inl (by omega)) (by omega)) (offzn hOx (.inl (by omega)) (by omega)))
   have HORX := Lib.hid ((HOR.out.below hpy).keep (offzn hOx (.inl (by omega)) (by omega)))
   have HFX := Lib.hid ((OffF.below HF3.out hpy).trans hOx)
   have HCX := Lib.hid hCx
   clear hpy hOx hCx t0 t1 t2 t3 t4 HG3 HG3b HRD HOR HC3 HF3 HITR H1
   cases c
   ·clear z0 z1 z2 z3 z4 HORX HGR
    go_wp2
    go_roundw
    case rel => exact ⟨k - 1, L, by omega, by omega, by go_num, Lib.hid HGX.out.top, hgd, HCX.out, HFX.out, by omega⟩
    case measure => simp [intOf]; omega
   ·go_wp2_with (at_builtin; refine wpList_push rfl rfl slRule (by show (0 : Nat) < 5; omega) (HGX.out.alloc _) rfl (ad := ⟨WX.heap.size, 0, none⟩) rfl (cs := [.string nm, .int .i64 sx, .int .i64 pl, .slice fao fn fcap, .slice tao tn tcap]) (y := ((nm, sx, pl, fr, tw) : Rul)) (lx := wb.heap.size) (hx' := w2.heap.size) ?d1 (It.below HORX.out.it (show Below WX.heap.size WX _ from bwT)) (by omega) (.inl (Nat.le_refl _)) (by unfold maxLen; omega) (by omega) ?d2 ?_)
    case d1 =>
     intro j c hj
     (match j, hj with | 0, hj => (simp at hj; subst hj; simp [Addr.add, go_sem]) | 1, hj => (simp at hj; subst hj; simp [Addr.add, go_sem]) | 2, hj => (simp at hj; subst hj; simp [Addr.add, go_sem]) | 3, hj => (simp at hj; subst hj; simp [Addr.add, go_sem]) | 4, hj => (simp at hj; subst hj; simp [Addr.add, go_sem]))
    case d2 => simp; omega
    intro v' w9 hG9 _ hb9
    have HG9 := Lib.hid hG9
    have hB9 : Below w1.heap.size WX w9 := Below.trans (show Below w1.heap.size WX _ from bwT) hb9
    have HF9 := Lib.hid (show OffF [p] w w9 from ⟨hB9.os.trans HFX.out.os, hB9.tape.trans HFX.out.tape, hB9.output.trans HFX.out.output, Nat.le_trans HFX.out.size hB9.size, fun b hb hn => (hB9.block b (by omega)).trans (HFX.out.block b hb hn)⟩)
    have HC9 := Lib.hid (HCX.out.below (hB9.mono (by omega)))
    have HG9b := Lib.hid (show ∀ r ∈ L ++ [((nm, sx, pl, fr, tw) : Rul)], goodB r = true from fun r hr => by
     rcases List.mem_append.1 hr with h | h
     ·exact hgd.out r h
     ·rw [List.mem_singleton.1 h]; exact HGR.out)
    have s9 := hB9.size
    have hl9 : ((L ++ [((nm, sx, pl, fr, tw) : Rul)]).length : Int) + (k - 1) ≤ 6 := by simp; omega
    clear hG9 hb9 HGX HORX HGR
    go_wp2
    go_roundw
    case rel => exact ⟨k - 1, _, by omega, hl9, by go_num, HG9, HG9b, HC9.out, HF9.out, by omega⟩
    case measure => simp [intOf]; omega
def PostMR (w : World) (e : Ending) (w' : World) : Prop := ∃ (v : Value) (rs : List Rul), e = .returned v ∧ Ow w.heap.size w'.heap.size w' [v] rs ∧ Hid ((∀ r ∈ rs, goodB r = true) ∧ rs.length ≤ 12 ∧ areRules rs = true) ∧ Below w.heap.size w w'
end Go.Proofs.YtdpkldapobbnpaaGreatDoor
