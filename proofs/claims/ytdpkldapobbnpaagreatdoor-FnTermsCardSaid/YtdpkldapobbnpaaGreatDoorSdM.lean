/- Texts laid one behind the other (merge.py): LtI, Agr, SdI, RvI. -/
import Derived.Test.YtdpkldapobbnpaaGreatDoorTrmC
import Derived.Test.YtdpkldapobbnpaaGreatDoorTrsM
import Derived.Test.YtdpkldapobbnpaaGreatDoorDivM
import Derived.Test.YtdpkldapobbnpaaGreatDoorBase
namespace Go.Proofs.YtdpkldapobbnpaaGreatDoor
set_option linter.unusedVariables false
set_option linter.unusedSimpArgs false
open Go.RowKit
section
theorem slStrS : SlTy Tryz.prog 47 9 (.string ByteArray.empty) 1 16 := SlTy.of Tryz.underlying47 (by kernel_rfl) rfl
theorem termTI_y {z z1 : Bool} {lo hi lo1 hi1 : Nat} (w : World) (y1 y2 a b : Value) (rs : List Rul) (es : List Ent) (t : Kin) (h : Rd z lo hi w [y1, y2] ((rs, es) : Trm)) (h' : Rd z1 lo1 hi1 w [a, b] t) (hr : allRules rs) (ht : isKin t = true) (X : ByteArray) (hX : X = tmText (termOf (rs, es) t)) (r : Bool) (hrr : r = (termOf (rs, es) t).isSome) :
  Calls Tryz.prog 44 #[.agg #[y1, y2], .agg #[a, b]] w (PostV w (.tuple #[.string X, .bool r])) := by
 subst hX hrr
 exact termI_any w y1 y2 a b rs es t h h' hr ht _ rfl
def tmL (y : Trm) (T : List Kin) : List ByteArray := T.map fun t => tmText (termOf y t)
def tmB (y : Trm) (T : List Kin) : List Bool := T.map fun t => (termOf y t).isSome
theorem tmL_len (y : Trm) (T : List Kin) : (tmL y T).length = T.length := by simp [tmL]
theorem tmB_len (y : Trm) (T : List Kin) : (tmB y T).length = T.length := by simp [tmB]
theorem tmL_at {y : Trm} {T : List Kin} {i : Nat} {s : Kin} (h : T[i]? = some s) : (tmL y T)[i]? = some (tmText (termOf y s)) := by simp [tmL, h]
theorem tmB_at {y : Trm} {T : List Kin} {i : Nat} {s : Kin} (h : T[i]? = some s) : (tmB y T)[i]? = some (termOf y s).isSome := by simp [tmB, h]
def PostLt (w : World) (tv : Value) (y : Trm) (T : List Kin) (e : Ending) (w' : World) : Prop :=
 ∃ u v, e = .returned (.agg #[tv, u, v]) ∧ Rd true w.heap.size w'.heap.size w' [u] (tmL y T) ∧ Rd true w.heap.size w'.heap.size w' [v] (tmB y T) ∧ Below w.heap.size w w'
set_option maxRecDepth 20000 in
set_option maxHeartbeats 8000000 in
theorem listTermsI_any {z z1 : Bool} {lo hi lo1 hi1 : Nat} (w : World) (y1 y2 tv : Value) (rs : List Rul) (es : List Ent) (T : List Kin) (h : Rd z lo hi w [y1, y2] ((rs, es) : Trm)) (h' : Rd z1 lo1 hi1 w [tv] T) (hyv : true = isTerm (rs, es)) (hk : ∀ t ∈ T, isKin t = true) (hTL : T.length ≤ 600) :
  Calls Tryz.prog 48 #[.agg #[y1, y2], tv] w (PostLt w tv (rs, es) T) := by
 have HY := Lib.hid h
 obtain ⟨hy1, hy2⟩ := h.two rfl
 dsimp only at hy1 hy2
 obtain ⟨ra, rn, rcap, rfl, -⟩ := hy1.shape
 obtain ⟨ea, en, ecap, rfl, -⟩ := hy2.shape
 have hrd := Lib.hid h'
 obtain ⟨tao, tn, tcap, rfl, htn, htc, htm, -⟩ := h'.shape
 subst htn
 have HRS := Lib.hid (show allRules rs from (areRules_facts (isTerm_facts hyv.symm).1).2.1)
 have HT1 := Lib.hid hyv
 have HKN := Lib.hid hk
 clear h h' hy1 hy2 hyv hk
 go_enter Tryz.func48, Tryz.ntmps48
 go_wp2
 go_loopw [7, 8, 9, 14] (fun _ _ _ s14 wr => ∃ i : Nat, i ≤ T.length ∧ s14 = .int .i64 i ∧ Hid (Two (w.heap.size + 1 + 1) ((w.alloc (.cells #[.slice ra rn rcap, .slice ea en ecap] 25)).alloc (.cells #[.slice none 0 0, .slice none 0 0, .slice none 0 0] 77)) wr 9 4 (.slice tao T.length tcap) (tmL (rs, es) (T.take i)) (tmB (rs, es) (T.take i)))) (fun _ _ _ s14 _ => T.length - (intOf s14).toNat)
 case atStart => exact ⟨0, Nat.zero_le _, rfl, Lib.hid ⟨⟨_, _, by simp [go_sem], by simp [go_sem], by simp [go_sem], GL.start _ _ _ _ _ _, GL.start _ _ _ _ _ _, fun g h => by cases h⟩, fun o => by simp [go_sem], by simp, bwT⟩⟩
 case round =>
  obtain ⟨wa, hwa⟩ : ∃ wa : World, wa = ((w.alloc (.cells #[.slice ra rn rcap, .slice ea en ecap] 25)).alloc (.cells #[.slice none 0 0, .slice none 0 0, .slice none 0 0] 77)) := ⟨_, rfl⟩
  have ya0 : wa.cell? ⟨w.heap.size, 0, none⟩ = some (.slice ra rn rcap) := by subst hwa; simp [go_sem]
  have ya1 : wa.cell? ⟨w.heap.size, 1, none⟩ = some (.slice ea en ecap) := by subst hwa; simp [go_sem]
  have za0 : wa.cell? ⟨w.heap.size + 1, 0, none⟩ = some (.slice none 0 0) := by subst hwa; simp [go_sem]
  have za1 : wa.cell? ⟨w.heap.size + 1, 1, none⟩ = some (.slice none 0 0) := by subst hwa; simp [go_sem]
  have za2 : wa.cell? ⟨w.heap.size + 1, 2, none⟩ = some (.slice none 0 0) := by subst hwa; simp [go_sem]
  have zf : ∀ o, wa.frozen? ⟨w.heap.size + 1, o, none⟩ = false := fun o => by subst hwa; simp [go_sem]
  have hBa : Below w.heap.size w wa := by subst hwa; exact bwT
  have sa : w.heap.size + 1 + 1 ≤ wa.heap.size := by subst hwa; simp
  obtain ⟨wb, hwb⟩ : ∃ wm : World, wm = wr := ⟨_, rfl⟩
  subst hwb
  obtain ⟨i, hi1, rfl, hT0⟩ := hrel
  rw [← hwa] at hT0
  have HWA := Lib.hid hwa
  clear hwa
  have hBr := hT0.out.below
  have sr := hBr.size
  have hBw : Below w.heap.size w wb := hBa.trans (hBr.mono (by omega))
  have q_y0 := oldc hBr (by omega) ya0
  have q_y1 := oldc hBr (by omega) ya1
  have l_y : w.heap.size < wb.heap.size := by omega
  have l_g : w.heap.size + 1 + 1 < wb.heap.size := hT0.out.lt
  by_cases hli : i < T.length
  ·have hIi : (i : Int) < (T.length : Int) := by omega
   obtain ⟨tb, toff, t, tvv, rfl, ht, c0, c1, hti, hvs, hrt0, -, -, tlt⟩ := hrd.out.kin_at hli
   obtain ⟨sao, sn, scap, rfl, hsn, -⟩ := hvs.shape
   subst hsn
   have k0 := oldc hBw tlt c0
   have k1 := oldc hBw tlt c1
   have hrt := Lib.hid hrt0
   have HK := Lib.hid (HKN.out t (List.mem_of_getElem? ht.out))
   obtain ⟨q, hlet_q⟩ : ∃ r, r = tmText (termOf (rs, es) t) := ⟨_, rfl⟩
   have HQ := Lib.hid hlet_q
   clear hlet_q
   obtain ⟨r2, hlet_r2⟩ : ∃ r, r = (termOf (rs, es) t).isSome := ⟨_, rfl⟩
   have HR2 := Lib.hid hlet_r2
   clear hlet_r2
   have HQL := Lib.hid (show q.size ≤ maxLen by rw [HQ.out]; exact tmText_le HT1.out t)
   obtain ⟨L1, hL1⟩ : ∃ L, L = tmL (rs, es) (T.take i) := ⟨_, rfl⟩
   obtain ⟨L2, hL2⟩ : ∃ L, L = tmB (rs, es) (T.take i) := ⟨_, rfl⟩
   have hN1 : L1.length ≤ 600 := by rw [hL1, tmL, List.length_map, List.length_take]; omega
   have hN2 : L2.length ≤ 600 := by rw [hL2, tmB, List.length_map, List.length_take]; omega
   have HL1 := Lib.hid (show L1 ++ [q] = tmL (rs, es) (T.take (i + 1)) by rw [hL1, take_snoc ht.out, HQ.out]; simp [tmL])
   have HL2 := Lib.hid (show L2 ++ [r2] = tmB (rs, es) (T.take (i + 1)) by rw [hL2, take_snoc ht.out, HR2.out]; simp [tmB])
   rw [← hL1, ← hL2] at hT0
   clear hL1 hL2 ht c0 c1 hti hvs hrt0
   go_wp2_with fail
   refine (termTI_y _ _ _ _ _ rs es t (HY.out.below ?k1) (hrt.out.below ?k2) HRS.out HK.out q HQ.out r2 HR2.out).mono ?_
   case k1 => exact hBw.alloc (by omega) _
   case k2 => exact hBw.alloc (by omega) _
   rintro e w1 ⟨rfl, hb1⟩
   have hbr1 : Below wb.heap.size wb w1 := Below.trans ((Below.refl _ _).alloc (Nat.le_refl _) _) (hb1.mono (by simp))
   have s1 := hbr1.size
   obtain ⟨⟨v1, v2, q0, q1, q2, hG1, hG2, hne⟩, hfr, hGl, hB1⟩ := hT0.out.keep hbr1
   clear hb1 hT0 k0 k1
   have hbW : Below w1.heap.size w1 (w1.alloc (.cells #[.string q] 9)) := (Below.refl _ _).alloc (Nat.le_refl _) _
   have q0W := oldc hbW hGl q0
   have q1W := oldc hbW hGl q1
   have q2W := oldc hbW hGl q2
   have hfrW := fun o => (hbW.frozen (p := ⟨w.heap.size + 1 + 1, o, none⟩) hGl).trans (hfr o)
   have hG1W := (hG1.below hbW).top
   have hG2W := Lib.hid (hG2.below hbW).top
   have hBW1 := hB1.trans (hbW.mono (Nat.le_of_lt hGl))
   obtain ⟨ao1, cap1, rfl, -, -⟩ := hG1.len
   go_wp2_with (at_builtin; refine wpList_push_at rfl rfl slStrS (by show (0 : Nat) < 1; omega) hG1W rfl (ad := ⟨w1.heap.size, 0, none⟩) rfl (cs := [.string q]) (y := q) (lx := (w1.alloc (.cells #[.string q] 9)).heap.size) (hx' := (w1.alloc (.cells #[.string q] 9)).heap.size) ?c1 (It.flat (z := true) (w0 := w1) (fp := []) ⟨rfl, HQL.out, rfl⟩) ?c3 (.inl (Nat.le_refl _)) (by unfold maxLen; omega) (by omega) ?c2 ?_)
   case c1 => intro j c hj; match j, hj with | 0, hj => simp at hj; subst hj; simp [Addr.add, go_sem]
   case c2 => simp; omega
   case c3 => simp; omega
   rintro g1 cp1 w2 hG5 hg5 hb5 hat
   have hTwo1 := Lib.hid (Two.mk1 hBW1 q0W q1W q2W hfrW (by simp; omega) hG2W.out hne hG5 hg5 (by simpa using hat) hb5)
   have q1X := oldc hb5 (Nat.lt_succ_self _) q1W
   have f1X := (hb5.frozen (p := ⟨w.heap.size + 1 + 1, 1, none⟩) (Nat.lt_succ_self _)).trans (hfrW 1)
   clear hG1W hG2W hG5 hg5 hat hfrW q0W q1W q2W hbW hBW1 hG1 hG2 hne
   go_upto_region 7 with fail
   obtain ⟨w3, hw3⟩ : ∃ x : World, x = w2.setCell ⟨w.heap.size + 1 + 1, 1, none⟩ (.slice (some ⟨g1, 0, none⟩) (L1.length + 1) cp1) := ⟨_, rfl⟩
   rw [← hw3] at hTwo1 ⊢
   clear hw3 q1X f1X hb5
   obtain ⟨⟨u1, u2, q0, q1, q2, hG1, hG2, hne⟩, hfr, hGl, hB1⟩ := hTwo1.out
   have hbW : Below w3.heap.size w3 (w3.alloc (.cells #[.bool r2] 4)) := (Below.refl _ _).alloc (Nat.le_refl _) _
   have q0W := oldc hbW hGl q0
   have q1W := oldc hbW hGl q1
   have q2W := oldc hbW hGl q2
   have hfrW := fun o => (hbW.frozen (p := ⟨w.heap.size + 1 + 1, o, none⟩) hGl).trans (hfr o)
   have hG1W := Lib.hid (hG1.below hbW).top
   have hG2W := (hG2.below hbW).top
   have hBW1 := hB1.trans (hbW.mono (Nat.le_of_lt hGl))
   obtain ⟨ao2, cap2, rfl, -, -⟩ := hG2.len
   clear hTwo1
   go_wp2_with (at_builtin; refine wpList_push_at rfl rfl slBool (by show (0 : Nat) < 1; omega) hG2W rfl (ad := ⟨w3.heap.size, 0, none⟩) rfl (cs := [.bool r2]) (y := r2) (lx := (w3.alloc (.cells #[.bool r2] 4)).heap.size) (hx' := (w3.alloc (.cells #[.bool r2] 4)).heap.size) ?c1 (It.flat (z := true) (w0 := w1) (fp := []) ⟨rfl, rfl⟩) ?c3 (.inl (Nat.le_refl _)) (by unfold maxLen; omega) (by omega) ?c2 ?_)
   case c1 => intro j c hj; match j, hj with | 0, hj => simp at hj; subst hj; simp [Addr.add, go_sem]
   case c2 => simp; omega
   case c3 => simp; omega
   rintro g2 cp2 w4 hG5 hg5 hb5 hat
   have hTwo2 := Lib.hid (Two.mk2 hBW1 q0W q2W q1W hfrW (by simp; omega) hG1W.out hne hG5 hg5 (by simpa using hat) hb5)
   have q2X := oldc hb5 (Nat.lt_succ_self _) q2W
   have f2X := (hb5.frozen (p := ⟨w.heap.size + 1 + 1, 2, none⟩) (Nat.lt_succ_self _)).trans (hfrW 2)
   rw [HL1.out, HL2.out] at hTwo2
   clear hG1W hG2W hG5 hg5 hat hfrW q0W q1W q2W hbW hBW1 hG1 hG2 hne
   go_wp2
   go_roundw
   case rel => exact ⟨i + 1, by omega, by go_num, by rw [← HWA.out]; exact hTwo2⟩
   case measure => simp [intOf]; omega
  ·obtain rfl : i = T.length := by omega
   have nI : ¬ (T.length : Int) < (T.length : Int) := by omega
   have hT2 := hT0.out
   rw [List.take_length] at hT2
   obtain ⟨⟨v1, v2, q0, q1, q2, hG1, hG2, hne⟩, hfr, hGl, hB1⟩ := hT2
   obtain ⟨ao1, cap1, rfl, -, -⟩ := hG1.len
   obtain ⟨ao2, cap2, rfl, -, -⟩ := hG2.len
   have r0 := oldc hBr (by omega) za0
   have r1 := oldc hBr (by omega) za1
   have r2 := oldc hBr (by omega) za2
   have rf : ∀ o, wb.frozen? ⟨w.heap.size + 1, o, none⟩ = false := fun o => (hBr.frozen (p := ⟨w.heap.size + 1, o, none⟩) (Nat.lt_succ_self _)).trans (zf o)
   have HU := Lib.hid (hG1.rd (l0 := w.heap.size + 1 + 1) (by omega) (by omega))
   have HV := Lib.hid (hG2.rd (l0 := w.heap.size + 1 + 1) (by omega) (by omega))
   clear hG1 hG2 hT0 hne hfr
   have rf0 := rf 0
   have rf1 := rf 1
   have rf2 := rf 2
   have hxx : ¬ w.heap.size + 1 + 1 = w.heap.size + 1 := by omega
   go_wp2
   refine bodyPost_ret (v := .agg #[.slice tao T.length tcap, .slice ao1 (tmL (rs, es) T).length cap1, .slice ao2 (tmB (rs, es) T).length cap2]) (by simp [results, Tryz.results48, go_sem, r0, r1, r2, hxx]) rfl ⟨_, _, rfl, ?_, ?_, bwT⟩
   ·exact (HU.out.keep znT).mono (by omega) (by simp)
   ·exact (HV.out.keep znT).mono (by omega) (by simp)
end
section
set_option maxRecDepth 20000 in
set_option maxHeartbeats 8000000 in
theorem agreeI_b {z z' : Bool} {lo hi lo' hi' : Nat} (w : World) (tao : Option Addr) (tn tcap : Nat) (u v : Value) (A : List ByteArray) (B : List Bool) (h : Rd z lo hi w [u] A) (h' : Rd z' lo' hi' w [v] B) (i j : Nat) (hi1 : i < A.length) (hj1 : j < A.length) (hi2 : i < B.length) (hj2 : j < B.length) (hA : A.length ≤ 1000) (hB : B.length ≤ 1000)
  (x y : ByteArray) (hx : A[i]? = some x) (hy : A[j]? = some y) (p q : Bool) (hp : B[i]? = some p) (hq : B[j]? = some q) (r : Bool) (hr : r = (decide (p = q) && decide (x = y))) :
  Calls Tryz.prog 49 #[.agg #[.slice tao tn tcap, u, v], .int .i64 i, .int .i64 j] w (PostB w r) := by
 obtain ⟨ao, n, cap, rfl, rfl, hnc, hcm, -⟩ := h.shape
 obtain ⟨bo, m, dap, rfl, rfl, hmc, hdm, -⟩ := h'.shape
 obtain ⟨xb, xo, x', rfl, hx', c1, -, -, -, l1, -⟩ := h.str_at hi1
 obtain ⟨_, _, y', e, hy', c2, -, -, -, l2, -⟩ := h.str_at hj1
 simp only [Option.some.injEq, Addr.mk.injEq, and_true] at e
 obtain ⟨rfl, rfl⟩ := e
 obtain ⟨kb, ko, p', rfl, hp', c3, -, -, l3, -⟩ := h'.bool_at hi2
 obtain ⟨_, _, q', e, hq', c4, -, -, l4, -⟩ := h'.bool_at hj2
 simp only [Option.some.injEq, Addr.mk.injEq, and_true] at e
 obtain ⟨rfl, rfl⟩ := e
 obtain rfl : x' = x := Option.some.inj (hx'.out.symm.trans hx)
 obtain rfl : y' = y := Option.some.inj (hy'.out.symm.trans hy)
 obtain rfl : p' = p := Option.some.inj (hp'.out.symm.trans hp)
 obtain rfl : q' = q := Option.some.inj (hq'.out.symm.trans hq)
 have HR := Lib.hid hr
 have tx := text_eq x' y'
 have iA : (i : Int) < (A.length : Int) := by omega
 have jA : (j : Int) < (A.length : Int) := by omega
 have iB : (i : Int) < (B.length : Int) := by omega
 have jB : (j : Int) < (B.length : Int) := by omega
 have HTX := Lib.hid tx
 clear hx hy hp hq hx' hy' hp' hq' h h' hr tx
 cases p' <;> cases q'
 ·go_enter Tryz.func49, Tryz.ntmps49
  go_upto_region 1 with fail
  refine wp_region_held_drew (S := (fun w' => w'.cell? ⟨w.heap.size, 1, none⟩ = some (.slice (some ⟨xb, xo, none⟩) A.length cap) ∧ w'.cell? ⟨w.heap.size, 2, none⟩ = some (.slice (some ⟨kb, ko, none⟩) B.length dap) ∧ w'.cell? ⟨xb, xo + i, none⟩ = some (.string x') ∧ w'.cell? ⟨xb, xo + j, none⟩ = some (.string y') ∧ w'.cell? ⟨kb, ko + i, none⟩ = some (.bool false) ∧ w'.cell? ⟨kb, ko + j, none⟩ = some (.bool false))) (by kernel_rfl) ?_ (fun hHeld => ?_)
  ·first | exact trivial | ((try dsimp only); go_keep)
  refine tkA 0 ?_
  try simp only [Act.put, cA, cB, cC]
  refine tkA 2 ?_
  try simp only [Act.put, cA, cB, cC]
  refine tkA 5 ?_
  try simp only [Act.put, cA, cB, cC]
  refine tkA 7 ?_
  try simp only [Act.put, cA, cB, cC]
  refine tkA 1 ?_
  try simp only [Act.put, cA, cB, cC]
  refine tkA 6 ?_
  try simp only [Act.put, cA, cB, cC]
  refine tkA 3 ?_
  try simp only [Act.put, cA, cB, cC]
  refine tkA 8 ?_
  try simp only [Act.put, cA, cB, cC]
  refine tkA 4 ?_
  try simp only [Act.put, cA, cB, cC]
  refine tkA 9 ?_
  try simp only [Act.put, cA, cB, cC]
  refine tkA 10 ?_
  try simp only [Act.put, cA, cB, cC]
  refine tkA 11 ?_
  try simp only [Act.put, cA, cB, cC]
  refine tkA 12 ?_
  try simp only [Act.put, cA, cB, cC]
  refine tkA 14 ?_
  try simp only [Act.put, cA, cB, cC]
  refine tkA 17 ?_
  try simp only [Act.put, cA, cB, cC]
  refine tkA 19 ?_
  try simp only [Act.put, cA, cB, cC]
  refine tkA 13 ?_
  try simp only [Act.put, cA, cB, cC]
  refine tkA 18 ?_
  try simp only [Act.put, cA, cB, cC]
  refine tkA 15 ?_
  try simp only [Act.put, cA, cB, cC]
  refine tkA 20 ?_
  try simp only [Act.put, cA, cB, cC]
  refine tkA 16 ?_
  try simp only [Act.put, cA, cB, cC]
  refine tkA 21 ?_
  try simp only [Act.put, cA, cB, cC]
  refine tkA 22 ?_
  try simp only [Act.put, cA, cB, cC]
  refine tkA 23 ?_
  try simp only [Act.put, cA, cB, cC]
  refine tkA 24 ?_
  try simp only [Act.put, cA, cB, cC]
  refine wpAnyH_done (by kernel_rfl) ?_ _
  go_wp2_with fail
  go_ret
  exact ⟨ret_bool (by rw [HR.out]; first | rfl | exact HTX.out | simp [HTX.out]), bwT⟩
 ·go_enter Tryz.func49, Tryz.ntmps49
  go_upto_region 1 with fail
  refine wp_region_held_drew (S := (fun w' => w'.cell? ⟨w.heap.size, 1, none⟩ = some (.slice (some ⟨xb, xo, none⟩) A.length cap) ∧ w'.cell? ⟨w.heap.size, 2, none⟩ = some (.slice (some ⟨kb, ko, none⟩) B.length dap) ∧ w'.cell? ⟨xb, xo + i, none⟩ = some (.string x') ∧ w'.cell? ⟨xb, xo + j, none⟩ = some (.string y') ∧ w'.cell? ⟨kb, ko + i, none⟩ = some (.bool false) ∧ w'.cell? ⟨kb, ko + j, none⟩ = some (.bool true))) (by kernel_rfl) ?_ (fun hHeld => ?_)
  ·first | exact trivial | ((try dsimp only); go_keep)
  refine tkA 0 ?_
  try simp only [Act.put, cA, cB, cC]
  refine tkA 2 ?_
  try simp only [Act.put, cA, cB, cC]
  refine tkA 5 ?_
  try simp only [Act.put, cA, cB, cC]
  refine tkA 7 ?_
  try simp only [Act.put, cA, cB, cC]
  refine tkA 1 ?_
  try simp only [Act.put, cA, cB, cC]
  refine tkA 6 ?_
  try simp only [Act.put, cA, cB, cC]
  refine tkA 3 ?_
  try simp only [Act.put, cA, cB, cC]
  refine tkA 8 ?_
  try simp only [Act.put, cA, cB, cC]
  refine tkA 4 ?_
  try simp only [Act.put, cA, cB, cC]
  refine tkA 9 ?_
  try simp only [Act.put, cA, cB, cC]
  refine tkA 10 ?_
  try simp only [Act.put, cA, cB, cC]
  refine tkA 11 ?_
  try simp only [Act.put, cA, cB, cC]
  refine skR 12 ?_
  try simp only [Act.put, cA, cB, cC]
  refine skR 14 ?_
  try simp only [Act.put, cA, cB, cC]
  refine skR 17 ?_
  try simp only [Act.put, cA, cB, cC]
  refine skR 19 ?_
  try simp only [Act.put, cA, cB, cC]
  refine skR 13 ?_
  try simp only [Act.put, cA, cB, cC]
  refine skR 18 ?_
  try simp only [Act.put, cA, cB, cC]
  refine skR 15 ?_
  try simp only [Act.put, cA, cB, cC]
  refine skR 20 ?_
  try simp only [Act.put, cA, cB, cC]
  refine skR 16 ?_
  try simp only [Act.put, cA, cB, cC]
  refine skR 21 ?_
  try simp only [Act.put, cA, cB, cC]
  refine skR 22 ?_
  try simp only [Act.put, cA, cB, cC]
  refine tkA 23 ?_
  try simp only [Act.put, cA, cB, cC]
  refine tkA 24 ?_
  try simp only [Act.put, cA, cB, cC]
  refine wpAnyH_done (by kernel_rfl) ?_ _
  go_wp2_with fail
  go_ret
  exact ⟨ret_bool (by rw [HR.out]; first | rfl | exact HTX.out | simp [HTX.out]), bwT⟩
 ·go_enter Tryz.func49, Tryz.ntmps49
  go_upto_region 1 with fail
  refine wp_region_held_drew (S := (fun w' => w'.cell? ⟨w.heap.size, 1, none⟩ = some (.slice (some ⟨xb, xo, none⟩) A.length cap) ∧ w'.cell? ⟨w.heap.size, 2, none⟩ = some (.slice (some ⟨kb, ko, none⟩) B.length dap) ∧ w'.cell? ⟨xb, xo + i, none⟩ = some (.string x') ∧ w'.cell? ⟨xb, xo + j, none⟩ = some (.string y') ∧ w'.cell? ⟨kb, ko + i, none⟩ = some (.bool true) ∧ w'.cell? ⟨kb, ko + j, none⟩ = some (.bool false))) (by kernel_rfl) ?_ (fun hHeld => ?_)
  ·first | exact trivial | ((try dsimp only); go_keep)
  refine tkA 0 ?_
  try simp only [Act.put, cA, cB, cC]
  refine tkA 2 ?_
  try simp only [Act.put, cA, cB, cC]
  refine tkA 5 ?_
  try simp only [Act.put, cA, cB, cC]
  refine tkA 7 ?_
  try simp only [Act.put, cA, cB, cC]
  refine tkA 1 ?_
  try simp only [Act.put, cA, cB, cC]
  refine tkA 6 ?_
  try simp only [Act.put, cA, cB, cC]
  refine tkA 3 ?_
  try simp only [Act.put, cA, cB, cC]
  refine tkA 8 ?_
  try simp only [Act.put, cA, cB, cC]
  refine tkA 4 ?_
  try simp only [Act.put, cA, cB, cC]
  refine tkA 9 ?_
  try simp only [Act.put, cA, cB, cC]
  refine tkA 10 ?_
  try simp only [Act.put, cA, cB, cC]
  refine tkA 11 ?_
  try simp only [Act.put, cA, cB, cC]
  refine skR 12 ?_
  try simp only [Act.put, cA, cB, cC]
  refine skR 14 ?_
  try simp only [Act.put, cA, cB, cC]
  refine skR 17 ?_
  try simp only [Act.put, cA, cB, cC]
  refine skR 19 ?_
  try simp only [Act.put, cA, cB, cC]
  refine skR 13 ?_
  try simp only [Act.put, cA, cB, cC]
  refine skR 18 ?_
  try simp only [Act.put, cA, cB, cC]
  refine skR 15 ?_
  try simp only [Act.put, cA, cB, cC]
  refine skR 20 ?_
  try simp only [Act.put, cA, cB, cC]
  refine skR 16 ?_
  try simp only [Act.put, cA, cB, cC]
  refine skR 21 ?_
  try simp only [Act.put, cA, cB, cC]
  refine skR 22 ?_
  try simp only [Act.put, cA, cB, cC]
  refine tkA 23 ?_
  try simp only [Act.put, cA, cB, cC]
  refine tkA 24 ?_
  try simp only [Act.put, cA, cB, cC]
  refine wpAnyH_done (by kernel_rfl) ?_ _
  go_wp2_with fail
  go_ret
  exact ⟨ret_bool (by rw [HR.out]; first | rfl | exact HTX.out | simp [HTX.out]), bwT⟩
 ·go_enter Tryz.func49, Tryz.ntmps49
  go_upto_region 1 with fail
  refine wp_region_held_drew (S := (fun w' => w'.cell? ⟨w.heap.size, 1, none⟩ = some (.slice (some ⟨xb, xo, none⟩) A.length cap) ∧ w'.cell? ⟨w.heap.size, 2, none⟩ = some (.slice (some ⟨kb, ko, none⟩) B.length dap) ∧ w'.cell? ⟨xb, xo + i, none⟩ = some (.string x') ∧ w'.cell? ⟨xb, xo + j, none⟩ = some (.string y') ∧ w'.cell? ⟨kb, ko + i, none⟩ = some (.bool true) ∧ w'.cell? ⟨kb, ko + j, none⟩ = some (.bool true))) (by kernel_rfl) ?_ (fun hHeld => ?_)
  ·first | exact trivial | ((try dsimp only); go_keep)
  refine tkA 0 ?_
  try simp only [Act.put, cA, cB, cC]
  refine tkA 2 ?_
  try simp only [Act.put, cA, cB, cC]
  refine tkA 5 ?_
  try simp only [Act.put, cA, cB, cC]
  refine tkA 7 ?_
  try simp only [Act.put, cA, cB, cC]
  refine tkA 1 ?_
  try simp only [Act.put, cA, cB, cC]
  refine tkA 6 ?_
  try simp only [Act.put, cA, cB, cC]
  refine tkA 3 ?_
  try simp only [Act.put, cA, cB, cC]
  refine tkA 8 ?_
  try simp only [Act.put, cA, cB, cC]
  refine tkA 4 ?_
  try simp only [Act.put, cA, cB, cC]
  refine tkA 9 ?_
  try simp only [Act.put, cA, cB, cC]
  refine tkA 10 ?_
  try simp only [Act.put, cA, cB, cC]
  refine tkA 11 ?_
  try simp only [Act.put, cA, cB, cC]
  refine tkA 12 ?_
  try simp only [Act.put, cA, cB, cC]
  refine tkA 14 ?_
  try simp only [Act.put, cA, cB, cC]
  refine tkA 17 ?_
  try simp only [Act.put, cA, cB, cC]
  refine tkA 19 ?_
  try simp only [Act.put, cA, cB, cC]
  refine tkA 13 ?_
  try simp only [Act.put, cA, cB, cC]
  refine tkA 18 ?_
  try simp only [Act.put, cA, cB, cC]
  refine tkA 15 ?_
  try simp only [Act.put, cA, cB, cC]
  refine tkA 20 ?_
  try simp only [Act.put, cA, cB, cC]
  refine tkA 16 ?_
  try simp only [Act.put, cA, cB, cC]
  refine tkA 21 ?_
  try simp only [Act.put, cA, cB, cC]
  refine tkA 22 ?_
  try simp only [Act.put, cA, cB, cC]
  refine tkA 23 ?_
  try simp only [Act.put, cA, cB, cC]
  refine tkA 24 ?_
  try simp only [Act.put, cA, cB, cC]
  refine wpAnyH_done (by kernel_rfl) ?_ _
  go_wp2_with fail
  go_ret
  exact ⟨ret_bool (by rw [HR.out]; first | rfl | exact HTX.out | simp [HTX.out]), bwT⟩
end
section
set_option maxRecDepth 20000 in
set_option maxHeartbeats 16000000 in
theorem sameDivI_b {z z1 : Bool} {lo hi lo1 hi1 : Nat} (w : World) (y1 y2 z1' z2' : Value) (y x : Trm) (h : Rd z lo hi w [y1, y2] y) (h' : Rd z1 lo1 hi1 w [z1', z2'] x) (n : Int) (R : Bool) (hR : R = sameDiv y x n) :
  Calls Tryz.prog 17 #[.agg #[y1, y2], .agg #[z1', z2'], .int .i64 n] w (PostB w R) := by
 obtain ⟨rs, es⟩ := y
 obtain ⟨rs2, es2⟩ := x
 have HY := Lib.hid h
 have HX := Lib.hid h'
 obtain ⟨hy1, hy2⟩ := h.two rfl
 obtain ⟨hx1, hx2⟩ := h'.two rfl
 dsimp only at hy1 hy2 hx1 hx2
 obtain ⟨ra, rn, rcap, rfl, -⟩ := hy1.shape
 obtain ⟨ea, en, ecap, rfl, -⟩ := hy2.shape
 obtain ⟨ra2, rn2, rcap2, rfl, -⟩ := hx1.shape
 obtain ⟨ea2, en2, ecap2, rfl, -⟩ := hx2.shape
 obtain ⟨r1, hlet_r1⟩ : ∃ r, r = isTerm (rs, es) := ⟨_, rfl⟩
 have H1 := Lib.hid hlet_r1
 clear hlet_r1
 obtain ⟨r2, hlet_r2⟩ : ∃ r, r = isTerm (rs2, es2) := ⟨_, rfl⟩
 have H2 := Lib.hid hlet_r2
 clear hlet_r2
 obtain ⟨d1, hlet_d1⟩ : ∃ r, r = divD (rs, es) (rs2, es2) (typesX 1 n) (typesX 1 n).length := ⟨_, rfl⟩
 have HD1 := Lib.hid hlet_d1
 clear hlet_d1
 obtain ⟨d2, hlet_d2⟩ : ∃ r, r = divD (rs, es) (rs2, es2) (typesX 2 n) (typesX 2 n).length := ⟨_, rfl⟩
 have HD2 := Lib.hid hlet_d2
 clear hlet_d2
 have HR := Lib.hid (show R = ((r1 && (r2 && decide (1 ≤ n ∧ n ≤ 3))) && (d1 && d2)) by rw [hR, sameDiv, sameV, H1.out, H2.out, HD1.out, HD2.out])
 clear h h' hy1 hy2 hx1 hx2 hR
 go_enter Tryz.func17, Tryz.ntmps17
 go_wp2_with fail
 refine (isTermI_b _ _ _ rs es (HY.out.below bwT) r1 H1.out).mono ?_
 rintro e1 w1 ⟨rfl, hbw1⟩
 have hpw1 : Below w.heap.size w w1 := Below.after bwT hbw1 szT
 have sw1 := hpw1.size
 have hBw1 : Below w.heap.size w w1 := hpw1
 have l_y : w.heap.size < w1.heap.size := by have := hbw1.size; simp at this; omega
 have q_y0 : w1.cell? ⟨w.heap.size, 0, none⟩ = some (.slice ra rn rcap) := oldc hbw1 ltT (by simp [go_sem])
 have q_y1 : w1.cell? ⟨w.heap.size, 1, none⟩ = some (.slice ea en ecap) := oldc hbw1 ltT (by simp [go_sem])
 have l_x : w.heap.size + 1 < w1.heap.size := by have := hbw1.size; simp at this; omega
 have q_x0 : w1.cell? ⟨w.heap.size + 1, 0, none⟩ = some (.slice ra2 rn2 rcap2) := oldc hbw1 ltT (by simp [go_sem])
 have q_x1 : w1.cell? ⟨w.heap.size + 1, 1, none⟩ = some (.slice ea2 en2 ecap2) := oldc hbw1 ltT (by simp [go_sem])
 clear hbw1 hpw1
 cases r1
 ·obtain rfl : R = false := by rw [HR.out]; rfl
  clear HR H1 H2 HY HX
  go_wp2
  go_ret
  exact ⟨rfl, hBw1⟩
 go_wp2_with fail
 refine (isTermI_b _ _ _ rs2 es2 (HX.out.below bwT) r2 H2.out).mono ?_
 rintro e2 w2 ⟨rfl, hbw2⟩
 have hpw2 : Below w1.heap.size w1 w2 := Below.after bwT hbw2 szT
 have sw2 := hpw2.size
 have hBw2 : Below w.heap.size w w2 := Below.trans hBw1 (Below.mono hpw2 hBw1.size)
 have q_y0 := oldc hpw2 l_y q_y0
 have q_y1 := oldc hpw2 l_y q_y1
 have q_x0 := oldc hpw2 l_x q_x0
 have q_x1 := oldc hpw2 l_x q_x1
 have l_x := Nat.lt_of_lt_of_le l_x sw2
 have l_y := Nat.lt_of_lt_of_le l_y sw2
 clear hbw2 hpw2
 cases r2
 ·obtain rfl : R = false := by rw [HR.out]; rfl
  clear HR H1 H2 HY HX
  go_wp2
  go_ret
  exact ⟨rfl, hBw2⟩
 by_cases hn1 : n < 1
 ·obtain rfl : R = false := by rw [HR.out, decide_eq_false (by omega)]; rfl
  clear HR H1 H2 HY HX
  go_wp2
  go_ret
  exact ⟨rfl, hBw2⟩
 by_cases hn3 : 3 < n
 ·obtain rfl : R = false := by rw [HR.out, decide_eq_false (by omega)]; rfl
  clear HR H1 H2 HY HX
  go_wp2
  go_ret
  exact ⟨rfl, hBw2⟩
 have HRD := Lib.hid (show R = (d1 && d2) by rw [HR.out, decide_eq_true (by omega)]; rfl)
 clear HR
 obtain ⟨W0, hW0⟩ : ∃ W0 : World, W0 = w2 := ⟨_, rfl⟩
 subst hW0
 have hB0 : Below w.heap.size w W0 := hBw2
 have s0 := hB0.size
 have ya0 := q_y0
 have ya1 := q_y1
 have xa0 := q_x0
 have xa1 := q_x1
 have lya : w.heap.size < W0.heap.size := l_y
 have lxa : w.heap.size + 1 < W0.heap.size := l_x
 clear q_y0 q_y1 q_x0 q_x1 l_y l_x
 go_wp2
 go_loopw [7, 8, 9, 10, 11, 12, 44, 48] (fun s7 _ _ _ _ _ _ _ wr => ∃ k : Nat, k ≤ 2 ∧ s7 = .int .i64 (1 + (k : Int)) ∧ Hid ((1 ≤ k → d1 = true) ∧ (2 ≤ k → d2 = true)) ∧ Below W0.heap.size W0 wr) (fun s7 _ _ _ _ _ _ _ _ => 3 - (intOf s7).toNat)
 case atStart => exact ⟨0, by omega, rfl, Lib.hid ⟨fun h => by omega, fun h => by omega⟩, Below.refl _ _⟩
 case round =>
  obtain ⟨wb, hwb⟩ : ∃ wm : World, wm = wr := ⟨_, rfl⟩
  subst hwb
  obtain ⟨k, hk, rfl, HK, hbb⟩ := hrel
  have sB := hbb.size
  have hBb : Below w.heap.size w wb := hB0.trans (hbb.mono s0)
  by_cases hk2 : k < 2
  ·have hc : 1 + (k : Int) ≤ 2 := by omega
   go_wp2_with fail
   refine (typesFromI_any _ (1 + (k : Int)) n).mono ?_
   rintro e wT ⟨ut, rfl, ho, hbT⟩
   obtain ⟨T, hT⟩ : ∃ T, T = typesX (1 + (k : Int)) n := ⟨_, rfl⟩
   rw [← hT] at ho
   have hrd := Lib.hid ho.rd
   obtain ⟨tao, tn, tcap, rfl, htn, -, htm, -⟩ := ho.rd.shape
   subst htn
   have HTK := Lib.hid (show ∀ t ∈ T, isKin t = true from fun t ht => by rw [hT] at ht; exact (typesX_kin ht).1)
   have hTL : T.length ≤ 600 := by rw [hT]; exact typesX_len _ n
   obtain ⟨D, hlet_D⟩ : ∃ r, r = divD (rs, es) (rs2, es2) T T.length := ⟨_, rfl⟩
   have HD := Lib.hid hlet_D
   clear hlet_D
   have HDD := Lib.hid (show (k = 0 → D = d1) ∧ (k = 1 → D = d2) from ⟨fun e => by subst e; rw [HD.out, HD1.out, hT]; rfl, fun e => by subst e; rw [HD.out, HD2.out, hT]; rfl⟩)
   have hbT0 : Below W0.heap.size W0 wT := hbb.trans (hbT.mono sB)
   have sT := hbT0.size
   have hBT : Below w.heap.size w wT := hB0.trans (hbT0.mono s0)
   have q_y0 := oldc hbT0 lya ya0
   have q_y1 := oldc hbT0 lya ya1
   have q_x0 := oldc hbT0 lxa xa0
   have q_x1 := oldc hbT0 lxa xa1
   have ly : w.heap.size < wT.heap.size := by omega
   have lx : w.heap.size + 1 < wT.heap.size := by omega
   clear ho hT hbT
   go_upto_region 7 with fail
   go_cut [9, 10] (fun s9 s10 wx => ∃ (G1 G2 : Nat) (u1 v1 u2 v2 : Value), s9 = .pointer (some ⟨G1, 0, none⟩) ∧ s10 = .pointer (some ⟨G2, 0, none⟩) ∧ wx.cell? ⟨G1, 0, none⟩ = some (.slice tao T.length tcap) ∧ wx.cell? ⟨G1, 1, none⟩ = some u1 ∧ wx.cell? ⟨G1, 2, none⟩ = some v1 ∧ wx.cell? ⟨G2, 0, none⟩ = some (.slice tao T.length tcap) ∧ wx.cell? ⟨G2, 1, none⟩ = some u2 ∧ wx.cell? ⟨G2, 2, none⟩ = some v2 ∧ G1 < wx.heap.size ∧ G2 < wx.heap.size ∧ Hid (Rd true 0 wx.heap.size wx [u1] (tmL (rs, es) T)) ∧ Hid (Rd true 0 wx.heap.size wx [v1] (tmB (rs, es) T)) ∧ Hid (Rd true 0 wx.heap.size wx [u2] (tmL (rs2, es2) T)) ∧ Hid (Rd true 0 wx.heap.size wx [v2] (tmB (rs2, es2) T)) ∧ Below wT.heap.size wT wx)
   case first =>
    refine wp_region_held_drew (S := (fun w' => w'.cell? ⟨w.heap.size, 0, none⟩ = some (.slice ra rn rcap) ∧ w'.cell? ⟨w.heap.size, 1, none⟩ = some (.slice ea en ecap) ∧ w'.cell? ⟨w.heap.size + 1, 0, none⟩ = some (.slice ra2 rn2 rcap2) ∧ w'.cell? ⟨w.heap.size + 1, 1, none⟩ = some (.slice ea2 en2 ecap2))) (by kernel_rfl) ?_ (fun hHeld => ?_)
    ·first | exact trivial | ((try dsimp only); go_keep)
    refine tkA 0 ?_
    try simp only [Act.put, cA, cB, cC]
    refine tkA 1 ?_
    try simp only [Act.put, cA, cB, cC]
    refine tkA 3 ?_
    try simp only [Act.put, cA, cB, cC]
    refine tkA 4 ?_
    try simp only [Act.put, cA, cB, cC]
    refine wpAnyH_ready (rs := [2, 6, 7]) (by kernel_rfl) (by simp) ?_
    refine rdR (fun K hK => ?_) ?_
    ·go_simp
     refine (listTermsI_any _ _ _ _ rs es T (HY.out.below ?b1) (hrd.out.below ?b2) H1.out HTK.out hTL).mono ?_
     case b1 => exact bwT
     case b2 => exact bwT
     rintro e2 w2 ⟨u1, v1, rfl, hu1, hv1, hb2⟩
     have hp2 : Below wT.heap.size wT w2 := Below.trans (show Below wT.heap.size wT _ from bwT) (hb2.mono szT)
     have sz2 := hp2.size
     have hS2 := And.intro (oldc hp2 ly q_y0) (And.intro (oldc hp2 ly q_y1) (And.intro (oldc hp2 lx q_x0) (oldc hp2 lx q_x1)))
     have hBw2 : Below w.heap.size w w2 := hBT.trans (hp2.mono hBT.size)
     have : w.heap.size < w2.heap.size := by omega
     have : ¬ w.heap.size = w2.heap.size := by omega
     have : ¬ w2.heap.size = w.heap.size := by omega
     have : ¬ w.heap.size = w2.heap.size + 1 := by omega
     have : ¬ w2.heap.size + 1 = w.heap.size := by omega
     have : w.heap.size + 1 < w2.heap.size := by omega
     have : ¬ w.heap.size + 1 = w2.heap.size := by omega
     have : ¬ w2.heap.size = w.heap.size + 1 := by omega
     have : ¬ w.heap.size + 1 = w2.heap.size + 1 := by omega
     have : ¬ w2.heap.size + 1 = w.heap.size + 1 := by omega
     obtain ⟨ao1, n1, cp1, rfl, -⟩ := hu1.shape
     obtain ⟨bo1, m1, dp1, rfl, -⟩ := hv1.shape
     have HU1 := Lib.hid hu1
     have HV1 := Lib.hid hv1
     clear hb2 hu1 hv1
     refine hK.out _ _ ?_ (fun hHeld => ?_)
     ·exact kpT
     clear hK K
     try simp only [Act.put, cA, cB, cC]
     refine wpAnyH_ready (rs := [5, 6, 7]) (by kernel_rfl) (by simp) ?_
     refine rdR (fun K hK => ?_) ?_
     ·go_simp
      refine (listTermsI_any _ _ _ _ rs2 es2 T (HX.out.below ?b1) (hrd.out.below ?b2) H2.out HTK.out hTL).mono ?_
      case b1 => exact bwT
      case b2 => exact bwT
      rintro e3 w3 ⟨u2, v2, rfl, hu2, hv2, hb3⟩
      have hp3 : Below wT.heap.size wT w3 := Below.trans (show Below wT.heap.size wT _ from bwT) (hb3.mono szT)
      have hp23 : Below w2.heap.size w2 w3 := Below.trans (show Below w2.heap.size w2 _ from bwT) (hb3.mono szT)
      have sz3 := hp3.size
      have sz23 := hp23.size
      have hS3 := And.intro (oldc hp3 ly q_y0) (And.intro (oldc hp3 ly q_y1) (And.intro (oldc hp3 lx q_x0) (oldc hp3 lx q_x1)))
      have hBw3 : Below w.heap.size w w3 := hBT.trans (hp3.mono hBT.size)
      have : w.heap.size < w3.heap.size := by omega
      have : ¬ w.heap.size = w3.heap.size := by omega
      have : ¬ w3.heap.size = w.heap.size := by omega
      have : ¬ w.heap.size = w3.heap.size + 1 := by omega
      have : ¬ w3.heap.size + 1 = w.heap.size := by omega
      have : w.heap.size + 1 < w3.heap.size := by omega
      have : ¬ w.heap.size + 1 = w3.heap.size := by omega
      have : ¬ w3.heap.size = w.heap.size + 1 := by omega
      have : ¬ w.heap.size + 1 = w3.heap.size + 1 := by omega
      have : ¬ w3.heap.size + 1 = w.heap.size + 1 := by omega
      obtain ⟨ao2, n2, cp2, rfl, -⟩ := hu2.shape
      obtain ⟨bo2, m2, dp2, rfl, -⟩ := hv2.shape
      have HU2 := Lib.hid hu2
      have HV2 := Lib.hid hv2
      replace HU1 := Lib.hid (HU1.out.below hp23)
      replace HV1 := Lib.hid (HV1.out.below hp23)
      clear hb3 hu2 hv2
      refine hK.out _ _ ?_ (fun hHeld => ?_)
      ·exact kpT
      clear hK K
      try simp only [Act.put, cA, cB, cC]
      refine wpAnyH_ready (rs := [6, 7]) (by kernel_rfl) (by simp) ?_
      refine rdR (fun K hK => ?_) ?_
      ·go_simp
       refine hK.out _ _ ?_ (fun hHeld => ?_)
       ·exact kpT
       clear hK K
       try simp only [Act.put, cA, cB, cC]
       refine wpAnyH_ready (rs := [7]) (by kernel_rfl) (by simp) ?_
       refine rdR (fun K hK => ?_) ?_
       ·go_simp
        refine hK.out _ _ ?_ (fun hHeld => ?_)
        ·exact kpT
        clear hK K
        try simp only [Act.put, cA, cB, cC]
        refine wpAnyH_ready (rs := [8]) (by kernel_rfl) (by simp) ?_
        refine rdR (fun K hK => ?_) ?_
        ·go_simp
         refine hK.out _ _ ?_ (fun hHeld => ?_)
         ·exact kpT
         clear hK K
         try simp only [Act.put, cA, cB, cC]
         refine wpAnyH_ready (rs := [9]) (by kernel_rfl) (by simp) ?_
         refine rdR (fun K hK => ?_) ?_
         ·go_simp
          refine hK.out _ _ ?_ (fun hHeld => ?_)
          ·exact kpT
          clear hK K
          try simp only [Act.put, cA, cB, cC]
          refine wpAnyH_done (by kernel_rfl) ?_ _
          go_wp2_with fail
          go_meet
          exact ⟨_, _, _, _, _, _, rfl, rfl, by simp [go_sem, *], by simp [go_sem, *], by simp [go_sem, *], by simp [go_sem, *], by simp [go_sem, *], by simp [go_sem, *], ltT, ltT, Lib.hid (HU1.out.keep zgT).all, Lib.hid (HV1.out.keep zgT).all, Lib.hid (HU2.out.keep zgT).all, Lib.hid (HV2.out.keep zgT).all, bwT⟩
         exact AllReadyH.nil
        exact AllReadyH.nil
       exact AllReadyH.nil
      refine rdR (fun K hK => ?_) ?_
      ·go_simp
       refine hK.out _ _ ?_ (fun hHeld => ?_)
       ·exact kpT
       clear hK K
       try simp only [Act.put, cA, cB, cC]
       refine wpAnyH_ready (rs := [6]) (by kernel_rfl) (by simp) ?_
       refine rdR (fun K hK => ?_) ?_
       ·go_simp
        refine hK.out _ _ ?_ (fun hHeld => ?_)
        ·exact kpT
        clear hK K
        try simp only [Act.put, cA, cB, cC]
        refine wpAnyH_ready (rs := [8]) (by kernel_rfl) (by simp) ?_
        refine rdR (fun K hK => ?_) ?_
        ·go_simp
         refine hK.out _ _ ?_ (fun hHeld => ?_)
         ·exact kpT
         clear hK K
         try simp only [Act.put, cA, cB, cC]
         refine wpAnyH_ready (rs := [9]) (by kernel_rfl) (by simp) ?_
         refine rdR (fun K hK => ?_) ?_
         ·go_simp
          refine hK.out _ _ ?_ (fun hHeld => ?_)
          ·exact kpT
          clear hK K
          try simp only [Act.put, cA, cB, cC]
          refine wpAnyH_done (by kernel_rfl) ?_ _
          go_wp2_with fail
          go_meet
          exact ⟨_, _, _, _, _, _, rfl, rfl, by simp [go_sem, *], by simp [go_sem, *], by simp [go_sem, *], by simp [go_sem, *], by simp [go_sem, *], by simp [go_sem, *], ltT, ltT, Lib.hid (HU1.out.keep zgT).all, Lib.hid (HV1.out.keep zgT).all, Lib.hid (HU2.out.keep zgT).all, Lib.hid (HV2.out.keep zgT).all, bwT⟩
         exact AllReadyH.nil
        exact AllReadyH.nil
       exact AllReadyH.nil
      exact AllReadyH.nil
     refine rdR (fun K hK => ?_) ?_
     ·go_simp
      refine hK.out _ _ ?_ (fun hHeld => ?_)
      ·exact kpT
      clear hK K
      try simp only [Act.put, cA, cB, cC]
      refine wpAnyH_ready (rs := [5, 7]) (by kernel_rfl) (by simp) ?_
      refine rdR (fun K hK => ?_) ?_
      ·go_simp
       refine (listTermsI_any _ _ _ _ rs2 es2 T (HX.out.below ?b1) (hrd.out.below ?b2) H2.out HTK.out hTL).mono ?_
       case b1 => exact bwT
       case b2 => exact bwT
       rintro e3 w3 ⟨u2, v2, rfl, hu2, hv2, hb3⟩
       have hp3 : Below wT.heap.size wT w3 := Below.trans (show Below wT.heap.size wT _ from bwT) (hb3.mono szT)
       have hp23 : Below w2.heap.size w2 w3 := Below.trans (show Below w2.heap.size w2 _ from bwT) (hb3.mono szT)
       have sz3 := hp3.size
       have sz23 := hp23.size
       have hS3 := And.intro (oldc hp3 ly q_y0) (And.intro (oldc hp3 ly q_y1) (And.intro (oldc hp3 lx q_x0) (oldc hp3 lx q_x1)))
       have hBw3 : Below w.heap.size w w3 := hBT.trans (hp3.mono hBT.size)
       have : w.heap.size < w3.heap.size := by omega
       have : ¬ w.heap.size = w3.heap.size := by omega
       have : ¬ w3.heap.size = w.heap.size := by omega
       have : ¬ w.heap.size = w3.heap.size + 1 := by omega
       have : ¬ w3.heap.size + 1 = w.heap.size := by omega
       have : w.heap.size + 1 < w3.heap.size := by omega
       have : ¬ w.heap.size + 1 = w3.heap.size := by omega
       have : ¬ w3.heap.size = w.heap.size + 1 := by omega
       have : ¬ w.heap.size + 1 = w3.heap.size + 1 := by omega
       have : ¬ w3.heap.size + 1 = w.heap.size + 1 := by omega
       have zcl : w2.heap.size < w3.heap.size := by have := hb3.size; (try simp at this); omega
       have zc0 : w3.cell? ⟨w2.heap.size, 0, none⟩ = some (.slice none 0 0) := oldc hb3 ltT (by simp [go_sem])
       have zc1 : w3.cell? ⟨w2.heap.size, 1, none⟩ = some (.slice none 0 0) := oldc hb3 ltT (by simp [go_sem])
       have zc2 : w3.cell? ⟨w2.heap.size, 2, none⟩ = some (.slice none 0 0) := oldc hb3 ltT (by simp [go_sem])
       have zcf : ∀ o, w3.frozen? ⟨w2.heap.size, o, none⟩ = false := fun o => (hb3.frozen (p := ⟨w2.heap.size, o, none⟩) ltT).trans (by simp [go_sem])
       obtain ⟨ao2, n2, cp2, rfl, -⟩ := hu2.shape
       obtain ⟨bo2, m2, dp2, rfl, -⟩ := hv2.shape
       have HU2 := Lib.hid hu2
       have HV2 := Lib.hid hv2
       replace HU1 := Lib.hid (HU1.out.below hp23)
       replace HV1 := Lib.hid (HV1.out.below hp23)
       have nb51 : ¬ w2.heap.size = w3.heap.size := by omega
       have nb52 : ¬ w3.heap.size = w2.heap.size := by omega
       have nb59 : ¬ w2.heap.size = w3.heap.size + 1 := by omega
       have nb60 : ¬ w3.heap.size + 1 = w2.heap.size := by omega
       clear hb3 hu2 hv2
       refine hK.out _ _ ?_ (fun hHeld => ?_)
       ·exact kpT
       clear hK K
       try simp only [Act.put, cA, cB, cC]
       refine wpAnyH_ready (rs := [7]) (by kernel_rfl) (by simp) ?_
       refine rdR (fun K hK => ?_) ?_
       ·go_simp
        refine hK.out _ _ ?_ (fun hHeld => ?_)
        ·exact kpT
        clear hK K
        try simp only [Act.put, cA, cB, cC]
        refine wpAnyH_ready (rs := [8]) (by kernel_rfl) (by simp) ?_
        refine rdR (fun K hK => ?_) ?_
        ·go_simp
         refine hK.out _ _ ?_ (fun hHeld => ?_)
         ·exact kpT
         clear hK K
         try simp only [Act.put, cA, cB, cC]
         refine wpAnyH_ready (rs := [9]) (by kernel_rfl) (by simp) ?_
         refine rdR (fun K hK => ?_) ?_
         ·go_simp
          refine hK.out _ _ ?_ (fun hHeld => ?_)
          ·exact kpT
          clear hK K
          try simp only [Act.put, cA, cB, cC]
          refine wpAnyH_done (by kernel_rfl) ?_ _
          go_wp2_with fail
          go_meet
          exact ⟨_, _, _, _, _, _, rfl, rfl, by simp [go_sem, *], by simp [go_sem, *], by simp [go_sem, *], by simp [go_sem, *], by simp [go_sem, *], by simp [go_sem, *], ltT, ltT, Lib.hid (HU1.out.keep zgT).all, Lib.hid (HV1.out.keep zgT).all, Lib.hid (HU2.out.keep zgT).all, Lib.hid (HV2.out.keep zgT).all, bwT⟩
         exact AllReadyH.nil
        exact AllReadyH.nil
       exact AllReadyH.nil
      refine rdR (fun K hK => ?_) ?_
      ·go_simp
       refine hK.out _ _ ?_ (fun hHeld => ?_)
       ·exact kpT
       clear hK K
       try simp only [Act.put, cA, cB, cC]
       refine wpAnyH_ready (rs := [5]) (by kernel_rfl) (by simp) ?_
       refine rdR (fun K hK => ?_) ?_
       ·go_simp
        refine (listTermsI_any _ _ _ _ rs2 es2 T (HX.out.below ?b1) (hrd.out.below ?b2) H2.out HTK.out hTL).mono ?_
        case b1 => exact bwT
        case b2 => exact bwT
        rintro e3 w3 ⟨u2, v2, rfl, hu2, hv2, hb3⟩
        have hp3 : Below wT.heap.size wT w3 := Below.trans (show Below wT.heap.size wT _ from bwT) (hb3.mono szT)
        have hp23 : Below w2.heap.size w2 w3 := Below.trans (show Below w2.heap.size w2 _ from bwT) (hb3.mono szT)
        have sz3 := hp3.size
        have sz23 := hp23.size
        have hS3 := And.intro (oldc hp3 ly q_y0) (And.intro (oldc hp3 ly q_y1) (And.intro (oldc hp3 lx q_x0) (oldc hp3 lx q_x1)))
        have hBw3 : Below w.heap.size w w3 := hBT.trans (hp3.mono hBT.size)
        have : w.heap.size < w3.heap.size := by omega
        have : ¬ w.heap.size = w3.heap.size := by omega
        have : ¬ w3.heap.size = w.heap.size := by omega
        have : ¬ w.heap.size = w3.heap.size + 1 := by omega
        have : ¬ w3.heap.size + 1 = w.heap.size := by omega
        have : w.heap.size + 1 < w3.heap.size := by omega
        have : ¬ w.heap.size + 1 = w3.heap.size := by omega
        have : ¬ w3.heap.size = w.heap.size + 1 := by omega
        have : ¬ w.heap.size + 1 = w3.heap.size + 1 := by omega
        have : ¬ w3.heap.size + 1 = w.heap.size + 1 := by omega
        have zcl : w2.heap.size < w3.heap.size := by have := hb3.size; (try simp at this); omega
        have zc0 : w3.cell? ⟨w2.heap.size, 0, none⟩ = some (.slice none 0 0) := oldc hb3 ltT (by simp [go_sem])
        have zc1 : w3.cell? ⟨w2.heap.size, 1, none⟩ = some (.slice none 0 0) := oldc hb3 ltT (by simp [go_sem])
        have zc2 : w3.cell? ⟨w2.heap.size, 2, none⟩ = some (.slice none 0 0) := oldc hb3 ltT (by simp [go_sem])
        have zcf : ∀ o, w3.frozen? ⟨w2.heap.size, o, none⟩ = false := fun o => (hb3.frozen (p := ⟨w2.heap.size, o, none⟩) ltT).trans (by simp [go_sem])
        have zdl : w2.heap.size + 1 < w3.heap.size := by have := hb3.size; (try simp at this); omega
        have zd0 : w3.cell? ⟨w2.heap.size + 1, 0, none⟩ = some (.slice none 0 0) := oldc hb3 ltT (by simp [go_sem])
        have zd1 : w3.cell? ⟨w2.heap.size + 1, 1, none⟩ = some (.slice none 0 0) := oldc hb3 ltT (by simp [go_sem])
        have zd2 : w3.cell? ⟨w2.heap.size + 1, 2, none⟩ = some (.slice none 0 0) := oldc hb3 ltT (by simp [go_sem])
        have zdf : ∀ o, w3.frozen? ⟨w2.heap.size + 1, o, none⟩ = false := fun o => (hb3.frozen (p := ⟨w2.heap.size + 1, o, none⟩) ltT).trans (by simp [go_sem])
        obtain ⟨ao2, n2, cp2, rfl, -⟩ := hu2.shape
        obtain ⟨bo2, m2, dp2, rfl, -⟩ := hv2.shape
        have HU2 := Lib.hid hu2
        have HV2 := Lib.hid hv2
        replace HU1 := Lib.hid (HU1.out.below hp23)
        replace HV1 := Lib.hid (HV1.out.below hp23)
        have nb51 : ¬ w2.heap.size = w3.heap.size := by omega
        have nb52 : ¬ w3.heap.size = w2.heap.size := by omega
        have nb53 : ¬ w2.heap.size + 1 = w3.heap.size := by omega
        have nb54 : ¬ w3.heap.size = w2.heap.size + 1 := by omega
        have nb59 : ¬ w2.heap.size = w3.heap.size + 1 := by omega
        have nb60 : ¬ w3.heap.size + 1 = w2.heap.size := by omega
        have nb61 : ¬ w2.heap.size + 1 = w3.heap.size + 1 := by omega
        have nb62 : ¬ w3.heap.size + 1 = w2.heap.size + 1 := by omega
        clear hb3 hu2 hv2
        refine hK.out _ _ ?_ (fun hHeld => ?_)
        ·exact kpT
        clear hK K
        try simp only [Act.put, cA, cB, cC]
        refine wpAnyH_ready (rs := [8]) (by kernel_rfl) (by simp) ?_
        refine rdR (fun K hK => ?_) ?_
        ·go_simp
         refine hK.out _ _ ?_ (fun hHeld => ?_)
         ·exact kpT
         clear hK K
         try simp only [Act.put, cA, cB, cC]
         refine wpAnyH_ready (rs := [9]) (by kernel_rfl) (by simp) ?_
         refine rdR (fun K hK => ?_) ?_
         ·go_simp
          refine hK.out _ _ ?_ (fun hHeld => ?_)
          ·exact kpT
          clear hK K
          try simp only [Act.put, cA, cB, cC]
          refine wpAnyH_done (by kernel_rfl) ?_ _
          go_wp2_with fail
          go_meet
          exact ⟨_, _, _, _, _, _, rfl, rfl, by simp [go_sem, *], by simp [go_sem, *], by simp [go_sem, *], by simp [go_sem, *], by simp [go_sem, *], by simp [go_sem, *], ltT, ltT, Lib.hid (HU1.out.keep zgT).all, Lib.hid (HV1.out.keep zgT).all, Lib.hid (HU2.out.keep zgT).all, Lib.hid (HV2.out.keep zgT).all, bwT⟩
         exact AllReadyH.nil
        exact AllReadyH.nil
       exact AllReadyH.nil
      exact AllReadyH.nil
     refine rdR (fun K hK => ?_) ?_
     ·go_simp
      refine hK.out _ _ ?_ (fun hHeld => ?_)
      ·exact kpT
      clear hK K
      try simp only [Act.put, cA, cB, cC]
      refine wpAnyH_ready (rs := [5, 6]) (by kernel_rfl) (by simp) ?_
      refine rdR (fun K hK => ?_) ?_
      ·go_simp
       refine (listTermsI_any _ _ _ _ rs2 es2 T (HX.out.below ?b1) (hrd.out.below ?b2) H2.out HTK.out hTL).mono ?_
       case b1 => exact bwT
       case b2 => exact bwT
       rintro e3 w3 ⟨u2, v2, rfl, hu2, hv2, hb3⟩
       have hp3 : Below wT.heap.size wT w3 := Below.trans (show Below wT.heap.size wT _ from bwT) (hb3.mono szT)
       have hp23 : Below w2.heap.size w2 w3 := Below.trans (show Below w2.heap.size w2 _ from bwT) (hb3.mono szT)
       have sz3 := hp3.size
       have sz23 := hp23.size
       have hS3 := And.intro (oldc hp3 ly q_y0) (And.intro (oldc hp3 ly q_y1) (And.intro (oldc hp3 lx q_x0) (oldc hp3 lx q_x1)))
       have hBw3 : Below w.heap.size w w3 := hBT.trans (hp3.mono hBT.size)
       have : w.heap.size < w3.heap.size := by omega
       have : ¬ w.heap.size = w3.heap.size := by omega
       have : ¬ w3.heap.size = w.heap.size := by omega
       have : ¬ w.heap.size = w3.heap.size + 1 := by omega
       have : ¬ w3.heap.size + 1 = w.heap.size := by omega
       have : w.heap.size + 1 < w3.heap.size := by omega
       have : ¬ w.heap.size + 1 = w3.heap.size := by omega
       have : ¬ w3.heap.size = w.heap.size + 1 := by omega
       have : ¬ w.heap.size + 1 = w3.heap.size + 1 := by omega
       have : ¬ w3.heap.size + 1 = w.heap.size + 1 := by omega
       have zcl : w2.heap.size < w3.heap.size := by have := hb3.size; (try simp at this); omega
       have zc0 : w3.cell? ⟨w2.heap.size, 0, none⟩ = some (.slice none 0 0) := oldc hb3 ltT (by simp [go_sem])
       have zc1 : w3.cell? ⟨w2.heap.size, 1, none⟩ = some (.slice none 0 0) := oldc hb3 ltT (by simp [go_sem])
       have zc2 : w3.cell? ⟨w2.heap.size, 2, none⟩ = some (.slice none 0 0) := oldc hb3 ltT (by simp [go_sem])
       have zcf : ∀ o, w3.frozen? ⟨w2.heap.size, o, none⟩ = false := fun o => (hb3.frozen (p := ⟨w2.heap.size, o, none⟩) ltT).trans (by simp [go_sem])
       obtain ⟨ao2, n2, cp2, rfl, -⟩ := hu2.shape
       obtain ⟨bo2, m2, dp2, rfl, -⟩ := hv2.shape
       have HU2 := Lib.hid hu2
       have HV2 := Lib.hid hv2
       replace HU1 := Lib.hid (HU1.out.below hp23)
       replace HV1 := Lib.hid (HV1.out.below hp23)
       have nb51 : ¬ w2.heap.size = w3.heap.size := by omega
       have nb52 : ¬ w3.heap.size = w2.heap.size := by omega
       have nb59 : ¬ w2.heap.size = w3.heap.size + 1 := by omega
       have nb60 : ¬ w3.heap.size + 1 = w2.heap.size := by omega
       clear hb3 hu2 hv2
       refine hK.out _ _ ?_ (fun hHeld => ?_)
       ·exact kpT
       clear hK K
       try simp only [Act.put, cA, cB, cC]
       refine wpAnyH_ready (rs := [6]) (by kernel_rfl) (by simp) ?_
       refine rdR (fun K hK => ?_) ?_
       ·go_simp
        refine hK.out _ _ ?_ (fun hHeld => ?_)
        ·exact kpT
        clear hK K
        try simp only [Act.put, cA, cB, cC]
        refine wpAnyH_ready (rs := [8]) (by kernel_rfl) (by simp) ?_
        refine rdR (fun K hK => ?_) ?_
        ·go_simp
         refine hK.out _ _ ?_ (fun hHeld => ?_)
         ·exact kpT
         clear hK K
         try simp only [Act.put, cA, cB, cC]
         refine wpAnyH_ready (rs := [9]) (by kernel_rfl) (by simp) ?_
         refine rdR (fun K hK => ?_) ?_
         ·go_simp
          refine hK.out _ _ ?_ (fun hHeld => ?_)
          ·exact kpT
          clear hK K
          try simp only [Act.put, cA, cB, cC]
          refine wpAnyH_done (by kernel_rfl) ?_ _
          go_wp2_with fail
          go_meet
          exact ⟨_, _, _, _, _, _, rfl, rfl, by simp [go_sem, *], by simp [go_sem, *], by simp [go_sem, *], by simp [go_sem, *], by simp [go_sem, *], by simp [go_sem, *], ltT, ltT, Lib.hid (HU1.out.keep zgT).all, Lib.hid (HV1.out.keep zgT).all, Lib.hid (HU2.out.keep zgT).all, Lib.hid (HV2.out.keep zgT).all, bwT⟩
         exact AllReadyH.nil
        exact AllReadyH.nil
       exact AllReadyH.nil
      refine rdR (fun K hK => ?_) ?_
      ·go_simp
       refine hK.out _ _ ?_ (fun hHeld => ?_)
       ·exact kpT
       clear hK K
       try simp only [Act.put, cA, cB, cC]
       refine wpAnyH_ready (rs := [5]) (by kernel_rfl) (by simp) ?_
       refine rdR (fun K hK => ?_) ?_
       ·go_simp
        refine (listTermsI_any _ _ _ _ rs2 es2 T (HX.out.below ?b1) (hrd.out.below ?b2) H2.out HTK.out hTL).mono ?_
        case b1 => exact bwT
        case b2 => exact bwT
        rintro e3 w3 ⟨u2, v2, rfl, hu2, hv2, hb3⟩
        have hp3 : Below wT.heap.size wT w3 := Below.trans (show Below wT.heap.size wT _ from bwT) (hb3.mono szT)
        have hp23 : Below w2.heap.size w2 w3 := Below.trans (show Below w2.heap.size w2 _ from bwT) (hb3.mono szT)
        have sz3 := hp3.size
        have sz23 := hp23.size
        have hS3 := And.intro (oldc hp3 ly q_y0) (And.intro (oldc hp3 ly q_y1) (And.intro (oldc hp3 lx q_x0) (oldc hp3 lx q_x1)))
        have hBw3 : Below w.heap.size w w3 := hBT.trans (hp3.mono hBT.size)
        have : w.heap.size < w3.heap.size := by omega
        have : ¬ w.heap.size = w3.heap.size := by omega
        have : ¬ w3.heap.size = w.heap.size := by omega
        have : ¬ w.heap.size = w3.heap.size + 1 := by omega
        have : ¬ w3.heap.size + 1 = w.heap.size := by omega
        have : w.heap.size + 1 < w3.heap.size := by omega
        have : ¬ w.heap.size + 1 = w3.heap.size := by omega
        have : ¬ w3.heap.size = w.heap.size + 1 := by omega
        have : ¬ w.heap.size + 1 = w3.heap.size + 1 := by omega
        have : ¬ w3.heap.size + 1 = w.heap.size + 1 := by omega
        have zcl : w2.heap.size < w3.heap.size := by have := hb3.size; (try simp at this); omega
        have zc0 : w3.cell? ⟨w2.heap.size, 0, none⟩ = some (.slice none 0 0) := oldc hb3 ltT (by simp [go_sem])
        have zc1 : w3.cell? ⟨w2.heap.size, 1, none⟩ = some (.slice none 0 0) := oldc hb3 ltT (by simp [go_sem])
        have zc2 : w3.cell? ⟨w2.heap.size, 2, none⟩ = some (.slice none 0 0) := oldc hb3 ltT (by simp [go_sem])
        have zcf : ∀ o, w3.frozen? ⟨w2.heap.size, o, none⟩ = false := fun o => (hb3.frozen (p := ⟨w2.heap.size, o, none⟩) ltT).trans (by simp [go_sem])
        have zdl : w2.heap.size + 1 < w3.heap.size := by have := hb3.size; (try simp at this); omega
        have zd0 : w3.cell? ⟨w2.heap.size + 1, 0, none⟩ = some (.slice none 0 0) := oldc hb3 ltT (by simp [go_sem])
        have zd1 : w3.cell? ⟨w2.heap.size + 1, 1, none⟩ = some (.slice none 0 0) := oldc hb3 ltT (by simp [go_sem])
        have zd2 : w3.cell? ⟨w2.heap.size + 1, 2, none⟩ = some (.slice none 0 0) := oldc hb3 ltT (by simp [go_sem])
        have zdf : ∀ o, w3.frozen? ⟨w2.heap.size + 1, o, none⟩ = false := fun o => (hb3.frozen (p := ⟨w2.heap.size + 1, o, none⟩) ltT).trans (by simp [go_sem])
        obtain ⟨ao2, n2, cp2, rfl, -⟩ := hu2.shape
        obtain ⟨bo2, m2, dp2, rfl, -⟩ := hv2.shape
        have HU2 := Lib.hid hu2
        have HV2 := Lib.hid hv2
        replace HU1 := Lib.hid (HU1.out.below hp23)
        replace HV1 := Lib.hid (HV1.out.below hp23)
        have nb51 : ¬ w2.heap.size = w3.heap.size := by omega
        have nb52 : ¬ w3.heap.size = w2.heap.size := by omega
        have nb53 : ¬ w2.heap.size + 1 = w3.heap.size := by omega
        have nb54 : ¬ w3.heap.size = w2.heap.size + 1 := by omega
        have nb59 : ¬ w2.heap.size = w3.heap.size + 1 := by omega
        have nb60 : ¬ w3.heap.size + 1 = w2.heap.size := by omega
        have nb61 : ¬ w2.heap.size + 1 = w3.heap.size + 1 := by omega
        have nb62 : ¬ w3.heap.size + 1 = w2.heap.size + 1 := by omega
        clear hb3 hu2 hv2
        refine hK.out _ _ ?_ (fun hHeld => ?_)
        ·exact kpT
        clear hK K
        try simp only [Act.put, cA, cB, cC]
        refine wpAnyH_ready (rs := [8]) (by kernel_rfl) (by simp) ?_
        refine rdR (fun K hK => ?_) ?_
        ·go_simp
         refine hK.out _ _ ?_ (fun hHeld => ?_)
         ·exact kpT
         clear hK K
         try simp only [Act.put, cA, cB, cC]
         refine wpAnyH_ready (rs := [9]) (by kernel_rfl) (by simp) ?_
         refine rdR (fun K hK => ?_) ?_
         ·go_simp
          refine hK.out _ _ ?_ (fun hHeld => ?_)
          ·exact kpT
          clear hK K
          try simp only [Act.put, cA, cB, cC]
          refine wpAnyH_done (by kernel_rfl) ?_ _
          go_wp2_with fail
          go_meet
          exact ⟨_, _, _, _, _, _, rfl, rfl, by simp [go_sem, *], by simp [go_sem, *], by simp [go_sem, *], by simp [go_sem, *], by simp [go_sem, *], by simp [go_sem, *], ltT, ltT, Lib.hid (HU1.out.keep zgT).all, Lib.hid (HV1.out.keep zgT).all, Lib.hid (HU2.out.keep zgT).all, Lib.hid (HV2.out.keep zgT).all, bwT⟩
         exact AllReadyH.nil
        exact AllReadyH.nil
       exact AllReadyH.nil
      exact AllReadyH.nil
     exact AllReadyH.nil
    refine rdR (fun K hK => ?_) ?_
    ·go_simp
     refine hK.out _ _ ?_ (fun hHeld => ?_)
     ·exact kpT
     clear hK K
     try simp only [Act.put, cA, cB, cC]
     refine wpAnyH_ready (rs := [2, 7]) (by kernel_rfl) (by simp) ?_
     refine rdR (fun K hK => ?_) ?_
     ·go_simp
      refine (listTermsI_any _ _ _ _ rs es T (HY.out.below ?b1) (hrd.out.below ?b2) H1.out HTK.out hTL).mono ?_
      case b1 => exact bwT
      case b2 => exact bwT
      rintro e2 w2 ⟨u1, v1, rfl, hu1, hv1, hb2⟩
      have hp2 : Below wT.heap.size wT w2 := Below.trans (show Below wT.heap.size wT _ from bwT) (hb2.mono szT)
      have sz2 := hp2.size
      have hS2 := And.intro (oldc hp2 ly q_y0) (And.intro (oldc hp2 ly q_y1) (And.intro (oldc hp2 lx q_x0) (oldc hp2 lx q_x1)))
      have hBw2 : Below w.heap.size w w2 := hBT.trans (hp2.mono hBT.size)
      have : w.heap.size < w2.heap.size := by omega
      have : ¬ w.heap.size = w2.heap.size := by omega
      have : ¬ w2.heap.size = w.heap.size := by omega
      have : ¬ w.heap.size = w2.heap.size + 1 := by omega
      have : ¬ w2.heap.size + 1 = w.heap.size := by omega
      have : w.heap.size + 1 < w2.heap.size := by omega
      have : ¬ w.heap.size + 1 = w2.heap.size := by omega
      have : ¬ w2.heap.size = w.heap.size + 1 := by omega
      have : ¬ w.heap.size + 1 = w2.heap.size + 1 := by omega
      have : ¬ w2.heap.size + 1 = w.heap.size + 1 := by omega
      have zal : wT.heap.size < w2.heap.size := by have := hb2.size; (try simp at this); omega
      have za0 : w2.cell? ⟨wT.heap.size, 0, none⟩ = some (.slice none 0 0) := oldc hb2 ltT (by simp [go_sem])
      have za1 : w2.cell? ⟨wT.heap.size, 1, none⟩ = some (.slice none 0 0) := oldc hb2 ltT (by simp [go_sem])
      have za2 : w2.cell? ⟨wT.heap.size, 2, none⟩ = some (.slice none 0 0) := oldc hb2 ltT (by simp [go_sem])
      have zaf : ∀ o, w2.frozen? ⟨wT.heap.size, o, none⟩ = false := fun o => (hb2.frozen (p := ⟨wT.heap.size, o, none⟩) ltT).trans (by simp [go_sem])
      obtain ⟨ao1, n1, cp1, rfl, -⟩ := hu1.shape
      obtain ⟨bo1, m1, dp1, rfl, -⟩ := hv1.shape
      have HU1 := Lib.hid hu1
      have HV1 := Lib.hid hv1
      clear hb2 hu1 hv1
      refine hK.out _ _ ?_ (fun hHeld => ?_)
      ·exact kpT
      clear hK K
      try simp only [Act.put, cA, cB, cC]
      refine wpAnyH_ready (rs := [5, 7]) (by kernel_rfl) (by simp) ?_
      refine rdR (fun K hK => ?_) ?_
      ·go_simp
       refine (listTermsI_any _ _ _ _ rs2 es2 T (HX.out.below ?b1) (hrd.out.below ?b2) H2.out HTK.out hTL).mono ?_
       case b1 => exact bwT
       case b2 => exact bwT
       rintro e3 w3 ⟨u2, v2, rfl, hu2, hv2, hb3⟩
       have hp3 : Below wT.heap.size wT w3 := Below.trans (show Below wT.heap.size wT _ from bwT) (hb3.mono szT)
       have hp23 : Below w2.heap.size w2 w3 := Below.trans (show Below w2.heap.size w2 _ from bwT) (hb3.mono szT)
       have sz3 := hp3.size
       have sz23 := hp23.size
       have hS3 := And.intro (oldc hp3 ly q_y0) (And.intro (oldc hp3 ly q_y1) (And.intro (oldc hp3 lx q_x0) (oldc hp3 lx q_x1)))
       have hBw3 : Below w.heap.size w w3 := hBT.trans (hp3.mono hBT.size)
       have : w.heap.size < w3.heap.size := by omega
       have : ¬ w.heap.size = w3.heap.size := by omega
       have : ¬ w3.heap.size = w.heap.size := by omega
       have : ¬ w.heap.size = w3.heap.size + 1 := by omega
       have : ¬ w3.heap.size + 1 = w.heap.size := by omega
       have : w.heap.size + 1 < w3.heap.size := by omega
       have : ¬ w.heap.size + 1 = w3.heap.size := by omega
       have : ¬ w3.heap.size = w.heap.size + 1 := by omega
       have : ¬ w.heap.size + 1 = w3.heap.size + 1 := by omega
       have : ¬ w3.heap.size + 1 = w.heap.size + 1 := by omega
       have za0 := oldc hp23 zal za0
       have za1 := oldc hp23 zal za1
       have za2 := oldc hp23 zal za2
       have zaf : ∀ o, w3.frozen? ⟨wT.heap.size, o, none⟩ = false := fun o => (hp23.frozen (p := ⟨wT.heap.size, o, none⟩) zal).trans (zaf o)
       have zal := Nat.lt_of_lt_of_le zal hp23.size
       obtain ⟨ao2, n2, cp2, rfl, -⟩ := hu2.shape
       obtain ⟨bo2, m2, dp2, rfl, -⟩ := hv2.shape
       have HU2 := Lib.hid hu2
       have HV2 := Lib.hid hv2
       replace HU1 := Lib.hid (HU1.out.below hp23)
       replace HV1 := Lib.hid (HV1.out.below hp23)
       have nb47 : ¬ wT.heap.size = w3.heap.size := by omega
       have nb48 : ¬ w3.heap.size = wT.heap.size := by omega
       have nb55 : ¬ wT.heap.size = w3.heap.size + 1 := by omega
       have nb56 : ¬ w3.heap.size + 1 = wT.heap.size := by omega
       clear hb3 hu2 hv2
       refine hK.out _ _ ?_ (fun hHeld => ?_)
       ·exact kpT
       clear hK K
       try simp only [Act.put, cA, cB, cC]
       refine wpAnyH_ready (rs := [7]) (by kernel_rfl) (by simp) ?_
       refine rdR (fun K hK => ?_) ?_
       ·go_simp
        refine hK.out _ _ ?_ (fun hHeld => ?_)
        ·exact kpT
        clear hK K
        try simp only [Act.put, cA, cB, cC]
        refine wpAnyH_ready (rs := [8]) (by kernel_rfl) (by simp) ?_
        refine rdR (fun K hK => ?_) ?_
        ·go_simp
         refine hK.out _ _ ?_ (fun hHeld => ?_)
         ·exact kpT
         clear hK K
         try simp only [Act.put, cA, cB, cC]
         refine wpAnyH_ready (rs := [9]) (by kernel_rfl) (by simp) ?_
         refine rdR (fun K hK => ?_) ?_
         ·go_simp
          refine hK.out _ _ ?_ (fun hHeld => ?_)
          ·exact kpT
          clear hK K
          try simp only [Act.put, cA, cB, cC]
          refine wpAnyH_done (by kernel_rfl) ?_ _
          go_wp2_with fail
          go_meet
          exact ⟨_, _, _, _, _, _, rfl, rfl, by simp [go_sem, *], by simp [go_sem, *], by simp [go_sem, *], by simp [go_sem, *], by simp [go_sem, *], by simp [go_sem, *], ltT, ltT, Lib.hid (HU1.out.keep zgT).all, Lib.hid (HV1.out.keep zgT).all, Lib.hid (HU2.out.keep zgT).all, Lib.hid (HV2.out.keep zgT).all, bwT⟩
         exact AllReadyH.nil
        exact AllReadyH.nil
       exact AllReadyH.nil
      refine rdR (fun K hK => ?_) ?_
      ·go_simp
       refine hK.out _ _ ?_ (fun hHeld => ?_)
       ·exact kpT
       clear hK K
       try simp only [Act.put, cA, cB, cC]
       refine wpAnyH_ready (rs := [5]) (by kernel_rfl) (by simp) ?_
       refine rdR (fun K hK => ?_) ?_
       ·go_simp
        refine (listTermsI_any _ _ _ _ rs2 es2 T (HX.out.below ?b1) (hrd.out.below ?b2) H2.out HTK.out hTL).mono ?_
        case b1 => exact bwT
        case b2 => exact bwT
        rintro e3 w3 ⟨u2, v2, rfl, hu2, hv2, hb3⟩
        have hp3 : Below wT.heap.size wT w3 := Below.trans (show Below wT.heap.size wT _ from bwT) (hb3.mono szT)
        have hp23 : Below w2.heap.size w2 w3 := Below.trans (show Below w2.heap.size w2 _ from bwT) (hb3.mono szT)
        have sz3 := hp3.size
        have sz23 := hp23.size
        have hS3 := And.intro (oldc hp3 ly q_y0) (And.intro (oldc hp3 ly q_y1) (And.intro (oldc hp3 lx q_x0) (oldc hp3 lx q_x1)))
        have hBw3 : Below w.heap.size w w3 := hBT.trans (hp3.mono hBT.size)
        have : w.heap.size < w3.heap.size := by omega
        have : ¬ w.heap.size = w3.heap.size := by omega
        have : ¬ w3.heap.size = w.heap.size := by omega
        have : ¬ w.heap.size = w3.heap.size + 1 := by omega
        have : ¬ w3.heap.size + 1 = w.heap.size := by omega
        have : w.heap.size + 1 < w3.heap.size := by omega
        have : ¬ w.heap.size + 1 = w3.heap.size := by omega
        have : ¬ w3.heap.size = w.heap.size + 1 := by omega
        have : ¬ w.heap.size + 1 = w3.heap.size + 1 := by omega
        have : ¬ w3.heap.size + 1 = w.heap.size + 1 := by omega
        have za0 := oldc hp23 zal za0
        have za1 := oldc hp23 zal za1
        have za2 := oldc hp23 zal za2
        have zaf : ∀ o, w3.frozen? ⟨wT.heap.size, o, none⟩ = false := fun o => (hp23.frozen (p := ⟨wT.heap.size, o, none⟩) zal).trans (zaf o)
        have zal := Nat.lt_of_lt_of_le zal hp23.size
        have zcl : w2.heap.size < w3.heap.size := by have := hb3.size; (try simp at this); omega
        have zc0 : w3.cell? ⟨w2.heap.size, 0, none⟩ = some (.slice none 0 0) := oldc hb3 ltT (by simp [go_sem])
        have zc1 : w3.cell? ⟨w2.heap.size, 1, none⟩ = some (.slice none 0 0) := oldc hb3 ltT (by simp [go_sem])
        have zc2 : w3.cell? ⟨w2.heap.size, 2, none⟩ = some (.slice none 0 0) := oldc hb3 ltT (by simp [go_sem])
        have zcf : ∀ o, w3.frozen? ⟨w2.heap.size, o, none⟩ = false := fun o => (hb3.frozen (p := ⟨w2.heap.size, o, none⟩) ltT).trans (by simp [go_sem])
        obtain ⟨ao2, n2, cp2, rfl, -⟩ := hu2.shape
        obtain ⟨bo2, m2, dp2, rfl, -⟩ := hv2.shape
        have HU2 := Lib.hid hu2
        have HV2 := Lib.hid hv2
        replace HU1 := Lib.hid (HU1.out.below hp23)
        replace HV1 := Lib.hid (HV1.out.below hp23)
        have nb47 : ¬ wT.heap.size = w3.heap.size := by omega
        have nb48 : ¬ w3.heap.size = wT.heap.size := by omega
        have nb51 : ¬ w2.heap.size = w3.heap.size := by omega
        have nb52 : ¬ w3.heap.size = w2.heap.size := by omega
        have nb55 : ¬ wT.heap.size = w3.heap.size + 1 := by omega
        have nb56 : ¬ w3.heap.size + 1 = wT.heap.size := by omega
        have nb59 : ¬ w2.heap.size = w3.heap.size + 1 := by omega
        have nb60 : ¬ w3.heap.size + 1 = w2.heap.size := by omega
        have nb63 : ¬ wT.heap.size = w2.heap.size := by omega
        have nb64 : ¬ w2.heap.size = wT.heap.size := by omega
        clear hb3 hu2 hv2
        refine hK.out _ _ ?_ (fun hHeld => ?_)
        ·exact kpT
        clear hK K
        try simp only [Act.put, cA, cB, cC]
        refine wpAnyH_ready (rs := [8]) (by kernel_rfl) (by simp) ?_
        refine rdR (fun K hK => ?_) ?_
        ·go_simp
         refine hK.out _ _ ?_ (fun hHeld => ?_)
         ·exact kpT
         clear hK K
         try simp only [Act.put, cA, cB, cC]
         refine wpAnyH_ready (rs := [9]) (by kernel_rfl) (by simp) ?_
         refine rdR (fun K hK => ?_) ?_
         ·go_simp
          refine hK.out _ _ ?_ (fun hHeld => ?_)
          ·exact kpT
          clear hK K
          try simp only [Act.put, cA, cB, cC]
          refine wpAnyH_done (by kernel_rfl) ?_ _
          go_wp2_with fail
          go_meet
          exact ⟨_, _, _, _, _, _, rfl, rfl, by simp [go_sem, *], by simp [go_sem, *], by simp [go_sem, *], by simp [go_sem, *], by simp [go_sem, *], by simp [go_sem, *], ltT, ltT, Lib.hid (HU1.out.keep zgT).all, Lib.hid (HV1.out.keep zgT).all, Lib.hid (HU2.out.keep zgT).all, Lib.hid (HV2.out.keep zgT).all, bwT⟩
         exact AllReadyH.nil
        exact AllReadyH.nil
       exact AllReadyH.nil
      exact AllReadyH.nil
     refine rdR (fun K hK => ?_) ?_
     ·go_simp
      refine hK.out _ _ ?_ (fun hHeld => ?_)
      ·exact kpT
      clear hK K
      try simp only [Act.put, cA, cB, cC]
      refine wpAnyH_ready (rs := [2]) (by kernel_rfl) (by simp) ?_
      refine rdR (fun K hK => ?_) ?_
      ·go_simp
       refine (listTermsI_any _ _ _ _ rs es T (HY.out.below ?b1) (hrd.out.below ?b2) H1.out HTK.out hTL).mono ?_
       case b1 => exact bwT
       case b2 => exact bwT
       rintro e2 w2 ⟨u1, v1, rfl, hu1, hv1, hb2⟩
       have hp2 : Below wT.heap.size wT w2 := Below.trans (show Below wT.heap.size wT _ from bwT) (hb2.mono szT)
       have sz2 := hp2.size
       have hS2 := And.intro (oldc hp2 ly q_y0) (And.intro (oldc hp2 ly q_y1) (And.intro (oldc hp2 lx q_x0) (oldc hp2 lx q_x1)))
       have hBw2 : Below w.heap.size w w2 := hBT.trans (hp2.mono hBT.size)
       have : w.heap.size < w2.heap.size := by omega
       have : ¬ w.heap.size = w2.heap.size := by omega
       have : ¬ w2.heap.size = w.heap.size := by omega
       have : ¬ w.heap.size = w2.heap.size + 1 := by omega
       have : ¬ w2.heap.size + 1 = w.heap.size := by omega
       have : w.heap.size + 1 < w2.heap.size := by omega
       have : ¬ w.heap.size + 1 = w2.heap.size := by omega
       have : ¬ w2.heap.size = w.heap.size + 1 := by omega
       have : ¬ w.heap.size + 1 = w2.heap.size + 1 := by omega
       have : ¬ w2.heap.size + 1 = w.heap.size + 1 := by omega
       have zal : wT.heap.size < w2.heap.size := by have := hb2.size; (try simp at this); omega
       have za0 : w2.cell? ⟨wT.heap.size, 0, none⟩ = some (.slice none 0 0) := oldc hb2 ltT (by simp [go_sem])
       have za1 : w2.cell? ⟨wT.heap.size, 1, none⟩ = some (.slice none 0 0) := oldc hb2 ltT (by simp [go_sem])
       have za2 : w2.cell? ⟨wT.heap.size, 2, none⟩ = some (.slice none 0 0) := oldc hb2 ltT (by simp [go_sem])
       have zaf : ∀ o, w2.frozen? ⟨wT.heap.size, o, none⟩ = false := fun o => (hb2.frozen (p := ⟨wT.heap.size, o, none⟩) ltT).trans (by simp [go_sem])
       have zbl : wT.heap.size + 1 < w2.heap.size := by have := hb2.size; (try simp at this); omega
       have zb0 : w2.cell? ⟨wT.heap.size + 1, 0, none⟩ = some (.slice none 0 0) := oldc hb2 ltT (by simp [go_sem])
       have zb1 : w2.cell? ⟨wT.heap.size + 1, 1, none⟩ = some (.slice none 0 0) := oldc hb2 ltT (by simp [go_sem])
       have zb2 : w2.cell? ⟨wT.heap.size + 1, 2, none⟩ = some (.slice none 0 0) := oldc hb2 ltT (by simp [go_sem])
       have zbf : ∀ o, w2.frozen? ⟨wT.heap.size + 1, o, none⟩ = false := fun o => (hb2.frozen (p := ⟨wT.heap.size + 1, o, none⟩) ltT).trans (by simp [go_sem])
       obtain ⟨ao1, n1, cp1, rfl, -⟩ := hu1.shape
       obtain ⟨bo1, m1, dp1, rfl, -⟩ := hv1.shape
       have HU1 := Lib.hid hu1
       have HV1 := Lib.hid hv1
       clear hb2 hu1 hv1
       refine hK.out _ _ ?_ (fun hHeld => ?_)
       ·exact kpT
       clear hK K
       try simp only [Act.put, cA, cB, cC]
       refine wpAnyH_ready (rs := [5]) (by kernel_rfl) (by simp) ?_
       refine rdR (fun K hK => ?_) ?_
       ·go_simp
        refine (listTermsI_any _ _ _ _ rs2 es2 T (HX.out.below ?b1) (hrd.out.below ?b2) H2.out HTK.out hTL).mono ?_
        case b1 => exact bwT
        case b2 => exact bwT
        rintro e3 w3 ⟨u2, v2, rfl, hu2, hv2, hb3⟩
        have hp3 : Below wT.heap.size wT w3 := Below.trans (show Below wT.heap.size wT _ from bwT) (hb3.mono szT)
        have hp23 : Below w2.heap.size w2 w3 := Below.trans (show Below w2.heap.size w2 _ from bwT) (hb3.mono szT)
        have sz3 := hp3.size
        have sz23 := hp23.size
        have hS3 := And.intro (oldc hp3 ly q_y0) (And.intro (oldc hp3 ly q_y1) (And.intro (oldc hp3 lx q_x0) (oldc hp3 lx q_x1)))
        have hBw3 : Below w.heap.size w w3 := hBT.trans (hp3.mono hBT.size)
        have : w.heap.size < w3.heap.size := by omega
        have : ¬ w.heap.size = w3.heap.size := by omega
        have : ¬ w3.heap.size = w.heap.size := by omega
        have : ¬ w.heap.size = w3.heap.size + 1 := by omega
        have : ¬ w3.heap.size + 1 = w.heap.size := by omega
        have : w.heap.size + 1 < w3.heap.size := by omega
        have : ¬ w.heap.size + 1 = w3.heap.size := by omega
        have : ¬ w3.heap.size = w.heap.size + 1 := by omega
        have : ¬ w.heap.size + 1 = w3.heap.size + 1 := by omega
        have : ¬ w3.heap.size + 1 = w.heap.size + 1 := by omega
        have za0 := oldc hp23 zal za0
        have za1 := oldc hp23 zal za1
        have za2 := oldc hp23 zal za2
        have zaf : ∀ o, w3.frozen? ⟨wT.heap.size, o, none⟩ = false := fun o => (hp23.frozen (p := ⟨wT.heap.size, o, none⟩) zal).trans (zaf o)
        have zal := Nat.lt_of_lt_of_le zal hp23.size
        have zb0 := oldc hp23 zbl zb0
        have zb1 := oldc hp23 zbl zb1
        have zb2 := oldc hp23 zbl zb2
        have zbf : ∀ o, w3.frozen? ⟨wT.heap.size + 1, o, none⟩ = false := fun o => (hp23.frozen (p := ⟨wT.heap.size + 1, o, none⟩) zbl).trans (zbf o)
        have zbl := Nat.lt_of_lt_of_le zbl hp23.size
        obtain ⟨ao2, n2, cp2, rfl, -⟩ := hu2.shape
        obtain ⟨bo2, m2, dp2, rfl, -⟩ := hv2.shape
        have HU2 := Lib.hid hu2
        have HV2 := Lib.hid hv2
        replace HU1 := Lib.hid (HU1.out.below hp23)
        replace HV1 := Lib.hid (HV1.out.below hp23)
        have nb47 : ¬ wT.heap.size = w3.heap.size := by omega
        have nb48 : ¬ w3.heap.size = wT.heap.size := by omega
        have nb49 : ¬ wT.heap.size + 1 = w3.heap.size := by omega
        have nb50 : ¬ w3.heap.size = wT.heap.size + 1 := by omega
        have nb55 : ¬ wT.heap.size = w3.heap.size + 1 := by omega
        have nb56 : ¬ w3.heap.size + 1 = wT.heap.size := by omega
        have nb57 : ¬ wT.heap.size + 1 = w3.heap.size + 1 := by omega
        have nb58 : ¬ w3.heap.size + 1 = wT.heap.size + 1 := by omega
        clear hb3 hu2 hv2
        refine hK.out _ _ ?_ (fun hHeld => ?_)
        ·exact kpT
        clear hK K
        try simp only [Act.put, cA, cB, cC]
        refine wpAnyH_ready (rs := [8]) (by kernel_rfl) (by simp) ?_
        refine rdR (fun K hK => ?_) ?_
        ·go_simp
         refine hK.out _ _ ?_ (fun hHeld => ?_)
         ·exact kpT
         clear hK K
         try simp only [Act.put, cA, cB, cC]
         refine wpAnyH_ready (rs := [9]) (by kernel_rfl) (by simp) ?_
         refine rdR (fun K hK => ?_) ?_
         ·go_simp
          refine hK.out _ _ ?_ (fun hHeld => ?_)
          ·exact kpT
          clear hK K
          try simp only [Act.put, cA, cB, cC]
          refine wpAnyH_done (by kernel_rfl) ?_ _
          go_wp2_with fail
          go_meet
          exact ⟨_, _, _, _, _, _, rfl, rfl, by simp [go_sem, *], by simp [go_sem, *], by simp [go_sem, *], by simp [go_sem, *], by simp [go_sem, *], by simp [go_sem, *], ltT, ltT, Lib.hid (HU1.out.keep zgT).all, Lib.hid (HV1.out.keep zgT).all, Lib.hid (HU2.out.keep zgT).all, Lib.hid (HV2.out.keep zgT).all, bwT⟩
         exact AllReadyH.nil
        exact AllReadyH.nil
       exact AllReadyH.nil
      exact AllReadyH.nil
     exact AllReadyH.nil
    refine rdR (fun K hK => ?_) ?_
    ·go_simp
     refine hK.out _ _ ?_ (fun hHeld => ?_)
     ·exact kpT
     clear hK K
     try simp only [Act.put, cA, cB, cC]
     refine wpAnyH_ready (rs := [2, 6]) (by kernel_rfl) (by simp) ?_
     refine rdR (fun K hK => ?_) ?_
     ·go_simp
      refine (listTermsI_any _ _ _ _ rs es T (HY.out.below ?b1) (hrd.out.below ?b2) H1.out HTK.out hTL).mono ?_
      case b1 => exact bwT
      case b2 => exact bwT
      rintro e2 w2 ⟨u1, v1, rfl, hu1, hv1, hb2⟩
      have hp2 : Below wT.heap.size wT w2 := Below.trans (show Below wT.heap.size wT _ from bwT) (hb2.mono szT)
      have sz2 := hp2.size
      have hS2 := And.intro (oldc hp2 ly q_y0) (And.intro (oldc hp2 ly q_y1) (And.intro (oldc hp2 lx q_x0) (oldc hp2 lx q_x1)))
      have hBw2 : Below w.heap.size w w2 := hBT.trans (hp2.mono hBT.size)
      have : w.heap.size < w2.heap.size := by omega
      have : ¬ w.heap.size = w2.heap.size := by omega
      have : ¬ w2.heap.size = w.heap.size := by omega
      have : ¬ w.heap.size = w2.heap.size + 1 := by omega
      have : ¬ w2.heap.size + 1 = w.heap.size := by omega
      have : w.heap.size + 1 < w2.heap.size := by omega
      have : ¬ w.heap.size + 1 = w2.heap.size := by omega
      have : ¬ w2.heap.size = w.heap.size + 1 := by omega
      have : ¬ w.heap.size + 1 = w2.heap.size + 1 := by omega
      have : ¬ w2.heap.size + 1 = w.heap.size + 1 := by omega
      have zal : wT.heap.size < w2.heap.size := by have := hb2.size; (try simp at this); omega
      have za0 : w2.cell? ⟨wT.heap.size, 0, none⟩ = some (.slice none 0 0) := oldc hb2 ltT (by simp [go_sem])
      have za1 : w2.cell? ⟨wT.heap.size, 1, none⟩ = some (.slice none 0 0) := oldc hb2 ltT (by simp [go_sem])
      have za2 : w2.cell? ⟨wT.heap.size, 2, none⟩ = some (.slice none 0 0) := oldc hb2 ltT (by simp [go_sem])
      have zaf : ∀ o, w2.frozen? ⟨wT.heap.size, o, none⟩ = false := fun o => (hb2.frozen (p := ⟨wT.heap.size, o, none⟩) ltT).trans (by simp [go_sem])
      obtain ⟨ao1, n1, cp1, rfl, -⟩ := hu1.shape
      obtain ⟨bo1, m1, dp1, rfl, -⟩ := hv1.shape
      have HU1 := Lib.hid hu1
      have HV1 := Lib.hid hv1
      clear hb2 hu1 hv1
      refine hK.out _ _ ?_ (fun hHeld => ?_)
      ·exact kpT
      clear hK K
      try simp only [Act.put, cA, cB, cC]
      refine wpAnyH_ready (rs := [5, 6]) (by kernel_rfl) (by simp) ?_
      refine rdR (fun K hK => ?_) ?_
      ·go_simp
       refine (listTermsI_any _ _ _ _ rs2 es2 T (HX.out.below ?b1) (hrd.out.below ?b2) H2.out HTK.out hTL).mono ?_
       case b1 => exact bwT
       case b2 => exact bwT
       rintro e3 w3 ⟨u2, v2, rfl, hu2, hv2, hb3⟩
       have hp3 : Below wT.heap.size wT w3 := Below.trans (show Below wT.heap.size wT _ from bwT) (hb3.mono szT)
       have hp23 : Below w2.heap.size w2 w3 := Below.trans (show Below w2.heap.size w2 _ from bwT) (hb3.mono szT)
       have sz3 := hp3.size
       have sz23 := hp23.size
       have hS3 := And.intro (oldc hp3 ly q_y0) (And.intro (oldc hp3 ly q_y1) (And.intro (oldc hp3 lx q_x0) (oldc hp3 lx q_x1)))
       have hBw3 : Below w.heap.size w w3 := hBT.trans (hp3.mono hBT.size)
       have : w.heap.size < w3.heap.size := by omega
       have : ¬ w.heap.size = w3.heap.size := by omega
       have : ¬ w3.heap.size = w.heap.size := by omega
       have : ¬ w.heap.size = w3.heap.size + 1 := by omega
       have : ¬ w3.heap.size + 1 = w.heap.size := by omega
       have : w.heap.size + 1 < w3.heap.size := by omega
       have : ¬ w.heap.size + 1 = w3.heap.size := by omega
       have : ¬ w3.heap.size = w.heap.size + 1 := by omega
       have : ¬ w.heap.size + 1 = w3.heap.size + 1 := by omega
       have : ¬ w3.heap.size + 1 = w.heap.size + 1 := by omega
       have za0 := oldc hp23 zal za0
       have za1 := oldc hp23 zal za1
       have za2 := oldc hp23 zal za2
       have zaf : ∀ o, w3.frozen? ⟨wT.heap.size, o, none⟩ = false := fun o => (hp23.frozen (p := ⟨wT.heap.size, o, none⟩) zal).trans (zaf o)
       have zal := Nat.lt_of_lt_of_le zal hp23.size
       obtain ⟨ao2, n2, cp2, rfl, -⟩ := hu2.shape
       obtain ⟨bo2, m2, dp2, rfl, -⟩ := hv2.shape
       have HU2 := Lib.hid hu2
       have HV2 := Lib.hid hv2
       replace HU1 := Lib.hid (HU1.out.below hp23)
       replace HV1 := Lib.hid (HV1.out.below hp23)
       have nb47 : ¬ wT.heap.size = w3.heap.size := by omega
       have nb48 : ¬ w3.heap.size = wT.heap.size := by omega
       have nb55 : ¬ wT.heap.size = w3.heap.size + 1 := by omega
       have nb56 : ¬ w3.heap.size + 1 = wT.heap.size := by omega
       clear hb3 hu2 hv2
       refine hK.out _ _ ?_ (fun hHeld => ?_)
       ·exact kpT
       clear hK K
       try simp only [Act.put, cA, cB, cC]
       refine wpAnyH_ready (rs := [6]) (by kernel_rfl) (by simp) ?_
       refine rdR (fun K hK => ?_) ?_
       ·go_simp
        refine hK.out _ _ ?_ (fun hHeld => ?_)
        ·exact kpT
        clear hK K
        try simp only [Act.put, cA, cB, cC]
        refine wpAnyH_ready (rs := [8]) (by kernel_rfl) (by simp) ?_
        refine rdR (fun K hK => ?_) ?_
        ·go_simp
         refine hK.out _ _ ?_ (fun hHeld => ?_)
         ·exact kpT
         clear hK K
         try simp only [Act.put, cA, cB, cC]
         refine wpAnyH_ready (rs := [9]) (by kernel_rfl) (by simp) ?_
         refine rdR (fun K hK => ?_) ?_
         ·go_simp
          refine hK.out _ _ ?_ (fun hHeld => ?_)
          ·exact kpT
          clear hK K
          try simp only [Act.put, cA, cB, cC]
          refine wpAnyH_done (by kernel_rfl) ?_ _
          go_wp2_with fail
          go_meet
          exact ⟨_, _, _, _, _, _, rfl, rfl, by simp [go_sem, *], by simp [go_sem, *], by simp [go_sem, *], by simp [go_sem, *], by simp [go_sem, *], by simp [go_sem, *], ltT, ltT, Lib.hid (HU1.out.keep zgT).all, Lib.hid (HV1.out.keep zgT).all, Lib.hid (HU2.out.keep zgT).all, Lib.hid (HV2.out.keep zgT).all, bwT⟩
         exact AllReadyH.nil
        exact AllReadyH.nil
       exact AllReadyH.nil
      refine rdR (fun K hK => ?_) ?_
      ·go_simp
       refine hK.out _ _ ?_ (fun hHeld => ?_)
       ·exact kpT
       clear hK K
       try simp only [Act.put, cA, cB, cC]
       refine wpAnyH_ready (rs := [5]) (by kernel_rfl) (by simp) ?_
       refine rdR (fun K hK => ?_) ?_
       ·go_simp
        refine (listTermsI_any _ _ _ _ rs2 es2 T (HX.out.below ?b1) (hrd.out.below ?b2) H2.out HTK.out hTL).mono ?_
        case b1 => exact bwT
        case b2 => exact bwT
        rintro e3 w3 ⟨u2, v2, rfl, hu2, hv2, hb3⟩
        have hp3 : Below wT.heap.size wT w3 := Below.trans (show Below wT.heap.size wT _ from bwT) (hb3.mono szT)
        have hp23 : Below w2.heap.size w2 w3 := Below.trans (show Below w2.heap.size w2 _ from bwT) (hb3.mono szT)
        have sz3 := hp3.size
        have sz23 := hp23.size
        have hS3 := And.intro (oldc hp3 ly q_y0) (And.intro (oldc hp3 ly q_y1) (And.intro (oldc hp3 lx q_x0) (oldc hp3 lx q_x1)))
        have hBw3 : Below w.heap.size w w3 := hBT.trans (hp3.mono hBT.size)
        have : w.heap.size < w3.heap.size := by omega
        have : ¬ w.heap.size = w3.heap.size := by omega
        have : ¬ w3.heap.size = w.heap.size := by omega
        have : ¬ w.heap.size = w3.heap.size + 1 := by omega
        have : ¬ w3.heap.size + 1 = w.heap.size := by omega
        have : w.heap.size + 1 < w3.heap.size := by omega
        have : ¬ w.heap.size + 1 = w3.heap.size := by omega
        have : ¬ w3.heap.size = w.heap.size + 1 := by omega
        have : ¬ w.heap.size + 1 = w3.heap.size + 1 := by omega
        have : ¬ w3.heap.size + 1 = w.heap.size + 1 := by omega
        have za0 := oldc hp23 zal za0
        have za1 := oldc hp23 zal za1
        have za2 := oldc hp23 zal za2
        have zaf : ∀ o, w3.frozen? ⟨wT.heap.size, o, none⟩ = false := fun o => (hp23.frozen (p := ⟨wT.heap.size, o, none⟩) zal).trans (zaf o)
        have zal := Nat.lt_of_lt_of_le zal hp23.size
        have zcl : w2.heap.size < w3.heap.size := by have := hb3.size; (try simp at this); omega
        have zc0 : w3.cell? ⟨w2.heap.size, 0, none⟩ = some (.slice none 0 0) := oldc hb3 ltT (by simp [go_sem])
        have zc1 : w3.cell? ⟨w2.heap.size, 1, none⟩ = some (.slice none 0 0) := oldc hb3 ltT (by simp [go_sem])
        have zc2 : w3.cell? ⟨w2.heap.size, 2, none⟩ = some (.slice none 0 0) := oldc hb3 ltT (by simp [go_sem])
        have zcf : ∀ o, w3.frozen? ⟨w2.heap.size, o, none⟩ = false := fun o => (hb3.frozen (p := ⟨w2.heap.size, o, none⟩) ltT).trans (by simp [go_sem])
        obtain ⟨ao2, n2, cp2, rfl, -⟩ := hu2.shape
        obtain ⟨bo2, m2, dp2, rfl, -⟩ := hv2.shape
        have HU2 := Lib.hid hu2
        have HV2 := Lib.hid hv2
        replace HU1 := Lib.hid (HU1.out.below hp23)
        replace HV1 := Lib.hid (HV1.out.below hp23)
        have nb47 : ¬ wT.heap.size = w3.heap.size := by omega
        have nb48 : ¬ w3.heap.size = wT.heap.size := by omega
        have nb51 : ¬ w2.heap.size = w3.heap.size := by omega
        have nb52 : ¬ w3.heap.size = w2.heap.size := by omega
        have nb55 : ¬ wT.heap.size = w3.heap.size + 1 := by omega
        have nb56 : ¬ w3.heap.size + 1 = wT.heap.size := by omega
        have nb59 : ¬ w2.heap.size = w3.heap.size + 1 := by omega
        have nb60 : ¬ w3.heap.size + 1 = w2.heap.size := by omega
        have nb63 : ¬ wT.heap.size = w2.heap.size := by omega
        have nb64 : ¬ w2.heap.size = wT.heap.size := by omega
        clear hb3 hu2 hv2
        refine hK.out _ _ ?_ (fun hHeld => ?_)
        ·exact kpT
        clear hK K
        try simp only [Act.put, cA, cB, cC]
        refine wpAnyH_ready (rs := [8]) (by kernel_rfl) (by simp) ?_
        refine rdR (fun K hK => ?_) ?_
        ·go_simp
         refine hK.out _ _ ?_ (fun hHeld => ?_)
         ·exact kpT
         clear hK K
         try simp only [Act.put, cA, cB, cC]
         refine wpAnyH_ready (rs := [9]) (by kernel_rfl) (by simp) ?_
         refine rdR (fun K hK => ?_) ?_
         ·go_simp
          refine hK.out _ _ ?_ (fun hHeld => ?_)
          ·exact kpT
          clear hK K
          try simp only [Act.put, cA, cB, cC]
          refine wpAnyH_done (by kernel_rfl) ?_ _
          go_wp2_with fail
          go_meet
          exact ⟨_, _, _, _, _, _, rfl, rfl, by simp [go_sem, *], by simp [go_sem, *], by simp [go_sem, *], by simp [go_sem, *], by simp [go_sem, *], by simp [go_sem, *], ltT, ltT, Lib.hid (HU1.out.keep zgT).all, Lib.hid (HV1.out.keep zgT).all, Lib.hid (HU2.out.keep zgT).all, Lib.hid (HV2.out.keep zgT).all, bwT⟩
         exact AllReadyH.nil
        exact AllReadyH.nil
       exact AllReadyH.nil
      exact AllReadyH.nil
     refine rdR (fun K hK => ?_) ?_
     ·go_simp
      refine hK.out _ _ ?_ (fun hHeld => ?_)
      ·exact kpT
      clear hK K
      try simp only [Act.put, cA, cB, cC]
      refine wpAnyH_ready (rs := [2]) (by kernel_rfl) (by simp) ?_
      refine rdR (fun K hK => ?_) ?_
      ·go_simp
       refine (listTermsI_any _ _ _ _ rs es T (HY.out.below ?b1) (hrd.out.below ?b2) H1.out HTK.out hTL).mono ?_
       case b1 => exact bwT
       case b2 => exact bwT
       rintro e2 w2 ⟨u1, v1, rfl, hu1, hv1, hb2⟩
       have hp2 : Below wT.heap.size wT w2 := Below.trans (show Below wT.heap.size wT _ from bwT) (hb2.mono szT)
       have sz2 := hp2.size
       have hS2 := And.intro (oldc hp2 ly q_y0) (And.intro (oldc hp2 ly q_y1) (And.intro (oldc hp2 lx q_x0) (oldc hp2 lx q_x1)))
       have hBw2 : Below w.heap.size w w2 := hBT.trans (hp2.mono hBT.size)
       have : w.heap.size < w2.heap.size := by omega
       have : ¬ w.heap.size = w2.heap.size := by omega
       have : ¬ w2.heap.size = w.heap.size := by omega
       have : ¬ w.heap.size = w2.heap.size + 1 := by omega
       have : ¬ w2.heap.size + 1 = w.heap.size := by omega
       have : w.heap.size + 1 < w2.heap.size := by omega
       have : ¬ w.heap.size + 1 = w2.heap.size := by omega
       have : ¬ w2.heap.size = w.heap.size + 1 := by omega
       have : ¬ w.heap.size + 1 = w2.heap.size + 1 := by omega
       have : ¬ w2.heap.size + 1 = w.heap.size + 1 := by omega
       have zal : wT.heap.size < w2.heap.size := by have := hb2.size; (try simp at this); omega
       have za0 : w2.cell? ⟨wT.heap.size, 0, none⟩ = some (.slice none 0 0) := oldc hb2 ltT (by simp [go_sem])
       have za1 : w2.cell? ⟨wT.heap.size, 1, none⟩ = some (.slice none 0 0) := oldc hb2 ltT (by simp [go_sem])
       have za2 : w2.cell? ⟨wT.heap.size, 2, none⟩ = some (.slice none 0 0) := oldc hb2 ltT (by simp [go_sem])
       have zaf : ∀ o, w2.frozen? ⟨wT.heap.size, o, none⟩ = false := fun o => (hb2.frozen (p := ⟨wT.heap.size, o, none⟩) ltT).trans (by simp [go_sem])
       have zbl : wT.heap.size + 1 < w2.heap.size := by have := hb2.size; (try simp at this); omega
       have zb0 : w2.cell? ⟨wT.heap.size + 1, 0, none⟩ = some (.slice none 0 0) := oldc hb2 ltT (by simp [go_sem])
       have zb1 : w2.cell? ⟨wT.heap.size + 1, 1, none⟩ = some (.slice none 0 0) := oldc hb2 ltT (by simp [go_sem])
       have zb2 : w2.cell? ⟨wT.heap.size + 1, 2, none⟩ = some (.slice none 0 0) := oldc hb2 ltT (by simp [go_sem])
       have zbf : ∀ o, w2.frozen? ⟨wT.heap.size + 1, o, none⟩ = false := fun o => (hb2.frozen (p := ⟨wT.heap.size + 1, o, none⟩) ltT).trans (by simp [go_sem])
       obtain ⟨ao1, n1, cp1, rfl, -⟩ := hu1.shape
       obtain ⟨bo1, m1, dp1, rfl, -⟩ := hv1.shape
       have HU1 := Lib.hid hu1
       have HV1 := Lib.hid hv1
       clear hb2 hu1 hv1
       refine hK.out _ _ ?_ (fun hHeld => ?_)
       ·exact kpT
       clear hK K
       try simp only [Act.put, cA, cB, cC]
       refine wpAnyH_ready (rs := [5]) (by kernel_rfl) (by simp) ?_
       refine rdR (fun K hK => ?_) ?_
       ·go_simp
        refine (listTermsI_any _ _ _ _ rs2 es2 T (HX.out.below ?b1) (hrd.out.below ?b2) H2.out HTK.out hTL).mono ?_
        case b1 => exact bwT
        case b2 => exact bwT
        rintro e3 w3 ⟨u2, v2, rfl, hu2, hv2, hb3⟩
        have hp3 : Below wT.heap.size wT w3 := Below.trans (show Below wT.heap.size wT _ from bwT) (hb3.mono szT)
        have hp23 : Below w2.heap.size w2 w3 := Below.trans (show Below w2.heap.size w2 _ from bwT) (hb3.mono szT)
        have sz3 := hp3.size
        have sz23 := hp23.size
        have hS3 := And.intro (oldc hp3 ly q_y0) (And.intro (oldc hp3 ly q_y1) (And.intro (oldc hp3 lx q_x0) (oldc hp3 lx q_x1)))
        have hBw3 : Below w.heap.size w w3 := hBT.trans (hp3.mono hBT.size)
        have : w.heap.size < w3.heap.size := by omega
        have : ¬ w.heap.size = w3.heap.size := by omega
        have : ¬ w3.heap.size = w.heap.size := by omega
        have : ¬ w.heap.size = w3.heap.size + 1 := by omega
        have : ¬ w3.heap.size + 1 = w.heap.size := by omega
        have : w.heap.size + 1 < w3.heap.size := by omega
        have : ¬ w.heap.size + 1 = w3.heap.size := by omega
        have : ¬ w3.heap.size = w.heap.size + 1 := by omega
        have : ¬ w.heap.size + 1 = w3.heap.size + 1 := by omega
        have : ¬ w3.heap.size + 1 = w.heap.size + 1 := by omega
        have za0 := oldc hp23 zal za0
        have za1 := oldc hp23 zal za1
        have za2 := oldc hp23 zal za2
        have zaf : ∀ o, w3.frozen? ⟨wT.heap.size, o, none⟩ = false := fun o => (hp23.frozen (p := ⟨wT.heap.size, o, none⟩) zal).trans (zaf o)
        have zal := Nat.lt_of_lt_of_le zal hp23.size
        have zb0 := oldc hp23 zbl zb0
        have zb1 := oldc hp23 zbl zb1
        have zb2 := oldc hp23 zbl zb2
        have zbf : ∀ o, w3.frozen? ⟨wT.heap.size + 1, o, none⟩ = false := fun o => (hp23.frozen (p := ⟨wT.heap.size + 1, o, none⟩) zbl).trans (zbf o)
        have zbl := Nat.lt_of_lt_of_le zbl hp23.size
        obtain ⟨ao2, n2, cp2, rfl, -⟩ := hu2.shape
        obtain ⟨bo2, m2, dp2, rfl, -⟩ := hv2.shape
        have HU2 := Lib.hid hu2
        have HV2 := Lib.hid hv2
        replace HU1 := Lib.hid (HU1.out.below hp23)
        replace HV1 := Lib.hid (HV1.out.below hp23)
        have nb47 : ¬ wT.heap.size = w3.heap.size := by omega
        have nb48 : ¬ w3.heap.size = wT.heap.size := by omega
        have nb49 : ¬ wT.heap.size + 1 = w3.heap.size := by omega
        have nb50 : ¬ w3.heap.size = wT.heap.size + 1 := by omega
        have nb55 : ¬ wT.heap.size = w3.heap.size + 1 := by omega
        have nb56 : ¬ w3.heap.size + 1 = wT.heap.size := by omega
        have nb57 : ¬ wT.heap.size + 1 = w3.heap.size + 1 := by omega
        have nb58 : ¬ w3.heap.size + 1 = wT.heap.size + 1 := by omega
        clear hb3 hu2 hv2
        refine hK.out _ _ ?_ (fun hHeld => ?_)
        ·exact kpT
        clear hK K
        try simp only [Act.put, cA, cB, cC]
        refine wpAnyH_ready (rs := [8]) (by kernel_rfl) (by simp) ?_
        refine rdR (fun K hK => ?_) ?_
        ·go_simp
         refine hK.out _ _ ?_ (fun hHeld => ?_)
         ·exact kpT
         clear hK K
         try simp only [Act.put, cA, cB, cC]
         refine wpAnyH_ready (rs := [9]) (by kernel_rfl) (by simp) ?_
         refine rdR (fun K hK => ?_) ?_
         ·go_simp
          refine hK.out _ _ ?_ (fun hHeld => ?_)
          ·exact kpT
          clear hK K
          try simp only [Act.put, cA, cB, cC]
          refine wpAnyH_done (by kernel_rfl) ?_ _
          go_wp2_with fail
          go_meet
          exact ⟨_, _, _, _, _, _, rfl, rfl, by simp [go_sem, *], by simp [go_sem, *], by simp [go_sem, *], by simp [go_sem, *], by simp [go_sem, *], by simp [go_sem, *], ltT, ltT, Lib.hid (HU1.out.keep zgT).all, Lib.hid (HV1.out.keep zgT).all, Lib.hid (HU2.out.keep zgT).all, Lib.hid (HV2.out.keep zgT).all, bwT⟩
         exact AllReadyH.nil
        exact AllReadyH.nil
       exact AllReadyH.nil
      exact AllReadyH.nil
     exact AllReadyH.nil
    exact AllReadyH.nil
   case rest =>
    obtain ⟨G1, G2, u1, v1, u2, v2, rfl, rfl, g10, g11, g12, g20, g21, g22, lG1, lG2, HU1, HV1, HU2, HV2, hbX⟩ := hcut
    clear q_y0 q_y1 q_x0 q_x1
    obtain ⟨WX, hWX⟩ : ∃ W : World, W = wc := ⟨_, rfl⟩
    subst hWX
    obtain ⟨ao1, n1, cp1, rfl, -⟩ := HU1.out.shape
    obtain ⟨bo1, m1, dp1, rfl, -⟩ := HV1.out.shape
    obtain ⟨ao2, n2, cp2, rfl, -⟩ := HU2.out.shape
    obtain ⟨bo2, m2, dp2, rfl, -⟩ := HV2.out.shape
    have hbX0 : Below W0.heap.size W0 WX := hbT0.trans (hbX.mono sT)
    have sX := hbX0.size
    have hBX : Below w.heap.size w WX := hB0.trans (hbX0.mono s0)
    have sXw := hBX.size
    go_wp2
    go_loopw [11, 12, 44] (fun _ _ s44 wr => ∃ i : Nat, i ≤ T.length ∧ s44 = .int .i64 i ∧ Hid (divD (rs, es) (rs2, es2) T i = true) ∧ Below WX.heap.size WX wr) (fun _ _ s44 _ => T.length - (intOf s44).toNat)
    case atStart => exact ⟨0, Nat.zero_le _, rfl, Lib.hid rfl, Below.refl _ _⟩
    case round =>
     obtain ⟨wd, hwd⟩ : ∃ wm : World, wm = wr := ⟨_, rfl⟩
     subst hwd
     obtain ⟨i, hi1, rfl, HI, hXd⟩ := hrel
     have sXd := hXd.size
     by_cases hli : i < T.length
     ·have hIi : (i : Int) < (T.length : Int) := by omega
      obtain ⟨s, hs⟩ : ∃ s, T[i]? = some s := ⟨_, List.getElem?_eq_getElem hli⟩
      have HS := Lib.hid hs
      clear hs
      go_wp2_with fail
      go_loopw [12, 48] (fun _ s48 wr => ∃ j : Nat, j ≤ i ∧ s48 = .int .i64 j ∧ Hid (rowD (rs, es) (rs2, es2) T i j = true) ∧ Below WX.heap.size WX wr) (fun _ s48 _ => i - (intOf s48).toNat)
      case atStart => exact ⟨0, Nat.zero_le _, rfl, Lib.hid rfl, hXd⟩
      case round =>
       obtain ⟨we, hwe⟩ : ∃ wm : World, wm = wr := ⟨_, rfl⟩
       subst hwe
       obtain ⟨j, hj1, rfl, HJ, hXe⟩ := hrel
       have sXe := hXe.size
       by_cases hlj : j < i
       ·have hJj : (j : Int) < (i : Int) := by omega
        obtain ⟨t, ht⟩ : ∃ t, T[j]? = some t := ⟨_, List.getElem?_eq_getElem (by omega)⟩
        have HT := Lib.hid ht
        clear ht
        obtain ⟨p, hlet_p⟩ : ∃ r, r = decide (termOf (rs, es) s = termOf (rs, es) t) := ⟨_, rfl⟩
        have HP := Lib.hid hlet_p
        clear hlet_p
        obtain ⟨q, hlet_q⟩ : ∃ r, r = decide (termOf (rs2, es2) s = termOf (rs2, es2) t) := ⟨_, rfl⟩
        have HQ := Lib.hid hlet_q
        clear hlet_q
        have HAG := Lib.hid (show agD (rs, es) (rs2, es2) T i j = decide (p = q) by unfold agD; rw [HS.out, HT.out, HP.out, HQ.out])
        have q10 := oldc hXe lG1 g10
        have q11 := oldc hXe lG1 g11
        have q12 := oldc hXe lG1 g12
        have q20 := oldc hXe lG2 g20
        have q21 := oldc hXe lG2 g21
        have q22 := oldc hXe lG2 g22
        have kG1 : G1 < we.heap.size := by omega
        have kG2 : G2 < we.heap.size := by omega
        go_upto_region 14 with fail
        refine wp_region_held_drew (S := (fun w' => w'.cell? ⟨G1, 0, none⟩ = some (.slice tao T.length tcap) ∧ w'.cell? ⟨G1, 1, none⟩ = some (.slice ao1 n1 cp1) ∧ w'.cell? ⟨G1, 2, none⟩ = some (.slice bo1 m1 dp1) ∧ w'.cell? ⟨G2, 0, none⟩ = some (.slice tao T.length tcap) ∧ w'.cell? ⟨G2, 1, none⟩ = some (.slice ao2 n2 cp2) ∧ w'.cell? ⟨G2, 2, none⟩ = some (.slice bo2 m2 dp2))) (by kernel_rfl) ?_ (fun hHeld => ?_)
        ·first | exact trivial | ((try dsimp only); go_keep)
        refine tkA 0 ?_
        try simp only [Act.put, cA, cB, cC]
        refine tkA 1 ?_
        try simp only [Act.put, cA, cB, cC]
        refine tkA 2 ?_
        try simp only [Act.put, cA, cB, cC]
        refine tkA 4 ?_
        try simp only [Act.put, cA, cB, cC]
        refine tkA 5 ?_
        try simp only [Act.put, cA, cB, cC]
        refine tkA 6 ?_
        try simp only [Act.put, cA, cB, cC]
        refine wpAnyH_ready (rs := [3]) (by kernel_rfl) (by simp) ?_
        refine rdR (fun K hK => ?_) ?_
        ·go_simp
         refine (agreeI_b _ tao T.length tcap _ _ (tmL (rs, es) T) (tmB (rs, es) T) ((HU1.out.below hXe).below ?b1) ((HV1.out.below hXe).below ?b2) i j (by rw [tmL_len]; omega) (by rw [tmL_len]; omega) (by rw [tmB_len]; omega) (by rw [tmB_len]; omega) (by rw [tmL_len]; omega) (by rw [tmB_len]; omega) _ _ (tmL_at HS.out) (tmL_at HT.out) _ _ (tmB_at HS.out) (tmB_at HT.out) p (HP.out.trans (agr_eq _ _).symm)).mono ?_
         case b1 => exact bwT
         case b2 => exact bwT
         rintro e4 w4 ⟨rfl, hb4⟩
         have hp4 : Below we.heap.size we w4 := Below.trans (show Below we.heap.size we _ from bwT) (hb4.mono szT)
         have hS4 := And.intro (oldc hp4 kG1 q10) (And.intro (oldc hp4 kG1 q11) (And.intro (oldc hp4 kG1 q12) (And.intro (oldc hp4 kG2 q20) (And.intro (oldc hp4 kG2 q21) (oldc hp4 kG2 q22)))))
         have sz4 := hp4.size
         clear hb4
         refine hK.out _ _ ?_ (fun hHeld => ?_)
         ·exact kpT
         clear hK K
         try simp only [Act.put, cA, cB, cC]
         refine wpAnyH_ready (rs := [7]) (by kernel_rfl) (by simp) ?_
         refine rdR (fun K hK => ?_) ?_
         ·go_simp
          refine (agreeI_b _ tao T.length tcap _ _ (tmL (rs2, es2) T) (tmB (rs2, es2) T) ((HU2.out.below hXe).below ?b1) ((HV2.out.below hXe).below ?b2) i j (by rw [tmL_len]; omega) (by rw [tmL_len]; omega) (by rw [tmB_len]; omega) (by rw [tmB_len]; omega) (by rw [tmL_len]; omega) (by rw [tmB_len]; omega) _ _ (tmL_at HS.out) (tmL_at HT.out) _ _ (tmB_at HS.out) (tmB_at HT.out) q (HQ.out.trans (agr_eq _ _).symm)).mono ?_
          case b1 => exact bwT
          case b2 => exact bwT
          rintro e5 w5 ⟨rfl, hb5⟩
          have hp5 : Below we.heap.size we w5 := Below.trans (show Below we.heap.size we _ from bwT) (hb5.mono szT)
          have hS5 := And.intro (oldc hp5 kG1 q10) (And.intro (oldc hp5 kG1 q11) (And.intro (oldc hp5 kG1 q12) (And.intro (oldc hp5 kG2 q20) (And.intro (oldc hp5 kG2 q21) (oldc hp5 kG2 q22)))))
          clear hb5
          refine hK.out _ _ ?_ (fun hHeld => ?_)
          ·exact kpT
          clear hK K
          try simp only [Act.put, cA, cB, cC]
          refine tkA 8 ?_
          try simp only [Act.put, cA, cB, cC]
          refine wpAnyH_done (by kernel_rfl) ?_ _
          have hXw5 : Below WX.heap.size WX w5 := hXe.trans (hp5.mono sXe)
          have hBw5 : Below w.heap.size w w5 := hBX.trans (hXw5.mono sXw)
          have HNA := Lib.hid HAG.out
          cases p <;> cases q
          ·have HJ2 := Lib.hid (show rowD (rs, es) (rs2, es2) T i (j + 1) = true by rw [rowD_succ, HJ.out, HNA.out]; rfl)
           clear HJ HI
           go_wp2
           go_roundw
           case rel => exact ⟨j + 1, by omega, by go_num, HJ2, hXw5⟩
           case measure => simp [intOf]; omega
          ·have HF := Lib.hid (show R = false from divF_end HRD.out HD.out HDD.out hk2 (divD_bad hli (rowD_bad hlj (HNA.out.trans (by decide)))))
           clear HRD HD HDD HK HI HJ
           go_wp2
           go_ret
           exact ⟨ret_bool HF.out.symm, hBw5⟩
          ·have HF := Lib.hid (show R = false from divF_end HRD.out HD.out HDD.out hk2 (divD_bad hli (rowD_bad hlj (HNA.out.trans (by decide)))))
           clear HRD HD HDD HK HI HJ
           go_wp2
           go_ret
           exact ⟨ret_bool HF.out.symm, hBw5⟩
          ·have HJ2 := Lib.hid (show rowD (rs, es) (rs2, es2) T i (j + 1) = true by rw [rowD_succ, HJ.out, HNA.out]; rfl)
           clear HJ HI
           go_wp2
           go_roundw
           case rel => exact ⟨j + 1, by omega, by go_num, HJ2, hXw5⟩
           case measure => simp [intOf]; omega
         exact AllReadyH.nil
        exact AllReadyH.nil
       ·obtain rfl : j = i := by omega
        have nJ : ¬ (j : Int) < (j : Int) := by omega
        have HI2 := Lib.hid (show divD (rs, es) (rs2, es2) T (j + 1) = true by rw [divD_succ, HI.out, HJ.out]; rfl)
        clear HI HJ
        go_wp2_with fail
        go_roundw
        case rel => exact ⟨j + 1, by omega, by go_num, HI2, hXe⟩
        case measure => simp [intOf]; omega
     ·obtain rfl : i = T.length := by omega
      have nI : ¬ (T.length : Int) < (T.length : Int) := by omega
      have HDT := Lib.hid (show D = true by rw [HD.out]; exact HI.out)
      have HK2 := Lib.hid (show (1 ≤ k + 1 → d1 = true) ∧ (2 ≤ k + 1 → d2 = true) from ⟨fun _ => by by_cases h0 : k = 0; exact (HDD.out.1 h0).symm.trans HDT.out; exact HK.out.1 (by omega), fun _ => (HDD.out.2 (by omega)).symm.trans HDT.out⟩)
      clear HI HK HDD
      go_wp2
      go_roundw
      case rel => exact ⟨k + 1, by omega, by go_num, HK2, hbX0.trans (hXd.mono sX)⟩
      case measure => simp [intOf]; omega
  ·obtain rfl : k = 2 := by omega
   have HF := Lib.hid (show R = true by rw [HRD.out, HK.out.1 (by omega), HK.out.2 (by omega)]; rfl)
   clear HRD HK
   go_wp2
   go_ret
   exact ⟨ret_bool HF.out.symm, hBb⟩
end
section
def PostKB (w : World) (t : Kin) (b : Bool) (e : Ending) (w' : World) : Prop :=
 ∃ v, e = .returned (.tuple #[.agg #[.int .i64 t.1, v], .bool b]) ∧ Ow w.heap.size w'.heap.size w' [.int .i64 t.1, v] t ∧ Below w.heap.size w w'
theorem backSt_in {s : Stp} {sex : Int} (h : 0 ≤ s.2 ∧ s.2 ≤ 2) : (1 ≤ (backSt s sex).1 ∧ (backSt s sex).1 ≤ 8) ∧ (0 ≤ (backSt s sex).2 ∧ (backSt s sex).2 ≤ 2) := by
 unfold backSt
 split
 ·dsimp only; split <;> omega
 ·split
  ·dsimp only; split <;> omega
  ·split
   ·dsimp only; split <;> split <;> omega
   ·split <;> simp
theorem kin8 {k : Int} (h : 1 ≤ k ∧ k ≤ 8) : k = 1 ∨ k = 2 ∨ k = 3 ∨ k = 4 ∨ k = 5 ∨ k = 6 ∨ k = 7 ∨ k = 8 := by omega
theorem age3 {a : Int} (h : 0 ≤ a ∧ a ≤ 2) : a = 0 ∨ a = 1 ∨ a = 2 := by omega
theorem pickI_any (w : World) (a b : Int) (B : Nat) (sex : Int) (hB : w.cell? ⟨B, 0, none⟩ = some (.int .i64 sex)) (R : Int) (hR : R = if sex = 1 then a else b) :
  Calls Tryz.prog 116 #[.int .i64 a, .int .i64 b, .pointer (some ⟨B, 0, none⟩)] w (PostI w R) := by
 by_cases h : sex = 1
 ·rw [if_pos h] at hR
  subst h hR
  go_enter Tryz.func116, Tryz.ntmps116
  go_wp2
  go_ret
  exact ⟨rfl, bwT⟩
 ·rw [if_neg h] at hR
  subst hR
  go_enter Tryz.func116, Tryz.ntmps116
  go_wp2
  go_ret
  exact ⟨rfl, bwT⟩
set_option maxRecDepth 20000 in
set_option maxHeartbeats 8000000 in
theorem backStepI_any (w : World) (ki ag sex : Int) (hk : 1 ≤ ki ∧ ki ≤ 8) (ha : 0 ≤ ag ∧ ag ≤ 2) (R : Stp) (hR : R = backSt (ki, ag) sex) :
  Calls Tryz.prog 94 #[.agg #[.int .i64 ki, .int .i64 ag], .int .i64 sex] w (PostV w (.agg #[.int .i64 R.1, .int .i64 R.2])) := by
 obtain ⟨r1, r2⟩ := R
 rcases kin8 hk with rfl | rfl | rfl | rfl | rfl | rfl | rfl | rfl
 ·simp [backSt] at hR
  obtain ⟨h1, rfl⟩ := hR
  have HR := Lib.hid h1
  clear h1
  go_enter Tryz.func94, Tryz.ntmps94
  go_wp2_with fail
  refine (pickI_any _ 5 6 (w.heap.size + 1) sex (by simp [go_sem]) r1 HR.out).mono ?_
  rintro e3 w3 ⟨rfl, hbw3⟩
  have hpw3 : Below w.heap.size w w3 := Below.after bwT hbw3 szT
  have sw3 := hpw3.size
  have hBw3 : Below w.heap.size w w3 := hpw3
  have l_s : w.heap.size < w3.heap.size := by have := hbw3.size; simp at this; omega
  have q_s0 : w3.cell? ⟨w.heap.size, 0, none⟩ = some (.int .i64 1) := oldc hbw3 ltT (by simp [go_sem])
  have q_s1 : w3.cell? ⟨w.heap.size, 1, none⟩ = some (.int .i64 ag) := oldc hbw3 ltT (by simp [go_sem])
  have l_x : w.heap.size + 1 < w3.heap.size := by have := hbw3.size; simp at this; omega
  have q_x0 : w3.cell? ⟨w.heap.size + 1, 0, none⟩ = some (.int .i64 sex) := oldc hbw3 ltT (by simp [go_sem])
  have l_r : w.heap.size + 1 + 1 < w3.heap.size := by have := hbw3.size; simp at this; omega
  have q_r0 : w3.cell? ⟨w.heap.size + 1 + 1, 0, none⟩ = some (.int .i64 0) := oldc hbw3 ltT (by simp [go_sem])
  have q_r1 : w3.cell? ⟨w.heap.size + 1 + 1, 1, none⟩ = some (.int .i64 0) := oldc hbw3 ltT (by simp [go_sem])
  have f_r : ∀ o, w3.frozen? ⟨w.heap.size + 1 + 1, o, none⟩ = false := fun o => (hbw3.frozen (p := ⟨w.heap.size + 1 + 1, o, none⟩) ltT).trans (by simp [go_sem])
  clear hbw3 hpw3
  go_wp2
  exact bodyPost_ret (v := .agg #[.int .i64 r1, .int .i64 0]) (by simp [results, Tryz.results94, go_sem, *]) rfl ⟨rfl, bwT⟩
 ·simp [backSt] at hR
  obtain ⟨h1, rfl⟩ := hR
  have HR := Lib.hid h1
  clear h1
  go_enter Tryz.func94, Tryz.ntmps94
  go_wp2_with fail
  refine (pickI_any _ 5 6 (w.heap.size + 1) sex (by simp [go_sem]) r1 HR.out).mono ?_
  rintro e4 w4 ⟨rfl, hbw4⟩
  have hpw4 : Below w.heap.size w w4 := Below.after bwT hbw4 szT
  have sw4 := hpw4.size
  have hBw4 : Below w.heap.size w w4 := hpw4
  have l_s : w.heap.size < w4.heap.size := by have := hbw4.size; simp at this; omega
  have q_s0 : w4.cell? ⟨w.heap.size, 0, none⟩ = some (.int .i64 2) := oldc hbw4 ltT (by simp [go_sem])
  have q_s1 : w4.cell? ⟨w.heap.size, 1, none⟩ = some (.int .i64 ag) := oldc hbw4 ltT (by simp [go_sem])
  have l_x : w.heap.size + 1 < w4.heap.size := by have := hbw4.size; simp at this; omega
  have q_x0 : w4.cell? ⟨w.heap.size + 1, 0, none⟩ = some (.int .i64 sex) := oldc hbw4 ltT (by simp [go_sem])
  have l_r : w.heap.size + 1 + 1 < w4.heap.size := by have := hbw4.size; simp at this; omega
  have q_r0 : w4.cell? ⟨w.heap.size + 1 + 1, 0, none⟩ = some (.int .i64 0) := oldc hbw4 ltT (by simp [go_sem])
  have q_r1 : w4.cell? ⟨w.heap.size + 1 + 1, 1, none⟩ = some (.int .i64 0) := oldc hbw4 ltT (by simp [go_sem])
  have f_r : ∀ o, w4.frozen? ⟨w.heap.size + 1 + 1, o, none⟩ = false := fun o => (hbw4.frozen (p := ⟨w.heap.size + 1 + 1, o, none⟩) ltT).trans (by simp [go_sem])
  clear hbw4 hpw4
  go_wp2
  exact bodyPost_ret (v := .agg #[.int .i64 r1, .int .i64 0]) (by simp [results, Tryz.results94, go_sem, *]) rfl ⟨rfl, bwT⟩
 ·simp [backSt] at hR
  obtain ⟨h1, h2⟩ := hR
  have HR := Lib.hid h1
  clear h1
  rcases age3 ha with rfl | rfl | rfl
  ·obtain rfl : r2 = 0 := by simpa using h2
   clear h2 hk ha
   go_enter Tryz.func94, Tryz.ntmps94
   go_upto_region 11 with fail
   refine wp_region_held_drew (S := (fun w' => w'.cell? ⟨w.heap.size, 1, none⟩ = some (.int .i64 0))) (by kernel_rfl) ?_ (fun hHeld => ?_)
   ·first | exact trivial | ((try dsimp only); go_keep)
   refine tkA 0 ?_
   try simp only [Act.put, cA, cB, cC]
   refine tkA 3 ?_
   try simp only [Act.put, cA, cB, cC]
   refine tkA 4 ?_
   try simp only [Act.put, cA, cB, cC]
   refine wpAnyH_ready (rs := [1, 2]) (by kernel_rfl) (by simp) ?_
   refine rdR (fun K hK => ?_) ?_
   ·go_simp
    refine (pickI_any _ 3 4 (w.heap.size + 1) sex (by simp [go_sem]) r1 HR.out).mono ?_
    rintro e1 w1 ⟨rfl, hb1⟩
    have s1 := hb1.size
    have hS1 : w1.cell? ⟨w.heap.size, 1, none⟩ = some (.int .i64 0) := oldc hb1 ltT (by simp [go_sem])
    have r0 : w1.cell? ⟨w.heap.size + 1 + 1, 0, none⟩ = some (.int .i64 0) := oldc hb1 ltT (by simp [go_sem])
    have r2 : w1.cell? ⟨w.heap.size + 1 + 1, 1, none⟩ = some (.int .i64 0) := oldc hb1 ltT (by simp [go_sem])
    have rf : ∀ o, w1.frozen? ⟨w.heap.size + 1 + 1, o, none⟩ = false := fun o => (hb1.frozen (p := ⟨w.heap.size + 1 + 1, o, none⟩) ltT).trans (by simp [go_sem])
    have lr : w.heap.size + 1 + 1 < w1.heap.size := by (try simp at s1); omega
    have n1 : ¬ w.heap.size + 1 + 1 = w1.heap.size := by omega
    have n2 : ¬ w1.heap.size = w.heap.size + 1 + 1 := by omega
    have n3 : ¬ w.heap.size = w1.heap.size := by omega
    have n4 : ¬ w1.heap.size = w.heap.size := by omega
    have l0 : w.heap.size < w1.heap.size := by omega
    have hB1 : Below w.heap.size w w1 := Below.trans (show Below w.heap.size w _ from bwT) (hb1.mono szT)
    clear hb1
    refine hK.out _ _ ?_ (fun hHeld => ?_)
    ·exact kpT
    clear hK K
    try simp only [Act.put, cA, cB, cC]
    refine wpAnyH_ready (rs := [2]) (by kernel_rfl) (by simp) ?_
    refine rdR (fun K hK => ?_) ?_
    ·go_simp
     refine hK.out _ _ ?_ (fun hHeld => ?_)
     ·exact kpT
     clear hK K
     try simp only [Act.put, cA, cB, cC]
     refine tkA 5 ?_
     try simp only [Act.put, cA, cB, cC]
     refine wpAnyH_ready (rs := [6]) (by kernel_rfl) (by simp) ?_
     refine rdR (fun K hK => ?_) ?_
     ·go_simp
      refine hK.out _ _ ?_ (fun hHeld => ?_)
      ·exact kpT
      clear hK K
      try simp only [Act.put, cA, cB, cC]
      refine tkA 7 ?_
      try simp only [Act.put, cA, cB, cC]
      refine wpAnyH_ready (rs := [8]) (by kernel_rfl) (by simp) ?_
      refine rdR (fun K hK => ?_) ?_
      ·go_simp
       refine hK.out _ _ ?_ (fun hHeld => ?_)
       ·exact kpT
       clear hK K
       try simp only [Act.put, cA, cB, cC]
       refine wpAnyH_done (by kernel_rfl) ?_ _
       go_wp2
       exact bodyPost_ret (v := .agg #[.int .i64 r1, .int .i64 0]) (by simp [results, Tryz.results94, go_sem, *]) rfl ⟨rfl, bwT⟩
      exact AllReadyH.nil
     exact AllReadyH.nil
    exact AllReadyH.nil
   refine rdR (fun K hK => ?_) ?_
   ·go_simp
    refine hK.out _ _ ?_ (fun hHeld => ?_)
    ·exact kpT
    clear hK K
    try simp only [Act.put, cA, cB, cC]
    refine tkA 5 ?_
    try simp only [Act.put, cA, cB, cC]
    refine wpAnyH_ready (rs := [1, 6]) (by kernel_rfl) (by simp) ?_
    refine rdR (fun K hK => ?_) ?_
    ·go_simp
     refine (pickI_any _ 3 4 (w.heap.size + 1) sex (by simp [go_sem]) r1 HR.out).mono ?_
     rintro e1 w1 ⟨rfl, hb1⟩
     have s1 := hb1.size
     have hS1 : w1.cell? ⟨w.heap.size, 1, none⟩ = some (.int .i64 0) := oldc hb1 ltT (by simp [go_sem])
     have r0 : w1.cell? ⟨w.heap.size + 1 + 1, 0, none⟩ = some (.int .i64 0) := oldc hb1 ltT (by simp [go_sem])
     have r2 : w1.cell? ⟨w.heap.size + 1 + 1, 1, none⟩ = some (.int .i64 0) := oldc hb1 ltT (by simp [go_sem])
     have rf : ∀ o, w1.frozen? ⟨w.heap.size + 1 + 1, o, none⟩ = false := fun o => (hb1.frozen (p := ⟨w.heap.size + 1 + 1, o, none⟩) ltT).trans (by simp [go_sem])
     have lr : w.heap.size + 1 + 1 < w1.heap.size := by (try simp at s1); omega
     have n1 : ¬ w.heap.size + 1 + 1 = w1.heap.size := by omega
     have n2 : ¬ w1.heap.size = w.heap.size + 1 + 1 := by omega
     have n3 : ¬ w.heap.size = w1.heap.size := by omega
     have n4 : ¬ w1.heap.size = w.heap.size := by omega
     have l0 : w.heap.size < w1.heap.size := by omega
     have z0 : w1.cell? ⟨w.heap.size + 1 + 1 + 1, 0, none⟩ = some (.int .i64 0) := oldc hb1 ltT (by simp [go_sem])
     have l3 : w.heap.size + 1 + 1 + 1 < w1.heap.size := by (try simp at s1); omega
     have hB1 : Below w.heap.size w w1 := Below.trans (show Below w.heap.size w _ from bwT) (hb1.mono szT)
     clear hb1
     refine hK.out _ _ ?_ (fun hHeld => ?_)
     ·exact kpT
     clear hK K
     try simp only [Act.put, cA, cB, cC]
     refine wpAnyH_ready (rs := [6]) (by kernel_rfl) (by simp) ?_
     refine rdR (fun K hK => ?_) ?_
     ·go_simp
      refine hK.out _ _ ?_ (fun hHeld => ?_)
      ·exact kpT
      clear hK K
      try simp only [Act.put, cA, cB, cC]
      refine tkA 7 ?_
      try simp only [Act.put, cA, cB, cC]
      refine wpAnyH_ready (rs := [8]) (by kernel_rfl) (by simp) ?_
      refine rdR (fun K hK => ?_) ?_
      ·go_simp
       refine hK.out _ _ ?_ (fun hHeld => ?_)
       ·exact kpT
       clear hK K
       try simp only [Act.put, cA, cB, cC]
       refine wpAnyH_done (by kernel_rfl) ?_ _
       go_wp2
       exact bodyPost_ret (v := .agg #[.int .i64 r1, .int .i64 0]) (by simp [results, Tryz.results94, go_sem, *]) rfl ⟨rfl, bwT⟩
      exact AllReadyH.nil
     exact AllReadyH.nil
    refine rdR (fun K hK => ?_) ?_
    ·go_simp
     refine hK.out _ _ ?_ (fun hHeld => ?_)
     ·exact kpT
     clear hK K
     try simp only [Act.put, cA, cB, cC]
     refine wpAnyH_ready (rs := [1]) (by kernel_rfl) (by simp) ?_
     refine rdR (fun K hK => ?_) ?_
     ·go_simp
      refine (pickI_any _ 3 4 (w.heap.size + 1) sex (by simp [go_sem]) r1 HR.out).mono ?_
      rintro e1 w1 ⟨rfl, hb1⟩
      have s1 := hb1.size
      have hS1 : w1.cell? ⟨w.heap.size, 1, none⟩ = some (.int .i64 0) := oldc hb1 ltT (by simp [go_sem])
      have r0 : w1.cell? ⟨w.heap.size + 1 + 1, 0, none⟩ = some (.int .i64 0) := oldc hb1 ltT (by simp [go_sem])
      have r2 : w1.cell? ⟨w.heap.size + 1 + 1, 1, none⟩ = some (.int .i64 0) := oldc hb1 ltT (by simp [go_sem])
      have rf : ∀ o, w1.frozen? ⟨w.heap.size + 1 + 1, o, none⟩ = false := fun o => (hb1.frozen (p := ⟨w.heap.size + 1 + 1, o, none⟩) ltT).trans (by simp [go_sem])
      have lr : w.heap.size + 1 + 1 < w1.heap.size := by (try simp at s1); omega
      have n1 : ¬ w.heap.size + 1 + 1 = w1.heap.size := by omega
      have n2 : ¬ w1.heap.size = w.heap.size + 1 + 1 := by omega
      have n3 : ¬ w.heap.size = w1.heap.size := by omega
      have n4 : ¬ w1.heap.size = w.heap.size := by omega
      have l0 : w.heap.size < w1.heap.size := by omega
      have z0 : w1.cell? ⟨w.heap.size + 1 + 1 + 1, 0, none⟩ = some (.int .i64 0) := oldc hb1 ltT (by simp [go_sem])
      have l3 : w.heap.size + 1 + 1 + 1 < w1.heap.size := by (try simp at s1); omega
      have hB1 : Below w.heap.size w w1 := Below.trans (show Below w.heap.size w _ from bwT) (hb1.mono szT)
      clear hb1
      refine hK.out _ _ ?_ (fun hHeld => ?_)
      ·exact kpT
      clear hK K
      try simp only [Act.put, cA, cB, cC]
      refine tkA 7 ?_
      try simp only [Act.put, cA, cB, cC]
      refine wpAnyH_ready (rs := [8]) (by kernel_rfl) (by simp) ?_
      refine rdR (fun K hK => ?_) ?_
      ·go_simp
       refine hK.out _ _ ?_ (fun hHeld => ?_)
       ·exact kpT
       clear hK K
       try simp only [Act.put, cA, cB, cC]
       refine wpAnyH_done (by kernel_rfl) ?_ _
       go_wp2
       exact bodyPost_ret (v := .agg #[.int .i64 r1, .int .i64 0]) (by simp [results, Tryz.results94, go_sem, *]) rfl ⟨rfl, bwT⟩
      exact AllReadyH.nil
     exact AllReadyH.nil
    exact AllReadyH.nil
   exact AllReadyH.nil
  ·obtain rfl : r2 = 2 := by simpa using h2
   clear h2 hk ha
   go_enter Tryz.func94, Tryz.ntmps94
   go_upto_region 11 with fail
   refine wp_region_held_drew (S := (fun w' => w'.cell? ⟨w.heap.size, 1, none⟩ = some (.int .i64 1))) (by kernel_rfl) ?_ (fun hHeld => ?_)
   ·first | exact trivial | ((try dsimp only); go_keep)
   refine tkA 0 ?_
   try simp only [Act.put, cA, cB, cC]
   refine tkA 3 ?_
   try simp only [Act.put, cA, cB, cC]
   refine tkA 4 ?_
   try simp only [Act.put, cA, cB, cC]
   refine wpAnyH_ready (rs := [1, 2]) (by kernel_rfl) (by simp) ?_
   refine rdR (fun K hK => ?_) ?_
   ·go_simp
    refine (pickI_any _ 3 4 (w.heap.size + 1) sex (by simp [go_sem]) r1 HR.out).mono ?_
    rintro e1 w1 ⟨rfl, hb1⟩
    have s1 := hb1.size
    have hS1 : w1.cell? ⟨w.heap.size, 1, none⟩ = some (.int .i64 1) := oldc hb1 ltT (by simp [go_sem])
    have r0 : w1.cell? ⟨w.heap.size + 1 + 1, 0, none⟩ = some (.int .i64 0) := oldc hb1 ltT (by simp [go_sem])
    have r2 : w1.cell? ⟨w.heap.size + 1 + 1, 1, none⟩ = some (.int .i64 0) := oldc hb1 ltT (by simp [go_sem])
    have rf : ∀ o, w1.frozen? ⟨w.heap.size + 1 + 1, o, none⟩ = false := fun o => (hb1.frozen (p := ⟨w.heap.size + 1 + 1, o, none⟩) ltT).trans (by simp [go_sem])
    have lr : w.heap.size + 1 + 1 < w1.heap.size := by (try simp at s1); omega
    have n1 : ¬ w.heap.size + 1 + 1 = w1.heap.size := by omega
    have n2 : ¬ w1.heap.size = w.heap.size + 1 + 1 := by omega
    have n3 : ¬ w.heap.size = w1.heap.size := by omega
    have n4 : ¬ w1.heap.size = w.heap.size := by omega
    have l0 : w.heap.size < w1.heap.size := by omega
    have hB1 : Below w.heap.size w w1 := Below.trans (show Below w.heap.size w _ from bwT) (hb1.mono szT)
    clear hb1
    refine hK.out _ _ ?_ (fun hHeld => ?_)
    ·exact kpT
    clear hK K
    try simp only [Act.put, cA, cB, cC]
    refine wpAnyH_ready (rs := [2]) (by kernel_rfl) (by simp) ?_
    refine rdR (fun K hK => ?_) ?_
    ·go_simp
     refine hK.out _ _ ?_ (fun hHeld => ?_)
     ·exact kpT
     clear hK K
     try simp only [Act.put, cA, cB, cC]
     refine tkA 5 ?_
     try simp only [Act.put, cA, cB, cC]
     refine wpAnyH_ready (rs := [6]) (by kernel_rfl) (by simp) ?_
     refine rdR (fun K hK => ?_) ?_
     ·go_simp
      refine hK.out _ _ ?_ (fun hHeld => ?_)
      ·exact kpT
      clear hK K
      try simp only [Act.put, cA, cB, cC]
      refine tkA 7 ?_
      try simp only [Act.put, cA, cB, cC]
      refine wpAnyH_ready (rs := [8]) (by kernel_rfl) (by simp) ?_
      refine rdR (fun K hK => ?_) ?_
      ·go_simp
       refine hK.out _ _ ?_ (fun hHeld => ?_)
       ·exact kpT
       clear hK K
       try simp only [Act.put, cA, cB, cC]
       refine wpAnyH_done (by kernel_rfl) ?_ _
       go_wp2
       exact bodyPost_ret (v := .agg #[.int .i64 r1, .int .i64 2]) (by simp [results, Tryz.results94, go_sem, *]) rfl ⟨rfl, bwT⟩
      exact AllReadyH.nil
     exact AllReadyH.nil
    exact AllReadyH.nil
   refine rdR (fun K hK => ?_) ?_
   ·go_simp
    refine hK.out _ _ ?_ (fun hHeld => ?_)
    ·exact kpT
    clear hK K
    try simp only [Act.put, cA, cB, cC]
    refine tkA 5 ?_
    try simp only [Act.put, cA, cB, cC]
    refine wpAnyH_ready (rs := [1, 6]) (by kernel_rfl) (by simp) ?_
    refine rdR (fun K hK => ?_) ?_
    ·go_simp
     refine (pickI_any _ 3 4 (w.heap.size + 1) sex (by simp [go_sem]) r1 HR.out).mono ?_
     rintro e1 w1 ⟨rfl, hb1⟩
     have s1 := hb1.size
     have hS1 : w1.cell? ⟨w.heap.size, 1, none⟩ = some (.int .i64 1) := oldc hb1 ltT (by simp [go_sem])
     have r0 : w1.cell? ⟨w.heap.size + 1 + 1, 0, none⟩ = some (.int .i64 0) := oldc hb1 ltT (by simp [go_sem])
     have r2 : w1.cell? ⟨w.heap.size + 1 + 1, 1, none⟩ = some (.int .i64 0) := oldc hb1 ltT (by simp [go_sem])
     have rf : ∀ o, w1.frozen? ⟨w.heap.size + 1 + 1, o, none⟩ = false := fun o => (hb1.frozen (p := ⟨w.heap.size + 1 + 1, o, none⟩) ltT).trans (by simp [go_sem])
     have lr : w.heap.size + 1 + 1 < w1.heap.size := by (try simp at s1); omega
     have n1 : ¬ w.heap.size + 1 + 1 = w1.heap.size := by omega
     have n2 : ¬ w1.heap.size = w.heap.size + 1 + 1 := by omega
     have n3 : ¬ w.heap.size = w1.heap.size := by omega
     have n4 : ¬ w1.heap.size = w.heap.size := by omega
     have l0 : w.heap.size < w1.heap.size := by omega
     have z0 : w1.cell? ⟨w.heap.size + 1 + 1 + 1, 1, none⟩ = some (.int .i64 2) := oldc hb1 ltT (by simp [go_sem])
     have l3 : w.heap.size + 1 + 1 + 1 < w1.heap.size := by (try simp at s1); omega
     have hB1 : Below w.heap.size w w1 := Below.trans (show Below w.heap.size w _ from bwT) (hb1.mono szT)
     clear hb1
     refine hK.out _ _ ?_ (fun hHeld => ?_)
     ·exact kpT
     clear hK K
     try simp only [Act.put, cA, cB, cC]
     refine wpAnyH_ready (rs := [6]) (by kernel_rfl) (by simp) ?_
     refine rdR (fun K hK => ?_) ?_
     ·go_simp
      refine hK.out _ _ ?_ (fun hHeld => ?_)
      ·exact kpT
      clear hK K
      try simp only [Act.put, cA, cB, cC]
      refine tkA 7 ?_
      try simp only [Act.put, cA, cB, cC]
      refine wpAnyH_ready (rs := [8]) (by kernel_rfl) (by simp) ?_
      refine rdR (fun K hK => ?_) ?_
      ·go_simp
       refine hK.out _ _ ?_ (fun hHeld => ?_)
       ·exact kpT
       clear hK K
       try simp only [Act.put, cA, cB, cC]
       refine wpAnyH_done (by kernel_rfl) ?_ _
       go_wp2
       exact bodyPost_ret (v := .agg #[.int .i64 r1, .int .i64 2]) (by simp [results, Tryz.results94, go_sem, *]) rfl ⟨rfl, bwT⟩
      exact AllReadyH.nil
     exact AllReadyH.nil
    refine rdR (fun K hK => ?_) ?_
    ·go_simp
     refine hK.out _ _ ?_ (fun hHeld => ?_)
     ·exact kpT
     clear hK K
     try simp only [Act.put, cA, cB, cC]
     refine wpAnyH_ready (rs := [1]) (by kernel_rfl) (by simp) ?_
     refine rdR (fun K hK => ?_) ?_
     ·go_simp
      refine (pickI_any _ 3 4 (w.heap.size + 1) sex (by simp [go_sem]) r1 HR.out).mono ?_
      rintro e1 w1 ⟨rfl, hb1⟩
      have s1 := hb1.size
      have hS1 : w1.cell? ⟨w.heap.size, 1, none⟩ = some (.int .i64 1) := oldc hb1 ltT (by simp [go_sem])
      have r0 : w1.cell? ⟨w.heap.size + 1 + 1, 0, none⟩ = some (.int .i64 0) := oldc hb1 ltT (by simp [go_sem])
      have r2 : w1.cell? ⟨w.heap.size + 1 + 1, 1, none⟩ = some (.int .i64 0) := oldc hb1 ltT (by simp [go_sem])
      have rf : ∀ o, w1.frozen? ⟨w.heap.size + 1 + 1, o, none⟩ = false := fun o => (hb1.frozen (p := ⟨w.heap.size + 1 + 1, o, none⟩) ltT).trans (by simp [go_sem])
      have lr : w.heap.size + 1 + 1 < w1.heap.size := by (try simp at s1); omega
      have n1 : ¬ w.heap.size + 1 + 1 = w1.heap.size := by omega
      have n2 : ¬ w1.heap.size = w.heap.size + 1 + 1 := by omega
      have n3 : ¬ w.heap.size = w1.heap.size := by omega
      have n4 : ¬ w1.heap.size = w.heap.size := by omega
      have l0 : w.heap.size < w1.heap.size := by omega
      have z0 : w1.cell? ⟨w.heap.size + 1 + 1 + 1, 1, none⟩ = some (.int .i64 2) := oldc hb1 ltT (by simp [go_sem])
      have l3 : w.heap.size + 1 + 1 + 1 < w1.heap.size := by (try simp at s1); omega
      have hB1 : Below w.heap.size w w1 := Below.trans (show Below w.heap.size w _ from bwT) (hb1.mono szT)
      clear hb1
      refine hK.out _ _ ?_ (fun hHeld => ?_)
      ·exact kpT
      clear hK K
      try simp only [Act.put, cA, cB, cC]
      refine tkA 7 ?_
      try simp only [Act.put, cA, cB, cC]
      refine wpAnyH_ready (rs := [8]) (by kernel_rfl) (by simp) ?_
      refine rdR (fun K hK => ?_) ?_
      ·go_simp
       refine hK.out _ _ ?_ (fun hHeld => ?_)
       ·exact kpT
       clear hK K
       try simp only [Act.put, cA, cB, cC]
       refine wpAnyH_done (by kernel_rfl) ?_ _
       go_wp2
       exact bodyPost_ret (v := .agg #[.int .i64 r1, .int .i64 2]) (by simp [results, Tryz.results94, go_sem, *]) rfl ⟨rfl, bwT⟩
      exact AllReadyH.nil
     exact AllReadyH.nil
    exact AllReadyH.nil
   exact AllReadyH.nil
  ·obtain rfl : r2 = 1 := by simpa using h2
   clear h2 hk ha
   go_enter Tryz.func94, Tryz.ntmps94
   go_upto_region 11 with fail
   refine wp_region_held_drew (S := (fun w' => w'.cell? ⟨w.heap.size, 1, none⟩ = some (.int .i64 2))) (by kernel_rfl) ?_ (fun hHeld => ?_)
   ·first | exact trivial | ((try dsimp only); go_keep)
   refine tkA 0 ?_
   try simp only [Act.put, cA, cB, cC]
   refine tkA 3 ?_
   try simp only [Act.put, cA, cB, cC]
   refine tkA 4 ?_
   try simp only [Act.put, cA, cB, cC]
   refine wpAnyH_ready (rs := [1, 2]) (by kernel_rfl) (by simp) ?_
   refine rdR (fun K hK => ?_) ?_
   ·go_simp
    refine (pickI_any _ 3 4 (w.heap.size + 1) sex (by simp [go_sem]) r1 HR.out).mono ?_
    rintro e1 w1 ⟨rfl, hb1⟩
    have s1 := hb1.size
    have hS1 : w1.cell? ⟨w.heap.size, 1, none⟩ = some (.int .i64 2) := oldc hb1 ltT (by simp [go_sem])
    have r0 : w1.cell? ⟨w.heap.size + 1 + 1, 0, none⟩ = some (.int .i64 0) := oldc hb1 ltT (by simp [go_sem])
    have r2 : w1.cell? ⟨w.heap.size + 1 + 1, 1, none⟩ = some (.int .i64 0) := oldc hb1 ltT (by simp [go_sem])
    have rf : ∀ o, w1.frozen? ⟨w.heap.size + 1 + 1, o, none⟩ = false := fun o => (hb1.frozen (p := ⟨w.heap.size + 1 + 1, o, none⟩) ltT).trans (by simp [go_sem])
    have lr : w.heap.size + 1 + 1 < w1.heap.size := by (try simp at s1); omega
    have n1 : ¬ w.heap.size + 1 + 1 = w1.heap.size := by omega
    have n2 : ¬ w1.heap.size = w.heap.size + 1 + 1 := by omega
    have n3 : ¬ w.heap.size = w1.heap.size := by omega
    have n4 : ¬ w1.heap.size = w.heap.size := by omega
    have l0 : w.heap.size < w1.heap.size := by omega
    have hB1 : Below w.heap.size w w1 := Below.trans (show Below w.heap.size w _ from bwT) (hb1.mono szT)
    clear hb1
    refine hK.out _ _ ?_ (fun hHeld => ?_)
    ·exact kpT
    clear hK K
    try simp only [Act.put, cA, cB, cC]
    refine wpAnyH_ready (rs := [2]) (by kernel_rfl) (by simp) ?_
    refine rdR (fun K hK => ?_) ?_
    ·go_simp
     refine hK.out _ _ ?_ (fun hHeld => ?_)
     ·exact kpT
     clear hK K
     try simp only [Act.put, cA, cB, cC]
     refine tkA 5 ?_
     try simp only [Act.put, cA, cB, cC]
     refine wpAnyH_ready (rs := [6]) (by kernel_rfl) (by simp) ?_
     refine rdR (fun K hK => ?_) ?_
     ·go_simp
      refine hK.out _ _ ?_ (fun hHeld => ?_)
      ·exact kpT
      clear hK K
      try simp only [Act.put, cA, cB, cC]
      refine tkA 7 ?_
      try simp only [Act.put, cA, cB, cC]
      refine wpAnyH_ready (rs := [8]) (by kernel_rfl) (by simp) ?_
      refine rdR (fun K hK => ?_) ?_
      ·go_simp
       refine hK.out _ _ ?_ (fun hHeld => ?_)
       ·exact kpT
       clear hK K
       try simp only [Act.put, cA, cB, cC]
       refine wpAnyH_done (by kernel_rfl) ?_ _
       go_wp2
       exact bodyPost_ret (v := .agg #[.int .i64 r1, .int .i64 1]) (by simp [results, Tryz.results94, go_sem, *]) rfl ⟨rfl, bwT⟩
      exact AllReadyH.nil
     exact AllReadyH.nil
    exact AllReadyH.nil
   refine rdR (fun K hK => ?_) ?_
   ·go_simp
    refine hK.out _ _ ?_ (fun hHeld => ?_)
    ·exact kpT
    clear hK K
    try simp only [Act.put, cA, cB, cC]
    refine tkA 5 ?_
    try simp only [Act.put, cA, cB, cC]
    refine wpAnyH_ready (rs := [1, 6]) (by kernel_rfl) (by simp) ?_
    refine rdR (fun K hK => ?_) ?_
    ·go_simp
     refine (pickI_any _ 3 4 (w.heap.size + 1) sex (by simp [go_sem]) r1 HR.out).mono ?_
     rintro e1 w1 ⟨rfl, hb1⟩
     have s1 := hb1.size
     have hS1 : w1.cell? ⟨w.heap.size, 1, none⟩ = some (.int .i64 2) := oldc hb1 ltT (by simp [go_sem])
     have r0 : w1.cell? ⟨w.heap.size + 1 + 1, 0, none⟩ = some (.int .i64 0) := oldc hb1 ltT (by simp [go_sem])
     have r2 : w1.cell? ⟨w.heap.size + 1 + 1, 1, none⟩ = some (.int .i64 0) := oldc hb1 ltT (by simp [go_sem])
     have rf : ∀ o, w1.frozen? ⟨w.heap.size + 1 + 1, o, none⟩ = false := fun o => (hb1.frozen (p := ⟨w.heap.size + 1 + 1, o, none⟩) ltT).trans (by simp [go_sem])
     have lr : w.heap.size + 1 + 1 < w1.heap.size := by (try simp at s1); omega
     have n1 : ¬ w.heap.size + 1 + 1 = w1.heap.size := by omega
     have n2 : ¬ w1.heap.size = w.heap.size + 1 + 1 := by omega
     have n3 : ¬ w.heap.size = w1.heap.size := by omega
     have n4 : ¬ w1.heap.size = w.heap.size := by omega
     have l0 : w.heap.size < w1.heap.size := by omega
     have z0 : w1.cell? ⟨w.heap.size + 1 + 1 + 1, 2, none⟩ = some (.int .i64 1) := oldc hb1 ltT (by simp [go_sem])
     have l3 : w.heap.size + 1 + 1 + 1 < w1.heap.size := by (try simp at s1); omega
     have hB1 : Below w.heap.size w w1 := Below.trans (show Below w.heap.size w _ from bwT) (hb1.mono szT)
     clear hb1
     refine hK.out _ _ ?_ (fun hHeld => ?_)
     ·exact kpT
     clear hK K
     try simp only [Act.put, cA, cB, cC]
     refine wpAnyH_ready (rs := [6]) (by kernel_rfl) (by simp) ?_
     refine rdR (fun K hK => ?_) ?_
     ·go_simp
      refine hK.out _ _ ?_ (fun hHeld => ?_)
      ·exact kpT
      clear hK K
      try simp only [Act.put, cA, cB, cC]
      refine tkA 7 ?_
      try simp only [Act.put, cA, cB, cC]
      refine wpAnyH_ready (rs := [8]) (by kernel_rfl) (by simp) ?_
      refine rdR (fun K hK => ?_) ?_
      ·go_simp
       refine hK.out _ _ ?_ (fun hHeld => ?_)
       ·exact kpT
       clear hK K
       try simp only [Act.put, cA, cB, cC]
       refine wpAnyH_done (by kernel_rfl) ?_ _
       go_wp2
       exact bodyPost_ret (v := .agg #[.int .i64 r1, .int .i64 1]) (by simp [results, Tryz.results94, go_sem, *]) rfl ⟨rfl, bwT⟩
      exact AllReadyH.nil
     exact AllReadyH.nil
    refine rdR (fun K hK => ?_) ?_
    ·go_simp
     refine hK.out _ _ ?_ (fun hHeld => ?_)
     ·exact kpT
     clear hK K
     try simp only [Act.put, cA, cB, cC]
     refine wpAnyH_ready (rs := [1]) (by kernel_rfl) (by simp) ?_
     refine rdR (fun K hK => ?_) ?_
     ·go_simp
      refine (pickI_any _ 3 4 (w.heap.size + 1) sex (by simp [go_sem]) r1 HR.out).mono ?_
      rintro e1 w1 ⟨rfl, hb1⟩
      have s1 := hb1.size
      have hS1 : w1.cell? ⟨w.heap.size, 1, none⟩ = some (.int .i64 2) := oldc hb1 ltT (by simp [go_sem])
      have r0 : w1.cell? ⟨w.heap.size + 1 + 1, 0, none⟩ = some (.int .i64 0) := oldc hb1 ltT (by simp [go_sem])
      have r2 : w1.cell? ⟨w.heap.size + 1 + 1, 1, none⟩ = some (.int .i64 0) := oldc hb1 ltT (by simp [go_sem])
      have rf : ∀ o, w1.frozen? ⟨w.heap.size + 1 + 1, o, none⟩ = false := fun o => (hb1.frozen (p := ⟨w.heap.size + 1 + 1, o, none⟩) ltT).trans (by simp [go_sem])
      have lr : w.heap.size + 1 + 1 < w1.heap.size := by (try simp at s1); omega
      have n1 : ¬ w.heap.size + 1 + 1 = w1.heap.size := by omega
      have n2 : ¬ w1.heap.size = w.heap.size + 1 + 1 := by omega
      have n3 : ¬ w.heap.size = w1.heap.size := by omega
      have n4 : ¬ w1.heap.size = w.heap.size := by omega
      have l0 : w.heap.size < w1.heap.size := by omega
      have z0 : w1.cell? ⟨w.heap.size + 1 + 1 + 1, 2, none⟩ = some (.int .i64 1) := oldc hb1 ltT (by simp [go_sem])
      have l3 : w.heap.size + 1 + 1 + 1 < w1.heap.size := by (try simp at s1); omega
      have hB1 : Below w.heap.size w w1 := Below.trans (show Below w.heap.size w _ from bwT) (hb1.mono szT)
      clear hb1
      refine hK.out _ _ ?_ (fun hHeld => ?_)
      ·exact kpT
      clear hK K
      try simp only [Act.put, cA, cB, cC]
      refine tkA 7 ?_
      try simp only [Act.put, cA, cB, cC]
      refine wpAnyH_ready (rs := [8]) (by kernel_rfl) (by simp) ?_
      refine rdR (fun K hK => ?_) ?_
      ·go_simp
       refine hK.out _ _ ?_ (fun hHeld => ?_)
       ·exact kpT
       clear hK K
       try simp only [Act.put, cA, cB, cC]
       refine wpAnyH_done (by kernel_rfl) ?_ _
       go_wp2
       exact bodyPost_ret (v := .agg #[.int .i64 r1, .int .i64 1]) (by simp [results, Tryz.results94, go_sem, *]) rfl ⟨rfl, bwT⟩
      exact AllReadyH.nil
     exact AllReadyH.nil
    exact AllReadyH.nil
   exact AllReadyH.nil
 ·simp [backSt] at hR
  obtain ⟨h1, h2⟩ := hR
  have HR := Lib.hid h1
  clear h1
  rcases age3 ha with rfl | rfl | rfl
  ·obtain rfl : r2 = 0 := by simpa using h2
   clear h2 hk ha
   go_enter Tryz.func94, Tryz.ntmps94
   go_upto_region 11 with fail
   refine wp_region_held_drew (S := (fun w' => w'.cell? ⟨w.heap.size, 1, none⟩ = some (.int .i64 0))) (by kernel_rfl) ?_ (fun hHeld => ?_)
   ·first | exact trivial | ((try dsimp only); go_keep)
   refine tkA 0 ?_
   try simp only [Act.put, cA, cB, cC]
   refine tkA 3 ?_
   try simp only [Act.put, cA, cB, cC]
   refine tkA 4 ?_
   try simp only [Act.put, cA, cB, cC]
   refine wpAnyH_ready (rs := [1, 2]) (by kernel_rfl) (by simp) ?_
   refine rdR (fun K hK => ?_) ?_
   ·go_simp
    refine (pickI_any _ 3 4 (w.heap.size + 1) sex (by simp [go_sem]) r1 HR.out).mono ?_
    rintro e1 w1 ⟨rfl, hb1⟩
    have s1 := hb1.size
    have hS1 : w1.cell? ⟨w.heap.size, 1, none⟩ = some (.int .i64 0) := oldc hb1 ltT (by simp [go_sem])
    have r0 : w1.cell? ⟨w.heap.size + 1 + 1, 0, none⟩ = some (.int .i64 0) := oldc hb1 ltT (by simp [go_sem])
    have r2 : w1.cell? ⟨w.heap.size + 1 + 1, 1, none⟩ = some (.int .i64 0) := oldc hb1 ltT (by simp [go_sem])
    have rf : ∀ o, w1.frozen? ⟨w.heap.size + 1 + 1, o, none⟩ = false := fun o => (hb1.frozen (p := ⟨w.heap.size + 1 + 1, o, none⟩) ltT).trans (by simp [go_sem])
    have lr : w.heap.size + 1 + 1 < w1.heap.size := by (try simp at s1); omega
    have n1 : ¬ w.heap.size + 1 + 1 = w1.heap.size := by omega
    have n2 : ¬ w1.heap.size = w.heap.size + 1 + 1 := by omega
    have n3 : ¬ w.heap.size = w1.heap.size := by omega
    have n4 : ¬ w1.heap.size = w.heap.size := by omega
    have l0 : w.heap.size < w1.heap.size := by omega
    have hB1 : Below w.heap.size w w1 := Below.trans (show Below w.heap.size w _ from bwT) (hb1.mono szT)
    clear hb1
    refine hK.out _ _ ?_ (fun hHeld => ?_)
    ·exact kpT
    clear hK K
    try simp only [Act.put, cA, cB, cC]
    refine wpAnyH_ready (rs := [2]) (by kernel_rfl) (by simp) ?_
    refine rdR (fun K hK => ?_) ?_
    ·go_simp
     refine hK.out _ _ ?_ (fun hHeld => ?_)
     ·exact kpT
     clear hK K
     try simp only [Act.put, cA, cB, cC]
     refine tkA 5 ?_
     try simp only [Act.put, cA, cB, cC]
     refine wpAnyH_ready (rs := [6]) (by kernel_rfl) (by simp) ?_
     refine rdR (fun K hK => ?_) ?_
     ·go_simp
      refine hK.out _ _ ?_ (fun hHeld => ?_)
      ·exact kpT
      clear hK K
      try simp only [Act.put, cA, cB, cC]
      refine tkA 7 ?_
      try simp only [Act.put, cA, cB, cC]
      refine wpAnyH_ready (rs := [8]) (by kernel_rfl) (by simp) ?_
      refine rdR (fun K hK => ?_) ?_
      ·go_simp
       refine hK.out _ _ ?_ (fun hHeld => ?_)
       ·exact kpT
       clear hK K
       try simp only [Act.put, cA, cB, cC]
       refine wpAnyH_done (by kernel_rfl) ?_ _
       go_wp2
       exact bodyPost_ret (v := .agg #[.int .i64 r1, .int .i64 0]) (by simp [results, Tryz.results94, go_sem, *]) rfl ⟨rfl, bwT⟩
      exact AllReadyH.nil
     exact AllReadyH.nil
    exact AllReadyH.nil
   refine rdR (fun K hK => ?_) ?_
   ·go_simp
    refine hK.out _ _ ?_ (fun hHeld => ?_)
    ·exact kpT
    clear hK K
    try simp only [Act.put, cA, cB, cC]
    refine tkA 5 ?_
    try simp only [Act.put, cA, cB, cC]
    refine wpAnyH_ready (rs := [1, 6]) (by kernel_rfl) (by simp) ?_
    refine rdR (fun K hK => ?_) ?_
    ·go_simp
     refine (pickI_any _ 3 4 (w.heap.size + 1) sex (by simp [go_sem]) r1 HR.out).mono ?_
     rintro e1 w1 ⟨rfl, hb1⟩
     have s1 := hb1.size
     have hS1 : w1.cell? ⟨w.heap.size, 1, none⟩ = some (.int .i64 0) := oldc hb1 ltT (by simp [go_sem])
     have r0 : w1.cell? ⟨w.heap.size + 1 + 1, 0, none⟩ = some (.int .i64 0) := oldc hb1 ltT (by simp [go_sem])
     have r2 : w1.cell? ⟨w.heap.size + 1 + 1, 1, none⟩ = some (.int .i64 0) := oldc hb1 ltT (by simp [go_sem])
     have rf : ∀ o, w1.frozen? ⟨w.heap.size + 1 + 1, o, none⟩ = false := fun o => (hb1.frozen (p := ⟨w.heap.size + 1 + 1, o, none⟩) ltT).trans (by simp [go_sem])
     have lr : w.heap.size + 1 + 1 < w1.heap.size := by (try simp at s1); omega
     have n1 : ¬ w.heap.size + 1 + 1 = w1.heap.size := by omega
     have n2 : ¬ w1.heap.size = w.heap.size + 1 + 1 := by omega
     have n3 : ¬ w.heap.size = w1.heap.size := by omega
     have n4 : ¬ w1.heap.size = w.heap.size := by omega
     have l0 : w.heap.size < w1.heap.size := by omega
     have z0 : w1.cell? ⟨w.heap.size + 1 + 1 + 1, 0, none⟩ = some (.int .i64 0) := oldc hb1 ltT (by simp [go_sem])
     have l3 : w.heap.size + 1 + 1 + 1 < w1.heap.size := by (try simp at s1); omega
     have hB1 : Below w.heap.size w w1 := Below.trans (show Below w.heap.size w _ from bwT) (hb1.mono szT)
     clear hb1
     refine hK.out _ _ ?_ (fun hHeld => ?_)
     ·exact kpT
     clear hK K
     try simp only [Act.put, cA, cB, cC]
     refine wpAnyH_ready (rs := [6]) (by kernel_rfl) (by simp) ?_
     refine rdR (fun K hK => ?_) ?_
     ·go_simp
      refine hK.out _ _ ?_ (fun hHeld => ?_)
      ·exact kpT
      clear hK K
      try simp only [Act.put, cA, cB, cC]
      refine tkA 7 ?_
      try simp only [Act.put, cA, cB, cC]
      refine wpAnyH_ready (rs := [8]) (by kernel_rfl) (by simp) ?_
      refine rdR (fun K hK => ?_) ?_
      ·go_simp
       refine hK.out _ _ ?_ (fun hHeld => ?_)
       ·exact kpT
       clear hK K
       try simp only [Act.put, cA, cB, cC]
       refine wpAnyH_done (by kernel_rfl) ?_ _
       go_wp2
       exact bodyPost_ret (v := .agg #[.int .i64 r1, .int .i64 0]) (by simp [results, Tryz.results94, go_sem, *]) rfl ⟨rfl, bwT⟩
      exact AllReadyH.nil
     exact AllReadyH.nil
    refine rdR (fun K hK => ?_) ?_
    ·go_simp
     refine hK.out _ _ ?_ (fun hHeld => ?_)
     ·exact kpT
     clear hK K
     try simp only [Act.put, cA, cB, cC]
     refine wpAnyH_ready (rs := [1]) (by kernel_rfl) (by simp) ?_
     refine rdR (fun K hK => ?_) ?_
     ·go_simp
      refine (pickI_any _ 3 4 (w.heap.size + 1) sex (by simp [go_sem]) r1 HR.out).mono ?_
      rintro e1 w1 ⟨rfl, hb1⟩
      have s1 := hb1.size
      have hS1 : w1.cell? ⟨w.heap.size, 1, none⟩ = some (.int .i64 0) := oldc hb1 ltT (by simp [go_sem])
      have r0 : w1.cell? ⟨w.heap.size + 1 + 1, 0, none⟩ = some (.int .i64 0) := oldc hb1 ltT (by simp [go_sem])
      have r2 : w1.cell? ⟨w.heap.size + 1 + 1, 1, none⟩ = some (.int .i64 0) := oldc hb1 ltT (by simp [go_sem])
      have rf : ∀ o, w1.frozen? ⟨w.heap.size + 1 + 1, o, none⟩ = false := fun o => (hb1.frozen (p := ⟨w.heap.size + 1 + 1, o, none⟩) ltT).trans (by simp [go_sem])
      have lr : w.heap.size + 1 + 1 < w1.heap.size := by (try simp at s1); omega
      have n1 : ¬ w.heap.size + 1 + 1 = w1.heap.size := by omega
      have n2 : ¬ w1.heap.size = w.heap.size + 1 + 1 := by omega
      have n3 : ¬ w.heap.size = w1.heap.size := by omega
      have n4 : ¬ w1.heap.size = w.heap.size := by omega
      have l0 : w.heap.size < w1.heap.size := by omega
      have z0 : w1.cell? ⟨w.heap.size + 1 + 1 + 1, 0, none⟩ = some (.int .i64 0) := oldc hb1 ltT (by simp [go_sem])
      have l3 : w.heap.size + 1 + 1 + 1 < w1.heap.size := by (try simp at s1); omega
      have hB1 : Below w.heap.size w w1 := Below.trans (show Below w.heap.size w _ from bwT) (hb1.mono szT)
      clear hb1
      refine hK.out _ _ ?_ (fun hHeld => ?_)
      ·exact kpT
      clear hK K
      try simp only [Act.put, cA, cB, cC]
      refine tkA 7 ?_
      try simp only [Act.put, cA, cB, cC]
      refine wpAnyH_ready (rs := [8]) (by kernel_rfl) (by simp) ?_
      refine rdR (fun K hK => ?_) ?_
      ·go_simp
       refine hK.out _ _ ?_ (fun hHeld => ?_)
       ·exact kpT
       clear hK K
       try simp only [Act.put, cA, cB, cC]
       refine wpAnyH_done (by kernel_rfl) ?_ _
       go_wp2
       exact bodyPost_ret (v := .agg #[.int .i64 r1, .int .i64 0]) (by simp [results, Tryz.results94, go_sem, *]) rfl ⟨rfl, bwT⟩
      exact AllReadyH.nil
     exact AllReadyH.nil
    exact AllReadyH.nil
   exact AllReadyH.nil
  ·obtain rfl : r2 = 2 := by simpa using h2
   clear h2 hk ha
   go_enter Tryz.func94, Tryz.ntmps94
   go_upto_region 11 with fail
   refine wp_region_held_drew (S := (fun w' => w'.cell? ⟨w.heap.size, 1, none⟩ = some (.int .i64 1))) (by kernel_rfl) ?_ (fun hHeld => ?_)
   ·first | exact trivial | ((try dsimp only); go_keep)
   refine tkA 0 ?_
   try simp only [Act.put, cA, cB, cC]
   refine tkA 3 ?_
   try simp only [Act.put, cA, cB, cC]
   refine tkA 4 ?_
   try simp only [Act.put, cA, cB, cC]
   refine wpAnyH_ready (rs := [1, 2]) (by kernel_rfl) (by simp) ?_
   refine rdR (fun K hK => ?_) ?_
   ·go_simp
    refine (pickI_any _ 3 4 (w.heap.size + 1) sex (by simp [go_sem]) r1 HR.out).mono ?_
    rintro e1 w1 ⟨rfl, hb1⟩
    have s1 := hb1.size
    have hS1 : w1.cell? ⟨w.heap.size, 1, none⟩ = some (.int .i64 1) := oldc hb1 ltT (by simp [go_sem])
    have r0 : w1.cell? ⟨w.heap.size + 1 + 1, 0, none⟩ = some (.int .i64 0) := oldc hb1 ltT (by simp [go_sem])
    have r2 : w1.cell? ⟨w.heap.size + 1 + 1, 1, none⟩ = some (.int .i64 0) := oldc hb1 ltT (by simp [go_sem])
    have rf : ∀ o, w1.frozen? ⟨w.heap.size + 1 + 1, o, none⟩ = false := fun o => (hb1.frozen (p := ⟨w.heap.size + 1 + 1, o, none⟩) ltT).trans (by simp [go_sem])
    have lr : w.heap.size + 1 + 1 < w1.heap.size := by (try simp at s1); omega
    have n1 : ¬ w.heap.size + 1 + 1 = w1.heap.size := by omega
    have n2 : ¬ w1.heap.size = w.heap.size + 1 + 1 := by omega
    have n3 : ¬ w.heap.size = w1.heap.size := by omega
    have n4 : ¬ w1.heap.size = w.heap.size := by omega
    have l0 : w.heap.size < w1.heap.size := by omega
    have hB1 : Below w.heap.size w w1 := Below.trans (show Below w.heap.size w _ from bwT) (hb1.mono szT)
    clear hb1
    refine hK.out _ _ ?_ (fun hHeld => ?_)
    ·exact kpT
    clear hK K
    try simp only [Act.put, cA, cB, cC]
    refine wpAnyH_ready (rs := [2]) (by kernel_rfl) (by simp) ?_
    refine rdR (fun K hK => ?_) ?_
    ·go_simp
     refine hK.out _ _ ?_ (fun hHeld => ?_)
     ·exact kpT
     clear hK K
     try simp only [Act.put, cA, cB, cC]
     refine tkA 5 ?_
     try simp only [Act.put, cA, cB, cC]
     refine wpAnyH_ready (rs := [6]) (by kernel_rfl) (by simp) ?_
     refine rdR (fun K hK => ?_) ?_
     ·go_simp
      refine hK.out _ _ ?_ (fun hHeld => ?_)
      ·exact kpT
      clear hK K
      try simp only [Act.put, cA, cB, cC]
      refine tkA 7 ?_
      try simp only [Act.put, cA, cB, cC]
      refine wpAnyH_ready (rs := [8]) (by kernel_rfl) (by simp) ?_
      refine rdR (fun K hK => ?_) ?_
      ·go_simp
       refine hK.out _ _ ?_ (fun hHeld => ?_)
       ·exact kpT
       clear hK K
       try simp only [Act.put, cA, cB, cC]
       refine wpAnyH_done (by kernel_rfl) ?_ _
       go_wp2
       exact bodyPost_ret (v := .agg #[.int .i64 r1, .int .i64 2]) (by simp [results, Tryz.results94, go_sem, *]) rfl ⟨rfl, bwT⟩
      exact AllReadyH.nil
     exact AllReadyH.nil
    exact AllReadyH.nil
   refine rdR (fun K hK => ?_) ?_
   ·go_simp
    refine hK.out _ _ ?_ (fun hHeld => ?_)
    ·exact kpT
    clear hK K
    try simp only [Act.put, cA, cB, cC]
    refine tkA 5 ?_
    try simp only [Act.put, cA, cB, cC]
    refine wpAnyH_ready (rs := [1, 6]) (by kernel_rfl) (by simp) ?_
    refine rdR (fun K hK => ?_) ?_
    ·go_simp
     refine (pickI_any _ 3 4 (w.heap.size + 1) sex (by simp [go_sem]) r1 HR.out).mono ?_
     rintro e1 w1 ⟨rfl, hb1⟩
     have s1 := hb1.size
     have hS1 : w1.cell? ⟨w.heap.size, 1, none⟩ = some (.int .i64 1) := oldc hb1 ltT (by simp [go_sem])
     have r0 : w1.cell? ⟨w.heap.size + 1 + 1, 0, none⟩ = some (.int .i64 0) := oldc hb1 ltT (by simp [go_sem])
     have r2 : w1.cell? ⟨w.heap.size + 1 + 1, 1, none⟩ = some (.int .i64 0) := oldc hb1 ltT (by simp [go_sem])
     have rf : ∀ o, w1.frozen? ⟨w.heap.size + 1 + 1, o, none⟩ = false := fun o => (hb1.frozen (p := ⟨w.heap.size + 1 + 1, o, none⟩) ltT).trans (by simp [go_sem])
     have lr : w.heap.size + 1 + 1 < w1.heap.size := by (try simp at s1); omega
     have n1 : ¬ w.heap.size + 1 + 1 = w1.heap.size := by omega
     have n2 : ¬ w1.heap.size = w.heap.size + 1 + 1 := by omega
     have n3 : ¬ w.heap.size = w1.heap.size := by omega
     have n4 : ¬ w1.heap.size = w.heap.size := by omega
     have l0 : w.heap.size < w1.heap.size := by omega
     have z0 : w1.cell? ⟨w.heap.size + 1 + 1 + 1, 1, none⟩ = some (.int .i64 2) := oldc hb1 ltT (by simp [go_sem])
     have l3 : w.heap.size + 1 + 1 + 1 < w1.heap.size := by (try simp at s1); omega
     have hB1 : Below w.heap.size w w1 := Below.trans (show Below w.heap.size w _ from bwT) (hb1.mono szT)
     clear hb1
     refine hK.out _ _ ?_ (fun hHeld => ?_)
     ·exact kpT
     clear hK K
     try simp only [Act.put, cA, cB, cC]
     refine wpAnyH_ready (rs := [6]) (by kernel_rfl) (by simp) ?_
     refine rdR (fun K hK => ?_) ?_
     ·go_simp
      refine hK.out _ _ ?_ (fun hHeld => ?_)
      ·exact kpT
      clear hK K
      try simp only [Act.put, cA, cB, cC]
      refine tkA 7 ?_
      try simp only [Act.put, cA, cB, cC]
      refine wpAnyH_ready (rs := [8]) (by kernel_rfl) (by simp) ?_
      refine rdR (fun K hK => ?_) ?_
      ·go_simp
       refine hK.out _ _ ?_ (fun hHeld => ?_)
       ·exact kpT
       clear hK K
       try simp only [Act.put, cA, cB, cC]
       refine wpAnyH_done (by kernel_rfl) ?_ _
       go_wp2
       exact bodyPost_ret (v := .agg #[.int .i64 r1, .int .i64 2]) (by simp [results, Tryz.results94, go_sem, *]) rfl ⟨rfl, bwT⟩
      exact AllReadyH.nil
     exact AllReadyH.nil
    refine rdR (fun K hK => ?_) ?_
    ·go_simp
     refine hK.out _ _ ?_ (fun hHeld => ?_)
     ·exact kpT
     clear hK K
     try simp only [Act.put, cA, cB, cC]
     refine wpAnyH_ready (rs := [1]) (by kernel_rfl) (by simp) ?_
     refine rdR (fun K hK => ?_) ?_
     ·go_simp
      refine (pickI_any _ 3 4 (w.heap.size + 1) sex (by simp [go_sem]) r1 HR.out).mono ?_
      rintro e1 w1 ⟨rfl, hb1⟩
      have s1 := hb1.size
      have hS1 : w1.cell? ⟨w.heap.size, 1, none⟩ = some (.int .i64 1) := oldc hb1 ltT (by simp [go_sem])
      have r0 : w1.cell? ⟨w.heap.size + 1 + 1, 0, none⟩ = some (.int .i64 0) := oldc hb1 ltT (by simp [go_sem])
      have r2 : w1.cell? ⟨w.heap.size + 1 + 1, 1, none⟩ = some (.int .i64 0) := oldc hb1 ltT (by simp [go_sem])
      have rf : ∀ o, w1.frozen? ⟨w.heap.size + 1 + 1, o, none⟩ = false := fun o => (hb1.frozen (p := ⟨w.heap.size + 1 + 1, o, none⟩) ltT).trans (by simp [go_sem])
      have lr : w.heap.size + 1 + 1 < w1.heap.size := by (try simp at s1); omega
      have n1 : ¬ w.heap.size + 1 + 1 = w1.heap.size := by omega
      have n2 : ¬ w1.heap.size = w.heap.size + 1 + 1 := by omega
      have n3 : ¬ w.heap.size = w1.heap.size := by omega
      have n4 : ¬ w1.heap.size = w.heap.size := by omega
      have l0 : w.heap.size < w1.heap.size := by omega
      have z0 : w1.cell? ⟨w.heap.size + 1 + 1 + 1, 1, none⟩ = some (.int .i64 2) := oldc hb1 ltT (by simp [go_sem])
      have l3 : w.heap.size + 1 + 1 + 1 < w1.heap.size := by (try simp at s1); omega
      have hB1 : Below w.heap.size w w1 := Below.trans (show Below w.heap.size w _ from bwT) (hb1.mono szT)
      clear hb1
      refine hK.out _ _ ?_ (fun hHeld => ?_)
      ·exact kpT
      clear hK K
      try simp only [Act.put, cA, cB, cC]
      refine tkA 7 ?_
      try simp only [Act.put, cA, cB, cC]
      refine wpAnyH_ready (rs := [8]) (by kernel_rfl) (by simp) ?_
      refine rdR (fun K hK => ?_) ?_
      ·go_simp
       refine hK.out _ _ ?_ (fun hHeld => ?_)
       ·exact kpT
       clear hK K
       try simp only [Act.put, cA, cB, cC]
       refine wpAnyH_done (by kernel_rfl) ?_ _
       go_wp2
       exact bodyPost_ret (v := .agg #[.int .i64 r1, .int .i64 2]) (by simp [results, Tryz.results94, go_sem, *]) rfl ⟨rfl, bwT⟩
      exact AllReadyH.nil
     exact AllReadyH.nil
    exact AllReadyH.nil
   exact AllReadyH.nil
  ·obtain rfl : r2 = 1 := by simpa using h2
   clear h2 hk ha
   go_enter Tryz.func94, Tryz.ntmps94
   go_upto_region 11 with fail
   refine wp_region_held_drew (S := (fun w' => w'.cell? ⟨w.heap.size, 1, none⟩ = some (.int .i64 2))) (by kernel_rfl) ?_ (fun hHeld => ?_)
   ·first | exact trivial | ((try dsimp only); go_keep)
   refine tkA 0 ?_
   try simp only [Act.put, cA, cB, cC]
   refine tkA 3 ?_
   try simp only [Act.put, cA, cB, cC]
   refine tkA 4 ?_
   try simp only [Act.put, cA, cB, cC]
   refine wpAnyH_ready (rs := [1, 2]) (by kernel_rfl) (by simp) ?_
   refine rdR (fun K hK => ?_) ?_
   ·go_simp
    refine (pickI_any _ 3 4 (w.heap.size + 1) sex (by simp [go_sem]) r1 HR.out).mono ?_
    rintro e1 w1 ⟨rfl, hb1⟩
    have s1 := hb1.size
    have hS1 : w1.cell? ⟨w.heap.size, 1, none⟩ = some (.int .i64 2) := oldc hb1 ltT (by simp [go_sem])
    have r0 : w1.cell? ⟨w.heap.size + 1 + 1, 0, none⟩ = some (.int .i64 0) := oldc hb1 ltT (by simp [go_sem])
    have r2 : w1.cell? ⟨w.heap.size + 1 + 1, 1, none⟩ = some (.int .i64 0) := oldc hb1 ltT (by simp [go_sem])
    have rf : ∀ o, w1.frozen? ⟨w.heap.size + 1 + 1, o, none⟩ = false := fun o => (hb1.frozen (p := ⟨w.heap.size + 1 + 1, o, none⟩) ltT).trans (by simp [go_sem])
    have lr : w.heap.size + 1 + 1 < w1.heap.size := by (try simp at s1); omega
    have n1 : ¬ w.heap.size + 1 + 1 = w1.heap.size := by omega
    have n2 : ¬ w1.heap.size = w.heap.size + 1 + 1 := by omega
    have n3 : ¬ w.heap.size = w1.heap.size := by omega
    have n4 : ¬ w1.heap.size = w.heap.size := by omega
    have l0 : w.heap.size < w1.heap.size := by omega
    have hB1 : Below w.heap.size w w1 := Below.trans (show Below w.heap.size w _ from bwT) (hb1.mono szT)
    clear hb1
    refine hK.out _ _ ?_ (fun hHeld => ?_)
    ·exact kpT
    clear hK K
    try simp only [Act.put, cA, cB, cC]
    refine wpAnyH_ready (rs := [2]) (by kernel_rfl) (by simp) ?_
    refine rdR (fun K hK => ?_) ?_
    ·go_simp
     refine hK.out _ _ ?_ (fun hHeld => ?_)
     ·exact kpT
     clear hK K
     try simp only [Act.put, cA, cB, cC]
     refine tkA 5 ?_
     try simp only [Act.put, cA, cB, cC]
     refine wpAnyH_ready (rs := [6]) (by kernel_rfl) (by simp) ?_
     refine rdR (fun K hK => ?_) ?_
     ·go_simp
      refine hK.out _ _ ?_ (fun hHeld => ?_)
      ·exact kpT
      clear hK K
      try simp only [Act.put, cA, cB, cC]
      refine tkA 7 ?_
      try simp only [Act.put, cA, cB, cC]
      refine wpAnyH_ready (rs := [8]) (by kernel_rfl) (by simp) ?_
      refine rdR (fun K hK => ?_) ?_
      ·go_simp
       refine hK.out _ _ ?_ (fun hHeld => ?_)
       ·exact kpT
       clear hK K
       try simp only [Act.put, cA, cB, cC]
       refine wpAnyH_done (by kernel_rfl) ?_ _
       go_wp2
       exact bodyPost_ret (v := .agg #[.int .i64 r1, .int .i64 1]) (by simp [results, Tryz.results94, go_sem, *]) rfl ⟨rfl, bwT⟩
      exact AllReadyH.nil
     exact AllReadyH.nil
    exact AllReadyH.nil
   refine rdR (fun K hK => ?_) ?_
   ·go_simp
    refine hK.out _ _ ?_ (fun hHeld => ?_)
    ·exact kpT
    clear hK K
    try simp only [Act.put, cA, cB, cC]
    refine tkA 5 ?_
    try simp only [Act.put, cA, cB, cC]
    refine wpAnyH_ready (rs := [1, 6]) (by kernel_rfl) (by simp) ?_
    refine rdR (fun K hK => ?_) ?_
    ·go_simp
     refine (pickI_any _ 3 4 (w.heap.size + 1) sex (by simp [go_sem]) r1 HR.out).mono ?_
     rintro e1 w1 ⟨rfl, hb1⟩
     have s1 := hb1.size
     have hS1 : w1.cell? ⟨w.heap.size, 1, none⟩ = some (.int .i64 2) := oldc hb1 ltT (by simp [go_sem])
     have r0 : w1.cell? ⟨w.heap.size + 1 + 1, 0, none⟩ = some (.int .i64 0) := oldc hb1 ltT (by simp [go_sem])
     have r2 : w1.cell? ⟨w.heap.size + 1 + 1, 1, none⟩ = some (.int .i64 0) := oldc hb1 ltT (by simp [go_sem])
     have rf : ∀ o, w1.frozen? ⟨w.heap.size + 1 + 1, o, none⟩ = false := fun o => (hb1.frozen (p := ⟨w.heap.size + 1 + 1, o, none⟩) ltT).trans (by simp [go_sem])
     have lr : w.heap.size + 1 + 1 < w1.heap.size := by (try simp at s1); omega
     have n1 : ¬ w.heap.size + 1 + 1 = w1.heap.size := by omega
     have n2 : ¬ w1.heap.size = w.heap.size + 1 + 1 := by omega
     have n3 : ¬ w.heap.size = w1.heap.size := by omega
     have n4 : ¬ w1.heap.size = w.heap.size := by omega
     have l0 : w.heap.size < w1.heap.size := by omega
     have z0 : w1.cell? ⟨w.heap.size + 1 + 1 + 1, 2, none⟩ = some (.int .i64 1) := oldc hb1 ltT (by simp [go_sem])
     have l3 : w.heap.size + 1 + 1 + 1 < w1.heap.size := by (try simp at s1); omega
     have hB1 : Below w.heap.size w w1 := Below.trans (show Below w.heap.size w _ from bwT) (hb1.mono szT)
     clear hb1
     refine hK.out _ _ ?_ (fun hHeld => ?_)
     ·exact kpT
     clear hK K
     try simp only [Act.put, cA, cB, cC]
     refine wpAnyH_ready (rs := [6]) (by kernel_rfl) (by simp) ?_
     refine rdR (fun K hK => ?_) ?_
     ·go_simp
      refine hK.out _ _ ?_ (fun hHeld => ?_)
      ·exact kpT
      clear hK K
      try simp only [Act.put, cA, cB, cC]
      refine tkA 7 ?_
      try simp only [Act.put, cA, cB, cC]
      refine wpAnyH_ready (rs := [8]) (by kernel_rfl) (by simp) ?_
      refine rdR (fun K hK => ?_) ?_
      ·go_simp
       refine hK.out _ _ ?_ (fun hHeld => ?_)
       ·exact kpT
       clear hK K
       try simp only [Act.put, cA, cB, cC]
       refine wpAnyH_done (by kernel_rfl) ?_ _
       go_wp2
       exact bodyPost_ret (v := .agg #[.int .i64 r1, .int .i64 1]) (by simp [results, Tryz.results94, go_sem, *]) rfl ⟨rfl, bwT⟩
      exact AllReadyH.nil
     exact AllReadyH.nil
    refine rdR (fun K hK => ?_) ?_
    ·go_simp
     refine hK.out _ _ ?_ (fun hHeld => ?_)
     ·exact kpT
     clear hK K
     try simp only [Act.put, cA, cB, cC]
     refine wpAnyH_ready (rs := [1]) (by kernel_rfl) (by simp) ?_
     refine rdR (fun K hK => ?_) ?_
     ·go_simp
      refine (pickI_any _ 3 4 (w.heap.size + 1) sex (by simp [go_sem]) r1 HR.out).mono ?_
      rintro e1 w1 ⟨rfl, hb1⟩
      have s1 := hb1.size
      have hS1 : w1.cell? ⟨w.heap.size, 1, none⟩ = some (.int .i64 2) := oldc hb1 ltT (by simp [go_sem])
      have r0 : w1.cell? ⟨w.heap.size + 1 + 1, 0, none⟩ = some (.int .i64 0) := oldc hb1 ltT (by simp [go_sem])
      have r2 : w1.cell? ⟨w.heap.size + 1 + 1, 1, none⟩ = some (.int .i64 0) := oldc hb1 ltT (by simp [go_sem])
      have rf : ∀ o, w1.frozen? ⟨w.heap.size + 1 + 1, o, none⟩ = false := fun o => (hb1.frozen (p := ⟨w.heap.size + 1 + 1, o, none⟩) ltT).trans (by simp [go_sem])
      have lr : w.heap.size + 1 + 1 < w1.heap.size := by (try simp at s1); omega
      have n1 : ¬ w.heap.size + 1 + 1 = w1.heap.size := by omega
      have n2 : ¬ w1.heap.size = w.heap.size + 1 + 1 := by omega
      have n3 : ¬ w.heap.size = w1.heap.size := by omega
      have n4 : ¬ w1.heap.size = w.heap.size := by omega
      have l0 : w.heap.size < w1.heap.size := by omega
      have z0 : w1.cell? ⟨w.heap.size + 1 + 1 + 1, 2, none⟩ = some (.int .i64 1) := oldc hb1 ltT (by simp [go_sem])
      have l3 : w.heap.size + 1 + 1 + 1 < w1.heap.size := by (try simp at s1); omega
      have hB1 : Below w.heap.size w w1 := Below.trans (show Below w.heap.size w _ from bwT) (hb1.mono szT)
      clear hb1
      refine hK.out _ _ ?_ (fun hHeld => ?_)
      ·exact kpT
      clear hK K
      try simp only [Act.put, cA, cB, cC]
      refine tkA 7 ?_
      try simp only [Act.put, cA, cB, cC]
      refine wpAnyH_ready (rs := [8]) (by kernel_rfl) (by simp) ?_
      refine rdR (fun K hK => ?_) ?_
      ·go_simp
       refine hK.out _ _ ?_ (fun hHeld => ?_)
       ·exact kpT
       clear hK K
       try simp only [Act.put, cA, cB, cC]
       refine wpAnyH_done (by kernel_rfl) ?_ _
       go_wp2
       exact bodyPost_ret (v := .agg #[.int .i64 r1, .int .i64 1]) (by simp [results, Tryz.results94, go_sem, *]) rfl ⟨rfl, bwT⟩
      exact AllReadyH.nil
     exact AllReadyH.nil
    exact AllReadyH.nil
   exact AllReadyH.nil
 ·simp [backSt] at hR
  obtain ⟨h1, rfl⟩ := hR
  have HR := Lib.hid h1
  clear h1
  go_enter Tryz.func94, Tryz.ntmps94
  go_wp2_with fail
  refine (pickI_any _ 1 2 (w.heap.size + 1) sex (by simp [go_sem]) r1 HR.out).mono ?_
  rintro e5 w5 ⟨rfl, hbw5⟩
  have hpw5 : Below w.heap.size w w5 := Below.after bwT hbw5 szT
  have sw5 := hpw5.size
  have hBw5 : Below w.heap.size w w5 := hpw5
  have l_s : w.heap.size < w5.heap.size := by have := hbw5.size; simp at this; omega
  have q_s0 : w5.cell? ⟨w.heap.size, 0, none⟩ = some (.int .i64 5) := oldc hbw5 ltT (by simp [go_sem])
  have q_s1 : w5.cell? ⟨w.heap.size, 1, none⟩ = some (.int .i64 ag) := oldc hbw5 ltT (by simp [go_sem])
  have l_x : w.heap.size + 1 < w5.heap.size := by have := hbw5.size; simp at this; omega
  have q_x0 : w5.cell? ⟨w.heap.size + 1, 0, none⟩ = some (.int .i64 sex) := oldc hbw5 ltT (by simp [go_sem])
  have l_r : w.heap.size + 1 + 1 < w5.heap.size := by have := hbw5.size; simp at this; omega
  have q_r0 : w5.cell? ⟨w.heap.size + 1 + 1, 0, none⟩ = some (.int .i64 0) := oldc hbw5 ltT (by simp [go_sem])
  have q_r1 : w5.cell? ⟨w.heap.size + 1 + 1, 1, none⟩ = some (.int .i64 0) := oldc hbw5 ltT (by simp [go_sem])
  have f_r : ∀ o, w5.frozen? ⟨w.heap.size + 1 + 1, o, none⟩ = false := fun o => (hbw5.frozen (p := ⟨w.heap.size + 1 + 1, o, none⟩) ltT).trans (by simp [go_sem])
  clear hbw5 hpw5
  go_wp2
  exact bodyPost_ret (v := .agg #[.int .i64 r1, .int .i64 0]) (by simp [results, Tryz.results94, go_sem, *]) rfl ⟨rfl, bwT⟩
 ·simp [backSt] at hR
  obtain ⟨h1, rfl⟩ := hR
  have HR := Lib.hid h1
  clear h1
  go_enter Tryz.func94, Tryz.ntmps94
  go_wp2_with fail
  refine (pickI_any _ 1 2 (w.heap.size + 1) sex (by simp [go_sem]) r1 HR.out).mono ?_
  rintro e6 w6 ⟨rfl, hbw6⟩
  have hpw6 : Below w.heap.size w w6 := Below.after bwT hbw6 szT
  have sw6 := hpw6.size
  have hBw6 : Below w.heap.size w w6 := hpw6
  have l_s : w.heap.size < w6.heap.size := by have := hbw6.size; simp at this; omega
  have q_s0 : w6.cell? ⟨w.heap.size, 0, none⟩ = some (.int .i64 6) := oldc hbw6 ltT (by simp [go_sem])
  have q_s1 : w6.cell? ⟨w.heap.size, 1, none⟩ = some (.int .i64 ag) := oldc hbw6 ltT (by simp [go_sem])
  have l_x : w.heap.size + 1 < w6.heap.size := by have := hbw6.size; simp at this; omega
  have q_x0 : w6.cell? ⟨w.heap.size + 1, 0, none⟩ = some (.int .i64 sex) := oldc hbw6 ltT (by simp [go_sem])
  have l_r : w.heap.size + 1 + 1 < w6.heap.size := by have := hbw6.size; simp at this; omega
  have q_r0 : w6.cell? ⟨w.heap.size + 1 + 1, 0, none⟩ = some (.int .i64 0) := oldc hbw6 ltT (by simp [go_sem])
  have q_r1 : w6.cell? ⟨w.heap.size + 1 + 1, 1, none⟩ = some (.int .i64 0) := oldc hbw6 ltT (by simp [go_sem])
  have f_r : ∀ o, w6.frozen? ⟨w.heap.size + 1 + 1, o, none⟩ = false := fun o => (hbw6.frozen (p := ⟨w.heap.size + 1 + 1, o, none⟩) ltT).trans (by simp [go_sem])
  clear hbw6 hpw6
  go_wp2
  exact bodyPost_ret (v := .agg #[.int .i64 r1, .int .i64 0]) (by simp [results, Tryz.results94, go_sem, *]) rfl ⟨rfl, bwT⟩
 ·simp [backSt] at hR
  obtain ⟨rfl, rfl⟩ := hR
  go_enter Tryz.func94, Tryz.ntmps94
  go_wp2
  exact bodyPost_ret (v := .agg #[.int .i64 8, .int .i64 0]) (by simp [results, Tryz.results94, go_sem, *]) rfl ⟨rfl, bwT⟩
 ·simp [backSt] at hR
  obtain ⟨rfl, rfl⟩ := hR
  go_enter Tryz.func94, Tryz.ntmps94
  go_wp2
  exact bodyPost_ret (v := .agg #[.int .i64 7, .int .i64 0]) (by simp [results, Tryz.results94, go_sem, *]) rfl ⟨rfl, bwT⟩
set_option maxRecDepth 20000 in
set_option maxHeartbeats 8000000 in
theorem reverseI_any {z : Bool} {lo hi : Nat} (w : World) (a b : Value) (t : Kin) (h : Rd z lo hi w [a, b] t) : Calls Tryz.prog 50 #[.agg #[a, b]] w (PostKB w (revX t) (revV t)) := by
 obtain ⟨V, hV⟩ : ∃ V, V = revV t := ⟨_, rfl⟩
 obtain ⟨X, hX⟩ : ∃ X, X = revX t := ⟨_, rfl⟩
 rw [← hV, ← hX]
 have HV := Lib.hid hV
 have HX := Lib.hid (show X = if V = true then revK t else (0, []) by rw [hX, hV]; rfl)
 clear hV hX
 have HT := Lib.hid h
 obtain ⟨rfl, hti, hb⟩ := h.kin
 obtain ⟨sao, sn, scap, rfl, hsn, hsc, hsm, -⟩ := hb.shape
 subst hsn
 unfold maxLen at hsm
 have HB := Lib.hid hb
 obtain ⟨r1, hlet_r1⟩ : ∃ r, r = isKin t := ⟨_, rfl⟩
 have H1 := Lib.hid hlet_r1
 clear hlet_r1
 clear h hb
 go_enter Tryz.func50, Tryz.ntmps50
 have HE := Lib.hid (show revV t = (isKin t && decide (t.2 = [] ∨ egoOf t ≠ 0)) from rfl)
 go_upto_region 1 with fail
 go_cut [19] (fun s19 wx => s19 = .bool (!V) ∧ wx.cell? ⟨w.heap.size, 0, none⟩ = some (.int .i64 t.1) ∧ wx.cell? ⟨w.heap.size, 1, none⟩ = some (.slice sao t.2.length scap) ∧ wx.cell? ⟨w.heap.size + 1, 0, none⟩ = some (.int .i64 0) ∧ wx.cell? ⟨w.heap.size + 1, 1, none⟩ = some (.slice none 0 0) ∧ (∀ o, wx.frozen? ⟨w.heap.size + 1, o, none⟩ = false) ∧ w.heap.size + 1 < wx.heap.size ∧ Below w.heap.size w wx)
 case first =>
  go_wp2_with fail
  refine (isTypeI_b _ _ _ t (HT.out.below bwT) r1 H1.out).mono ?_
  rintro e7 w7 ⟨rfl, hbw7⟩
  have hpw7 : Below w.heap.size w w7 := Below.after bwT hbw7 szT
  have sw7 := hpw7.size
  have hBw7 : Below w.heap.size w w7 := hpw7
  have l_t : w.heap.size < w7.heap.size := by have := hbw7.size; simp at this; omega
  have q_t0 : w7.cell? ⟨w.heap.size, 0, none⟩ = some (.int .i64 t.1) := oldc hbw7 ltT (by simp [go_sem])
  have q_t1 : w7.cell? ⟨w.heap.size, 1, none⟩ = some (.slice sao t.2.length scap) := oldc hbw7 ltT (by simp [go_sem])
  have l_r : w.heap.size + 1 < w7.heap.size := by have := hbw7.size; simp at this; omega
  have q_r0 : w7.cell? ⟨w.heap.size + 1, 0, none⟩ = some (.int .i64 0) := oldc hbw7 ltT (by simp [go_sem])
  have q_r1 : w7.cell? ⟨w.heap.size + 1, 1, none⟩ = some (.slice none 0 0) := oldc hbw7 ltT (by simp [go_sem])
  have f_r : ∀ o, w7.frozen? ⟨w.heap.size + 1, o, none⟩ = false := fun o => (hbw7.frozen (p := ⟨w.heap.size + 1, o, none⟩) ltT).trans (by simp [go_sem])
  clear hbw7 hpw7
  cases r1
  ·obtain rfl : V = false := by rw [HV.out, HE.out, ← H1.out]; rfl
   clear HV HE H1 HX
   go_wp2
   go_meet
   exact ⟨rfl, q_t0, q_t1, q_r0, q_r1, f_r, l_r, hBw7⟩
  by_cases hl : t.2.length = 0
  ·have hn : ¬ (0 : Int) < (t.2.length : Int) := by omega
   obtain rfl : V = true := by rw [HV.out, HE.out, ← H1.out, decide_eq_true (.inl (List.eq_nil_of_length_eq_zero hl))]; rfl
   clear HV HE H1 HX hl
   go_wp2
   go_meet
   exact ⟨rfl, q_t0, q_t1, q_r0, q_r1, f_r, l_r, hBw7⟩
  have hn : (0 : Int) < (t.2.length : Int) := by omega
  have HNE := Lib.hid (show ¬ t.2 = [] from fun e => hl (by rw [e]; rfl))
  obtain ⟨e, hlet_e⟩ : ∃ r, r = egoOf t := ⟨_, rfl⟩
  have HEG := Lib.hid hlet_e
  clear hlet_e
  clear hl
  go_wp2_with fail
  refine (egoI_any _ _ _ t (HT.out.below bwT) e HEG.out).mono ?_
  rintro e8 w8 ⟨rfl, hbw8⟩
  have hpw8 : Below w7.heap.size w7 w8 := Below.after bwT hbw8 szT
  have sw8 := hpw8.size
  have hBw8 : Below w.heap.size w w8 := Below.trans hBw7 (Below.mono hpw8 hBw7.size)
  have q_t0 := oldc hpw8 l_t q_t0
  have q_t1 := oldc hpw8 l_t q_t1
  have q_r0 := oldc hpw8 l_r q_r0
  have q_r1 := oldc hpw8 l_r q_r1
  have f_r : ∀ o, w8.frozen? ⟨w.heap.size + 1, o, none⟩ = false := fun o => (hpw8.frozen (p := ⟨w.heap.size + 1, o, none⟩) l_r).trans (f_r o)
  have l_r := Nat.lt_of_lt_of_le l_r sw8
  have l_t := Nat.lt_of_lt_of_le l_t sw8
  clear hbw8 hpw8
  by_cases h0 : e = 0
  ·have h0' : (e == 0) = true := by simp [h0]
   obtain rfl : V = false := by rw [HV.out, HE.out, ← H1.out, ← HEG.out, decide_eq_false (by simp [HNE.out, h0])]; rfl
   clear HV HE H1 HX HEG HNE h0
   go_wp2
   go_meet
   exact ⟨rfl, q_t0, q_t1, q_r0, q_r1, f_r, l_r, hBw8⟩
  ·have h0' : (e == 0) = false := by simp [h0]
   obtain rfl : V = true := by rw [HV.out, HE.out, ← H1.out, ← HEG.out, decide_eq_true (.inr h0)]; rfl
   clear HV HE H1 HX HEG HNE h0
   go_wp2
   go_meet
   exact ⟨rfl, q_t0, q_t1, q_r0, q_r1, f_r, l_r, hBw8⟩
 case rest =>
  obtain ⟨rfl, q_t0, q_t1, q_r0, q_r1, f_r, l_r, hB1⟩ := hcut
  obtain ⟨W1, hW1⟩ : ∃ W : World, W = wc := ⟨_, rfl⟩
  subst hW1
  have s1 := hB1.size
  cases V
  ·obtain rfl : X = (0, []) := HX.out
   clear HV HX HE H1
   go_wp2
   exact bodyPost_ret (v := .tuple #[.agg #[.int .i64 0, .slice none 0 0], .bool false]) (by simp [results, Tryz.results50, go_sem, *]) rfl ⟨_, rfl, Ow.kin_mk (by unfold I64; omega) (Ow.nil _ _ _), bwT⟩
  have hVf := HE.out
  rw [← HV.out] at hVf
  have HKN := Lib.hid (show isKin t = true by have := hVf.symm; simp only [Bool.and_eq_true] at this; exact this.1)
  have hK := isKin_facts HKN.out
  have hk8 : t.2.length ≤ 8 := hK.2.1
  have HKM := Lib.hid hK.2.2.2
  obtain ⟨sx, hlet_sx⟩ : ∃ r, r = sexOf t := ⟨_, rfl⟩
  have HS := Lib.hid hlet_sx
  clear hlet_sx
  obtain ⟨BL, hlet_BL⟩ : ∃ r, r = backs (egoOf t) t.2 := ⟨_, rfl⟩
  have HBL := Lib.hid hlet_BL
  clear hlet_BL
  have hBLl : BL.length = t.2.length := by rw [HBL.out]; exact backs_len _ _
  have HLN := Lib.hid hBLl
  obtain rfl : X = (sx, BL.reverse) := by rw [HX.out, HS.out, HBL.out]; rfl
  have hsx : sx = 0 ∨ sx = 1 ∨ sx = 2 := by
   rw [HS.out]; unfold sexOf
   have := hK.1
   split
   ·rename_i x _; rcases stSex_in x.1 with e | e <;> rw [e] <;> simp
   ·omega
  clear hVf HV HE H1 HX hK hBLl
  go_wp2_with fail
  refine (sexOfI_any _ _ _ t (HT.out.below hB1) HKN.out sx HS.out).mono ?_
  rintro e2 w2 ⟨rfl, hb2⟩
  have s2 := hb2.size
  have hB2 : Below w.heap.size w w2 := hB1.trans (hb2.mono s1)
  have l_r2 : w.heap.size + 1 < w2.heap.size := by omega
  have l_t2 : w.heap.size < w2.heap.size := by omega
  have t0 := oldc hb2 (by omega) q_t0
  have t1 := oldc hb2 (by omega) q_t1
  have r0 := oldc hb2 l_r q_r0
  have r1' := oldc hb2 l_r q_r1
  have rf : ∀ o, w2.frozen? ⟨w.heap.size + 1, o, none⟩ = false := fun o => (hb2.frozen (p := ⟨w.heap.size + 1, o, none⟩) l_r).trans (f_r o)
  clear q_t0 q_t1 q_r0 q_r1 f_r l_r hb2 hB1 s1 s2
  obtain ⟨WA, hWA⟩ : ∃ W : World, W = w2.alloc (.cells #[.int .i64 sx, .slice none 0 0] 36) := ⟨_, rfl⟩
  have hbA : Below w2.heap.size w2 WA := by subst hWA; exact bwT
  have szA : WA.heap.size = w2.heap.size + 1 := by subst hWA; simp
  have g0 : WA.cell? ⟨w2.heap.size, 0, none⟩ = some (.int .i64 sx) := by subst hWA; simp [go_sem]
  have g1 : WA.cell? ⟨w2.heap.size, 1, none⟩ = some (.slice none 0 0) := by subst hWA; simp [go_sem]
  have gf : ∀ o, WA.frozen? ⟨w2.heap.size, o, none⟩ = false := by subst hWA; intro o; simp [go_sem]
  have q_t1 := oldc hbA (by omega) t1
  have ltA : w.heap.size < WA.heap.size := by omega
  go_wp2
  rw [← hWA]
  clear hWA
  go_loopw [5] (fun s5 wr => ∃ (i : Nat) (q : Int) (v : Value), i ≤ t.2.length ∧ s5 = .int .i64 q ∧ q = (i : Int) - 1 ∧ wr.cell? ⟨w2.heap.size, 0, none⟩ = some (.int .i64 sx) ∧ wr.cell? ⟨w2.heap.size, 1, none⟩ = some v ∧ (∀ o, wr.frozen? ⟨w2.heap.size, o, none⟩ = false) ∧ w2.heap.size < wr.heap.size ∧ Hid (GL true (w2.heap.size + 1) (w2.heap.size + 1) wr.heap.size wr 106 v (BL.drop i).reverse) ∧ Below w2.heap.size w2 wr) (fun s5 _ => (intOf s5 + 1).toNat)
  case atStart => exact ⟨t.2.length, _, _, Nat.le_refl _, rfl, by first | rfl | go_num | omega, g0, g1, gf, by omega, Lib.hid (by rw [List.drop_eq_nil_of_le (by rw [HLN.out]; exact Nat.le_refl _)]; exact GL.start _ _ _ _ _ _), hbA⟩
  case round =>
   obtain ⟨wb, hwb⟩ : ∃ wm : World, wm = wr := ⟨_, rfl⟩
   subst hwb
   obtain ⟨i, q, v, hi, rfl, hq, g0, g1, gf, lg, hG, hbb⟩ := hrel
   have hBb : Below w.heap.size w wb := hB2.trans (hbb.mono (by omega))
   have x0 := oldc hbb (by omega) t0
   have x1 := oldc hbb (by omega) t1
   have y0 := oldc hbb l_r2 r0
   have y1 := oldc hbb l_r2 r1'
   have yf : ∀ o, wb.frozen? ⟨w.heap.size + 1, o, none⟩ = false := fun o => (hbb.frozen (p := ⟨w.heap.size + 1, o, none⟩) l_r2).trans (rf o)
   have lw : w.heap.size < wb.heap.size := by omega
   have lw1 : w.heap.size + 1 < wb.heap.size := by omega
   obtain ⟨ao, cap, rfl, -, -⟩ := hG.out.len
   by_cases hi0 : 0 < i
   ·obtain ⟨m, rfl⟩ : ∃ m, i = m + 1 := ⟨i - 1, by omega⟩
    obtain rfl : q = (m : Int) := by omega
    clear hq
    have hm0 : (0 : Int) ≤ (m : Int) := by omega
    have hml : m < t.2.length := by omega
    have hmi : (m : Int) < (t.2.length : Int) := by omega
    obtain ⟨sb, soff, ki, ag, rfl, hx, c0, c1, -, -, -, -, sbl, -⟩ := HB.out.stp_at (i := m) hml
    have hka := HKM.out _ (List.mem_of_getElem? hx.out)
    dsimp only at hka
    have k0 := oldc hBb sbl c0
    have k1 := oldc hBb sbl c1
    obtain ⟨sb2, hlet_sb2⟩ : ∃ r, r = sexAt t m := ⟨_, rfl⟩
    have HSB := Lib.hid hlet_sb2
    clear hlet_sb2
    obtain ⟨z1, z2, HRS⟩ : ∃ z1 z2 : Int, Hid ((z1, z2) = backSt (ki, ag) sb2) := ⟨_, _, Lib.hid rfl⟩
    have hz : (1 ≤ z1 ∧ z1 ≤ 8) ∧ (0 ≤ z2 ∧ z2 ≤ 2) := by
     have := backSt_in (s := (ki, ag)) (sex := sb2) hka.2
     rw [← HRS.out] at this; exact this
    have HNX := Lib.hid (show (BL.drop (m + 1)).reverse ++ [(z1, z2)] = (BL.drop m).reverse from (drop_rev (by rw [HBL.out, HRS.out, HSB.out]; exact revK_at hx.out)).symm)
    have hln : (BL.drop (m + 1)).reverse.length ≤ 8 := by rw [List.length_reverse, List.length_drop, HLN.out]; omega
    obtain ⟨LB, hLB⟩ : ∃ L, L = (BL.drop (m + 1)).reverse := ⟨_, rfl⟩
    rw [← hLB] at hG HNX hln g1
    clear hx c0 c1 hLB
    go_upto_region 7 with fail
    refine wp_region_held_drew (S := (fun w' => w'.cell? ⟨w.heap.size, 0, none⟩ = some (.int .i64 t.1) ∧ w'.cell? ⟨w.heap.size, 1, none⟩ = some (.slice (some ⟨sb, soff, none⟩) t.2.length scap) ∧ w'.cell? ⟨sb, soff + m * 2, none⟩ = some (.int .i64 ki) ∧ w'.cell? ⟨sb, soff + m * 2 + 1, none⟩ = some (.int .i64 ag))) (by kernel_rfl) ?_ (fun hHeld => ?_)
    ·first | exact trivial | ((try dsimp only); go_keep)
    refine tkA 0 ?_
    try simp only [Act.put, cA, cB, cC]
    refine tkA 2 ?_
    try simp only [Act.put, cA, cB, cC]
    refine tkA 4 ?_
    try simp only [Act.put, cA, cB, cC]
    refine tkA 7 ?_
    try simp only [Act.put, cA, cB, cC]
    refine tkA 8 ?_
    try simp only [Act.put, cA, cB, cC]
    refine tkA 3 ?_
    try simp only [Act.put, cA, cB, cC]
    refine tkA 5 ?_
    try simp only [Act.put, cA, cB, cC]
    refine tkA 6 ?_
    try simp only [Act.put, cA, cB, cC]
    refine wpAnyH_ready (rs := [1, 9]) (by kernel_rfl) (by simp) ?_
    refine rdR (fun K hK => ?_) ?_
    ·go_simp
     refine hK.out _ _ ?_ (fun hHeld => ?_)
     ·exact kpT
     clear hK K
     try simp only [Act.put, cA, cB, cC]
     refine wpAnyH_ready (rs := [9]) (by kernel_rfl) (by simp) ?_
     refine rdR (fun K hK => ?_) ?_
     ·go_simp
      refine (sexBeforeI_any _ _ _ t (HT.out.below ?b1) HKN.out m hml sb2 HSB.out).mono ?_
      case b1 => exact bwT
      rintro e3 w3 ⟨rfl, hb3⟩
      have hp3 : Below wb.heap.size wb w3 := Below.trans (show Below wb.heap.size wb _ from bwT) (hb3.mono szT)
      have hS3 := And.intro (oldc hp3 lw x0) (And.intro (oldc hp3 lw x1) (And.intro (oldc hp3 (by omega) k0) (oldc hp3 (by omega) k1)))
      have g03 := oldc hp3 lg g0
      have g13 := oldc hp3 lg g1
      have gf3 : ∀ o, w3.frozen? ⟨w2.heap.size, o, none⟩ = false := fun o => (hp3.frozen (p := ⟨w2.heap.size, o, none⟩) lg).trans (gf o)
      have sz3 := hp3.size
      clear hb3
      refine hK.out _ _ ?_ (fun hHeld => ?_)
      ·exact kpT
      clear hK K
      try simp only [Act.put, cA, cB, cC]
      refine wpAnyH_ready (rs := [10]) (by kernel_rfl) (by simp) ?_
      refine rdR (fun K hK => ?_) ?_
      ·go_simp
       refine (backStepI_any _ ki ag sb2 hka.1 hka.2 (z1, z2) HRS.out).mono ?_
       rintro e4 w4 ⟨rfl, hb4⟩
       have hp4 : Below wb.heap.size wb w4 := Below.trans (show Below wb.heap.size wb _ from (by first | exact hp3 | exact Below.drew hp3)) (hb4.mono szT)
       have hS4 := And.intro (oldc hp4 lw x0) (And.intro (oldc hp4 lw x1) (And.intro (oldc hp4 (by omega) k0) (oldc hp4 (by omega) k1)))
       have g04 := oldc hp4 lg g0
       have g14 := oldc hp4 lg g1
       have gf4 : ∀ o, w4.frozen? ⟨w2.heap.size, o, none⟩ = false := fun o => (hp4.frozen (p := ⟨w2.heap.size, o, none⟩) lg).trans (gf o)
       have sz4 := hp4.size
       have l4a : w.heap.size < w4.heap.size := by omega
       have l4b : w2.heap.size < w4.heap.size := by omega
       have l4c : sb < w4.heap.size := by omega
       have n4a : ¬ w2.heap.size = w4.heap.size := by omega
       have n4b : ¬ w4.heap.size = w2.heap.size := by omega
       have hG4 := Lib.hid (hG.out.below hp4)
       clear hb4
       refine hK.out _ _ ?_ (fun hHeld => ?_)
       ·exact kpT
       clear hK K
       try simp only [Act.put, cA, cB, cC]
       refine wpAnyH_ready (rs := [11]) (by kernel_rfl) (by simp) ?_
       refine rdR (fun K hK => ?_) ?_
       ·go_simp
        refine hK.out _ _ ?_ (fun hHeld => ?_)
        ·exact kpT
        clear hK K
        try simp only [Act.put, cA, cB, cC]
        refine wpAnyH_ready (rs := [12]) (by kernel_rfl) (by simp) ?_
        refine rdR (fun K hK => ?_) ?_
        ·refine step_push rfl rfl slStep (by show (0 : Nat) < 2; omega) (hG4.out.below bwT) (by simp [Act.eval, Act.put]) (ad := ⟨w4.heap.size, 0, none⟩) (c := 1) (by simp [Act.eval, Act.put]) (cs := [.int .i64 z1, .int .i64 z2]) (y := (z1, z2)) (lx := w4.heap.size) (hx' := w4.heap.size) ?c1 (It.flat (z := true) (w0 := w4) (fp := []) ⟨[_], [_], [], [], rfl, rfl, ⟨rfl, ⟨by omega, by omega⟩, rfl⟩, ⟨rfl, ⟨by omega, by omega⟩, rfl⟩⟩) (by omega) (.inl (by omega)) (by unfold maxLen; omega) (by omega) (by simp; omega) rfl rfl ?_
         case c1 => intro j c hj; match j, hj with | 0, hj => simp at hj; subst hj; simp [Addr.add, go_sem] | 1, hj => simp at hj; subst hj; simp [Addr.add, go_sem]
         rintro g5 cap5 w5 hG5 hg5 hat5 hl5 hlt5 hb5
         have hp5 : Below (w2.heap.size + 1) wb w5 := Below.trans (Below.trans (hp4.mono (by omega)) (show Below (w2.heap.size + 1) w4 _ from bwT)) hb5
         have hS5 := And.intro (oldc hp5 (by omega) x0) (And.intro (oldc hp5 (by omega) x1) (And.intro (oldc hp5 (by omega) k0) (oldc hp5 (by omega) k1)))
         have g05 := oldc hp5 (Nat.lt_succ_self _) g0
         have g15 := oldc hp5 (Nat.lt_succ_self _) g1
         have gf5 : ∀ o, w5.frozen? ⟨w2.heap.size, o, none⟩ = false := fun o => (hp5.frozen (p := ⟨w2.heap.size, o, none⟩) (Nat.lt_succ_self _)).trans (gf o)
         have sz5 := hp5.size
         have HG5 := Lib.hid hG5
         clear hb5 hg5 hat5 hG5
         refine hK.out _ _ ?_ (fun hHeld => ?_)
         ·exact kpT
         clear hK K
         try simp only [Act.put, cA, cB, cC]
         refine tkA 13 ?_
         try simp only [Act.put, cA, cB, cC]
         refine wpAnyH_ready (rs := [14]) (by kernel_rfl) (by simp) ?_
         refine rdR (fun K hK => ?_) ?_
         ·go_simp
          refine hK.out _ _ ?_ (fun hHeld => ?_)
          ·exact kpT
          clear hK K
          try simp only [Act.put, cA, cB, cC]
          refine wpAnyH_done (by kernel_rfl) ?_ _
          have hN1 := HG5.out
          rw [HNX.out] at hN1
          obtain ⟨W6, hW6⟩ : ∃ W : World, W = w5.setCell ⟨w2.heap.size, 1, none⟩ (.slice (some ⟨g5, 0, none⟩) (LB.length + 1) cap5) := ⟨_, rfl⟩
          have m0 : W6.cell? ⟨w2.heap.size, 0, none⟩ = some (.int .i64 sx) := by subst hW6; simp [go_sem, *]
          have m1 : W6.cell? ⟨w2.heap.size, 1, none⟩ = some (.slice (some ⟨g5, 0, none⟩) (LB.length + 1) cap5) := by subst hW6; simp [go_sem, *]
          have mf : ∀ o, W6.frozen? ⟨w2.heap.size, o, none⟩ = false := by subst hW6; intro o; simp [go_sem, *]
          have ml : w2.heap.size < W6.heap.size := by subst hW6; simp <;> omega
          have hN6 := Lib.hid (show GL true (w2.heap.size + 1) (w2.heap.size + 1) W6.heap.size W6 106 _ (BL.drop m).reverse by subst hW6; exact (hN1.keep znT znT).top)
          have hb6 : Below w2.heap.size w2 W6 := by subst hW6; exact ((hbb.mono (Nat.le_refl _)).trans (hp5.mono (Nat.le_succ _))).setCell (Nat.le_refl _) _
          rw [← hW6]
          clear hW6 hN1 HG5 HNX hHeld hS5 g05 g15 gf5
          go_wp2
          go_roundw
          case rel => exact ⟨m, _, _, by omega, rfl, by first | rfl | go_num | omega, m0, m1, mf, ml, hN6, hb6⟩
          case measure => simp [intOf] <;> omega
         exact AllReadyH.nil
        exact AllReadyH.nil
       exact AllReadyH.nil
      exact AllReadyH.nil
     exact AllReadyH.nil
    refine rdR (fun K hK => ?_) ?_
    ·go_simp
     refine (sexBeforeI_any _ _ _ t (HT.out.below ?b1) HKN.out m hml sb2 HSB.out).mono ?_
     case b1 => exact bwT
     rintro e3 w3 ⟨rfl, hb3⟩
     have hp3 : Below wb.heap.size wb w3 := Below.trans (show Below wb.heap.size wb _ from bwT) (hb3.mono szT)
     have hS3 := And.intro (oldc hp3 lw x0) (And.intro (oldc hp3 lw x1) (And.intro (oldc hp3 (by omega) k0) (oldc hp3 (by omega) k1)))
     have g03 := oldc hp3 lg g0
     have g13 := oldc hp3 lg g1
     have gf3 : ∀ o, w3.frozen? ⟨w2.heap.size, o, none⟩ = false := fun o => (hp3.frozen (p := ⟨w2.heap.size, o, none⟩) lg).trans (gf o)
     have sz3 := hp3.size
     clear hb3
     refine hK.out _ _ ?_ (fun hHeld => ?_)
     ·exact kpT
     clear hK K
     try simp only [Act.put, cA, cB, cC]
     refine wpAnyH_ready (rs := [1, 10]) (by kernel_rfl) (by simp) ?_
     refine rdR (fun K hK => ?_) ?_
     ·go_simp
      refine hK.out _ _ ?_ (fun hHeld => ?_)
      ·exact kpT
      clear hK K
      try simp only [Act.put, cA, cB, cC]
      refine wpAnyH_ready (rs := [10]) (by kernel_rfl) (by simp) ?_
      refine rdR (fun K hK => ?_) ?_
      ·go_simp
       refine (backStepI_any _ ki ag sb2 hka.1 hka.2 (z1, z2) HRS.out).mono ?_
       rintro e4 w4 ⟨rfl, hb4⟩
       have hp4 : Below wb.heap.size wb w4 := Below.trans (show Below wb.heap.size wb _ from (by first | exact hp3 | exact Below.drew hp3)) (hb4.mono szT)
       have hS4 := And.intro (oldc hp4 lw x0) (And.intro (oldc hp4 lw x1) (And.intro (oldc hp4 (by omega) k0) (oldc hp4 (by omega) k1)))
       have g04 := oldc hp4 lg g0
       have g14 := oldc hp4 lg g1
       have gf4 : ∀ o, w4.frozen? ⟨w2.heap.size, o, none⟩ = false := fun o => (hp4.frozen (p := ⟨w2.heap.size, o, none⟩) lg).trans (gf o)
       have sz4 := hp4.size
       have l4a : w.heap.size < w4.heap.size := by omega
       have l4b : w2.heap.size < w4.heap.size := by omega
       have l4c : sb < w4.heap.size := by omega
       have n4a : ¬ w2.heap.size = w4.heap.size := by omega
       have n4b : ¬ w4.heap.size = w2.heap.size := by omega
       have hG4 := Lib.hid (hG.out.below hp4)
       clear hb4
       refine hK.out _ _ ?_ (fun hHeld => ?_)
       ·exact kpT
       clear hK K
       try simp only [Act.put, cA, cB, cC]
       refine wpAnyH_ready (rs := [11]) (by kernel_rfl) (by simp) ?_
       refine rdR (fun K hK => ?_) ?_
       ·go_simp
        refine hK.out _ _ ?_ (fun hHeld => ?_)
        ·exact kpT
        clear hK K
        try simp only [Act.put, cA, cB, cC]
        refine wpAnyH_ready (rs := [12]) (by kernel_rfl) (by simp) ?_
        refine rdR (fun K hK => ?_) ?_
        ·refine step_push rfl rfl slStep (by show (0 : Nat) < 2; omega) (hG4.out.below bwT) (by simp [Act.eval, Act.put]) (ad := ⟨w4.heap.size, 0, none⟩) (c := 1) (by simp [Act.eval, Act.put]) (cs := [.int .i64 z1, .int .i64 z2]) (y := (z1, z2)) (lx := w4.heap.size) (hx' := w4.heap.size) ?c1 (It.flat (z := true) (w0 := w4) (fp := []) ⟨[_], [_], [], [], rfl, rfl, ⟨rfl, ⟨by omega, by omega⟩, rfl⟩, ⟨rfl, ⟨by omega, by omega⟩, rfl⟩⟩) (by omega) (.inl (by omega)) (by unfold maxLen; omega) (by omega) (by simp; omega) rfl rfl ?_
         case c1 => intro j c hj; match j, hj with | 0, hj => simp at hj; subst hj; simp [Addr.add, go_sem] | 1, hj => simp at hj; subst hj; simp [Addr.add, go_sem]
         rintro g5 cap5 w5 hG5 hg5 hat5 hl5 hlt5 hb5
         have hp5 : Below (w2.heap.size + 1) wb w5 := Below.trans (Below.trans (hp4.mono (by omega)) (show Below (w2.heap.size + 1) w4 _ from bwT)) hb5
         have hS5 := And.intro (oldc hp5 (by omega) x0) (And.intro (oldc hp5 (by omega) x1) (And.intro (oldc hp5 (by omega) k0) (oldc hp5 (by omega) k1)))
         have g05 := oldc hp5 (Nat.lt_succ_self _) g0
         have g15 := oldc hp5 (Nat.lt_succ_self _) g1
         have gf5 : ∀ o, w5.frozen? ⟨w2.heap.size, o, none⟩ = false := fun o => (hp5.frozen (p := ⟨w2.heap.size, o, none⟩) (Nat.lt_succ_self _)).trans (gf o)
         have sz5 := hp5.size
         have HG5 := Lib.hid hG5
         clear hb5 hg5 hat5 hG5
         refine hK.out _ _ ?_ (fun hHeld => ?_)
         ·exact kpT
         clear hK K
         try simp only [Act.put, cA, cB, cC]
         refine tkA 13 ?_
         try simp only [Act.put, cA, cB, cC]
         refine wpAnyH_ready (rs := [14]) (by kernel_rfl) (by simp) ?_
         refine rdR (fun K hK => ?_) ?_
         ·go_simp
          refine hK.out _ _ ?_ (fun hHeld => ?_)
          ·exact kpT
          clear hK K
          try simp only [Act.put, cA, cB, cC]
          refine wpAnyH_done (by kernel_rfl) ?_ _
          have hN1 := HG5.out
          rw [HNX.out] at hN1
          obtain ⟨W6, hW6⟩ : ∃ W : World, W = w5.setCell ⟨w2.heap.size, 1, none⟩ (.slice (some ⟨g5, 0, none⟩) (LB.length + 1) cap5) := ⟨_, rfl⟩
          have m0 : W6.cell? ⟨w2.heap.size, 0, none⟩ = some (.int .i64 sx) := by subst hW6; simp [go_sem, *]
          have m1 : W6.cell? ⟨w2.heap.size, 1, none⟩ = some (.slice (some ⟨g5, 0, none⟩) (LB.length + 1) cap5) := by subst hW6; simp [go_sem, *]
          have mf : ∀ o, W6.frozen? ⟨w2.heap.size, o, none⟩ = false := by subst hW6; intro o; simp [go_sem, *]
          have ml : w2.heap.size < W6.heap.size := by subst hW6; simp <;> omega
          have hN6 := Lib.hid (show GL true (w2.heap.size + 1) (w2.heap.size + 1) W6.heap.size W6 106 _ (BL.drop m).reverse by subst hW6; exact (hN1.keep znT znT).top)
          have hb6 : Below w2.heap.size w2 W6 := by subst hW6; exact ((hbb.mono (Nat.le_refl _)).trans (hp5.mono (Nat.le_succ _))).setCell (Nat.le_refl _) _
          rw [← hW6]
          clear hW6 hN1 HG5 HNX hHeld hS5 g05 g15 gf5
          go_wp2
          go_roundw
          case rel => exact ⟨m, _, _, by omega, rfl, by first | rfl | go_num | omega, m0, m1, mf, ml, hN6, hb6⟩
          case measure => simp [intOf] <;> omega
         exact AllReadyH.nil
        exact AllReadyH.nil
       exact AllReadyH.nil
      exact AllReadyH.nil
     refine rdR (fun K hK => ?_) ?_
     ·go_simp
      refine (backStepI_any _ ki ag sb2 hka.1 hka.2 (z1, z2) HRS.out).mono ?_
      rintro e4 w4 ⟨rfl, hb4⟩
      have hp4 : Below wb.heap.size wb w4 := Below.trans (show Below wb.heap.size wb _ from (by first | exact hp3 | exact Below.drew hp3)) (hb4.mono szT)
      have hS4 := And.intro (oldc hp4 lw x0) (And.intro (oldc hp4 lw x1) (And.intro (oldc hp4 (by omega) k0) (oldc hp4 (by omega) k1)))
      have g04 := oldc hp4 lg g0
      have g14 := oldc hp4 lg g1
      have gf4 : ∀ o, w4.frozen? ⟨w2.heap.size, o, none⟩ = false := fun o => (hp4.frozen (p := ⟨w2.heap.size, o, none⟩) lg).trans (gf o)
      have sz4 := hp4.size
      have l4a : w.heap.size < w4.heap.size := by omega
      have l4b : w2.heap.size < w4.heap.size := by omega
      have l4c : sb < w4.heap.size := by omega
      have n4a : ¬ w2.heap.size = w4.heap.size := by omega
      have n4b : ¬ w4.heap.size = w2.heap.size := by omega
      have hG4 := Lib.hid (hG.out.below hp4)
      clear hb4
      refine hK.out _ _ ?_ (fun hHeld => ?_)
      ·exact kpT
      clear hK K
      try simp only [Act.put, cA, cB, cC]
      refine wpAnyH_ready (rs := [1, 11]) (by kernel_rfl) (by simp) ?_
      refine rdR (fun K hK => ?_) ?_
      ·go_simp
       refine hK.out _ _ ?_ (fun hHeld => ?_)
       ·exact kpT
       clear hK K
       try simp only [Act.put, cA, cB, cC]
       refine wpAnyH_ready (rs := [11]) (by kernel_rfl) (by simp) ?_
       refine rdR (fun K hK => ?_) ?_
       ·go_simp
        refine hK.out _ _ ?_ (fun hHeld => ?_)
        ·exact kpT
        clear hK K
        try simp only [Act.put, cA, cB, cC]
        refine wpAnyH_ready (rs := [12]) (by kernel_rfl) (by simp) ?_
        refine rdR (fun K hK => ?_) ?_
        ·refine step_push rfl rfl slStep (by show (0 : Nat) < 2; omega) (hG4.out.below bwT) (by simp [Act.eval, Act.put]) (ad := ⟨w4.heap.size, 0, none⟩) (c := 1) (by simp [Act.eval, Act.put]) (cs := [.int .i64 z1, .int .i64 z2]) (y := (z1, z2)) (lx := w4.heap.size) (hx' := w4.heap.size) ?c1 (It.flat (z := true) (w0 := w4) (fp := []) ⟨[_], [_], [], [], rfl, rfl, ⟨rfl, ⟨by omega, by omega⟩, rfl⟩, ⟨rfl, ⟨by omega, by omega⟩, rfl⟩⟩) (by omega) (.inl (by omega)) (by unfold maxLen; omega) (by omega) (by simp; omega) rfl rfl ?_
         case c1 => intro j c hj; match j, hj with | 0, hj => simp at hj; subst hj; simp [Addr.add, go_sem] | 1, hj => simp at hj; subst hj; simp [Addr.add, go_sem]
         rintro g5 cap5 w5 hG5 hg5 hat5 hl5 hlt5 hb5
         have hp5 : Below (w2.heap.size + 1) wb w5 := Below.trans (Below.trans (hp4.mono (by omega)) (show Below (w2.heap.size + 1) w4 _ from bwT)) hb5
         have hS5 := And.intro (oldc hp5 (by omega) x0) (And.intro (oldc hp5 (by omega) x1) (And.intro (oldc hp5 (by omega) k0) (oldc hp5 (by omega) k1)))
         have g05 := oldc hp5 (Nat.lt_succ_self _) g0
         have g15 := oldc hp5 (Nat.lt_succ_self _) g1
         have gf5 : ∀ o, w5.frozen? ⟨w2.heap.size, o, none⟩ = false := fun o => (hp5.frozen (p := ⟨w2.heap.size, o, none⟩) (Nat.lt_succ_self _)).trans (gf o)
         have sz5 := hp5.size
         have HG5 := Lib.hid hG5
         clear hb5 hg5 hat5 hG5
         refine hK.out _ _ ?_ (fun hHeld => ?_)
         ·exact kpT
         clear hK K
         try simp only [Act.put, cA, cB, cC]
         refine tkA 13 ?_
         try simp only [Act.put, cA, cB, cC]
         refine wpAnyH_ready (rs := [14]) (by kernel_rfl) (by simp) ?_
         refine rdR (fun K hK => ?_) ?_
         ·go_simp
          refine hK.out _ _ ?_ (fun hHeld => ?_)
          ·exact kpT
          clear hK K
          try simp only [Act.put, cA, cB, cC]
          refine wpAnyH_done (by kernel_rfl) ?_ _
          have hN1 := HG5.out
          rw [HNX.out] at hN1
          obtain ⟨W6, hW6⟩ : ∃ W : World, W = w5.setCell ⟨w2.heap.size, 1, none⟩ (.slice (some ⟨g5, 0, none⟩) (LB.length + 1) cap5) := ⟨_, rfl⟩
          have m0 : W6.cell? ⟨w2.heap.size, 0, none⟩ = some (.int .i64 sx) := by subst hW6; simp [go_sem, *]
          have m1 : W6.cell? ⟨w2.heap.size, 1, none⟩ = some (.slice (some ⟨g5, 0, none⟩) (LB.length + 1) cap5) := by subst hW6; simp [go_sem, *]
          have mf : ∀ o, W6.frozen? ⟨w2.heap.size, o, none⟩ = false := by subst hW6; intro o; simp [go_sem, *]
          have ml : w2.heap.size < W6.heap.size := by subst hW6; simp <;> omega
          have hN6 := Lib.hid (show GL true (w2.heap.size + 1) (w2.heap.size + 1) W6.heap.size W6 106 _ (BL.drop m).reverse by subst hW6; exact (hN1.keep znT znT).top)
          have hb6 : Below w2.heap.size w2 W6 := by subst hW6; exact ((hbb.mono (Nat.le_refl _)).trans (hp5.mono (Nat.le_succ _))).setCell (Nat.le_refl _) _
          rw [← hW6]
          clear hW6 hN1 HG5 HNX hHeld hS5 g05 g15 gf5
          go_wp2
          go_roundw
          case rel => exact ⟨m, _, _, by omega, rfl, by first | rfl | go_num | omega, m0, m1, mf, ml, hN6, hb6⟩
          case measure => simp [intOf] <;> omega
         exact AllReadyH.nil
        exact AllReadyH.nil
       exact AllReadyH.nil
      refine rdR (fun K hK => ?_) ?_
      ·go_simp
       refine hK.out _ _ ?_ (fun hHeld => ?_)
       ·exact kpT
       clear hK K
       try simp only [Act.put, cA, cB, cC]
       refine wpAnyH_ready (rs := [1]) (by kernel_rfl) (by simp) ?_
       refine rdR (fun K hK => ?_) ?_
       ·go_simp
        refine hK.out _ _ ?_ (fun hHeld => ?_)
        ·exact kpT
        clear hK K
        try simp only [Act.put, cA, cB, cC]
        refine wpAnyH_ready (rs := [12]) (by kernel_rfl) (by simp) ?_
        refine rdR (fun K hK => ?_) ?_
        ·refine step_push rfl rfl slStep (by show (0 : Nat) < 2; omega) (hG4.out.below bwT) (by simp [Act.eval, Act.put]) (ad := ⟨w4.heap.size, 0, none⟩) (c := 1) (by simp [Act.eval, Act.put]) (cs := [.int .i64 z1, .int .i64 z2]) (y := (z1, z2)) (lx := w4.heap.size) (hx' := w4.heap.size) ?c1 (It.flat (z := true) (w0 := w4) (fp := []) ⟨[_], [_], [], [], rfl, rfl, ⟨rfl, ⟨by omega, by omega⟩, rfl⟩, ⟨rfl, ⟨by omega, by omega⟩, rfl⟩⟩) (by omega) (.inl (by omega)) (by unfold maxLen; omega) (by omega) (by simp; omega) rfl rfl ?_
         case c1 => intro j c hj; match j, hj with | 0, hj => simp at hj; subst hj; simp [Addr.add, go_sem] | 1, hj => simp at hj; subst hj; simp [Addr.add, go_sem]
         rintro g5 cap5 w5 hG5 hg5 hat5 hl5 hlt5 hb5
         have hp5 : Below (w2.heap.size + 1) wb w5 := Below.trans (Below.trans (hp4.mono (by omega)) (show Below (w2.heap.size + 1) w4 _ from bwT)) hb5
         have hS5 := And.intro (oldc hp5 (by omega) x0) (And.intro (oldc hp5 (by omega) x1) (And.intro (oldc hp5 (by omega) k0) (oldc hp5 (by omega) k1)))
         have g05 := oldc hp5 (Nat.lt_succ_self _) g0
         have g15 := oldc hp5 (Nat.lt_succ_self _) g1
         have gf5 : ∀ o, w5.frozen? ⟨w2.heap.size, o, none⟩ = false := fun o => (hp5.frozen (p := ⟨w2.heap.size, o, none⟩) (Nat.lt_succ_self _)).trans (gf o)
         have sz5 := hp5.size
         have HG5 := Lib.hid hG5
         clear hb5 hg5 hat5 hG5
         refine hK.out _ _ ?_ (fun hHeld => ?_)
         ·exact kpT
         clear hK K
         try simp only [Act.put, cA, cB, cC]
         refine tkA 13 ?_
         try simp only [Act.put, cA, cB, cC]
         refine wpAnyH_ready (rs := [14]) (by kernel_rfl) (by simp) ?_
         refine rdR (fun K hK => ?_) ?_
         ·go_simp
          refine hK.out _ _ ?_ (fun hHeld => ?_)
          ·exact kpT
          clear hK K
          try simp only [Act.put, cA, cB, cC]
          refine wpAnyH_done (by kernel_rfl) ?_ _
          have hN1 := HG5.out
          rw [HNX.out] at hN1
          obtain ⟨W6, hW6⟩ : ∃ W : World, W = w5.setCell ⟨w2.heap.size, 1, none⟩ (.slice (some ⟨g5, 0, none⟩) (LB.length + 1) cap5) := ⟨_, rfl⟩
          have m0 : W6.cell? ⟨w2.heap.size, 0, none⟩ = some (.int .i64 sx) := by subst hW6; simp [go_sem, *]
          have m1 : W6.cell? ⟨w2.heap.size, 1, none⟩ = some (.slice (some ⟨g5, 0, none⟩) (LB.length + 1) cap5) := by subst hW6; simp [go_sem, *]
          have mf : ∀ o, W6.frozen? ⟨w2.heap.size, o, none⟩ = false := by subst hW6; intro o; simp [go_sem, *]
          have ml : w2.heap.size < W6.heap.size := by subst hW6; simp <;> omega
          have hN6 := Lib.hid (show GL true (w2.heap.size + 1) (w2.heap.size + 1) W6.heap.size W6 106 _ (BL.drop m).reverse by subst hW6; exact (hN1.keep znT znT).top)
          have hb6 : Below w2.heap.size w2 W6 := by subst hW6; exact ((hbb.mono (Nat.le_refl _)).trans (hp5.mono (Nat.le_succ _))).setCell (Nat.le_refl _) _
          rw [← hW6]
          clear hW6 hN1 HG5 HNX hHeld hS5 g05 g15 gf5
          go_wp2
          go_roundw
          case rel => exact ⟨m, _, _, by omega, rfl, by first | rfl | go_num | omega, m0, m1, mf, ml, hN6, hb6⟩
          case measure => simp [intOf] <;> omega
         exact AllReadyH.nil
        exact AllReadyH.nil
       exact AllReadyH.nil
      exact AllReadyH.nil
     exact AllReadyH.nil
    exact AllReadyH.nil
   ·obtain rfl : i = 0 := by omega
    obtain rfl : q = -1 := by omega
    clear hq
    rw [List.drop_zero] at hG
    have HW := Lib.hid (hG.out.ow (l0 := w2.heap.size + 1) (by omega) (by omega))
    have hne1 : ¬ w2.heap.size = w.heap.size + 1 := by omega
    have hne2 : ¬ w.heap.size + 1 = w2.heap.size := by omega
    have HI := Lib.hid (show I64 sx by unfold I64; omega)
    clear hG hi hi0
    go_wp2
    exact bodyPost_ret (v := .tuple #[.agg #[.int .i64 sx, .slice ao (BL.drop 0).reverse.length cap], .bool true]) (by simp [results, Tryz.results50, go_sem, *]) rfl ⟨_, rfl, (Ow.kin_mk HI.out (HW.out.keep zmT)).top.mono (by omega) (Nat.le_refl _), bwT⟩
end
end Go.Proofs.YtdpkldapobbnpaaGreatDoor
