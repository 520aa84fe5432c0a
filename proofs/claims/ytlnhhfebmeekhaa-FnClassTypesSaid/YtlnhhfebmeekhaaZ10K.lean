/- Texts laid one behind the other (merge.py): AllwI, CTyp, GLaw. -/
import Derived.Test.YtlnhhfebmeekhaaSub
import Derived.Test.YtlnhhfebmeekhaaTypsI
import Derived.Test.YtlnhhfebmeekhaaZ10I
import Derived.Test.YtlnhhfebmeekhaaZ10J
namespace Go.Proofs.Ytlnhhfebmeekhaa
set_option linter.unusedVariables false
set_option linter.unusedSimpArgs false
open Go.RowKit

/-! ### AllwI -/
section

def allowL (c : Cls) (n : Int) : List Kin := (typesX 1 n).filter (allowB c)
def allowX (c : Cls) (n : Int) : List Kin := if isCls c = true then allowL c n else []

theorem outT_len (ego : Int) : ∀ n, n ≤ 3 → (outT ego n).length ≤ 584
  | 0, _ => by simp [outT]
  | 1, _ => by have := lastT_len ego 1; simp only [outT, List.length_append, List.length_nil, Nat.zero_add, Nat.reduceAdd] at *; omega
  | 2, _ => by have := lastT_len ego 1; have := lastT_len ego 2; simp only [outT, List.length_append, List.length_nil, Nat.zero_add, Nat.reduceAdd] at *; omega
  | 3, _ => by have := lastT_len ego 1; have := lastT_len ego 2; have := lastT_len ego 3; simp only [outT, List.length_append, List.length_nil, Nat.zero_add, Nat.reduceAdd] at *; omega
theorem typesX_len (ego n : Int) : (typesX ego n).length ≤ 600 := by
  unfold typesX
  split
  · rename_i h
    unfold typesV at h
    simp only [Bool.and_eq_true, decide_eq_true_eq] at h
    have := outT_len ego n.toNat (by omega)
    omega
  · simp
set_option maxRecDepth 20000 in
set_option maxHeartbeats 8000000 in
theorem allowedI_any {z : Bool} {lo hi : Nat} (w : World) (u v : Value) (c : Cls) (h : Rd z lo hi w [u, v] c) (hl1 : c.1.length ≤ 1048576) (n : Int) : Calls Try.prog 27 #[.agg #[u, v], .int .i64 n] w (PostOw w (allowX c n)) := by
  obtain ⟨hw, hq⟩ := h.two rfl
  obtain ⟨bo, n3, dap, rfl, hn3, hnc3, hcm3, hnone3⟩ := hw.shape
  obtain ⟨bo2, n4, dap2, rfl, hn4, hnc4, hcm4, hnone4⟩ := hq.shape
  subst hn3 hn4
  obtain ⟨r1, hlet_r1⟩ : ∃ r, r = isCls c := ⟨_, rfl⟩
  have H1 := Lib.hid hlet_r1
  clear hlet_r1
  obtain ⟨X, hX⟩ : ∃ X, X = allowX c n := ⟨_, rfl⟩
  rw [← hX]
  have HX := Lib.hid (show X = if r1 = true then allowL c n else [] by rw [hX, H1.out]; rfl)
  clear hX hw hq hnone3 hnone4
  go_enter Try.func27, Try.ntmps27
  go_wp2_with fail
  refine (isClsI_b _ _ _ c (h.below bwT) r1 H1.out).mono ?_
  rintro e1 w1 ⟨rfl, hbw1⟩
  have hpw1 : Below w.heap.size w w1 := Below.after bwT hbw1 szT
  have sw1 := hpw1.size
  have hBw1 : Below w.heap.size w w1 := hpw1
  have l_c : w.heap.size < w1.heap.size := by have := hbw1.size; simp at this; omega
  have q_c0 : w1.cell? ⟨w.heap.size, 0, none⟩ = some (.slice bo c.1.length dap) := oldc hbw1 ltT (by simp [go_sem])
  have q_c1 : w1.cell? ⟨w.heap.size, 1, none⟩ = some (.slice bo2 c.2.length dap2) := oldc hbw1 ltT (by simp [go_sem])
  clear hbw1 hpw1
  cases r1
  · obtain rfl : X = [] := by rw [HX.out]; rfl
    clear h HX H1
    go_wp2
    go_ret
    exact ⟨_, rfl, Ow.nil _ _ _, hBw1⟩
  go_wp2_with fail
  refine (typesFromI_any _ 1 n).mono ?_
  rintro e2 w2 ⟨ut, rfl, ho, hbw2⟩
  have hpw2 : Below w1.heap.size w1 w2 := Below.after bwT hbw2 szT
  have sw2 := hpw2.size
  have hBw2 : Below w.heap.size w w2 := Below.trans hBw1 (Below.mono hpw2 hBw1.size)
  have q_c0 := oldc hpw2 l_c q_c0
  have q_c1 := oldc hpw2 l_c q_c1
  have l_c := Nat.lt_of_lt_of_le l_c sw2
  clear hbw2 hpw2
  obtain ⟨T, hT⟩ : ∃ T, T = typesX 1 n := ⟨_, rfl⟩
  rw [← hT] at ho
  have HF := Lib.hid (show X = T.filter (allowB c) by rw [HX.out, hT]; rfl)
  obtain ⟨tao, tn, tcap, rfl, htn, htc, htm, -⟩ := ho.rd.shape
  subst htn
  obtain ⟨FPS, hF1, hF2, hF3, hF4⟩ := ho.items
  have HI := Lib.hid hF4
  have HND := Lib.hid hF2
  have HIN := Lib.hid hF3
  have HLN := Lib.hid hF1
  have hTL : T.length ≤ 600 := by rw [hT]; exact typesX_len 1 n
  have hrd := Lib.hid ho.rd
  have hcz := Lib.hid h
  obtain ⟨W0, hW0⟩ : ∃ W0 : World, W0 = w2 := ⟨_, rfl⟩
  subst hW0
  have hB0 : Below w.heap.size w W0 := hBw2
  have s0 := hB0.size
  have qa_c0 := q_c0
  have qa_c1 := q_c1
  have la_c : w.heap.size < W0.heap.size := l_c
  clear HX hT hF1 hF2 hF3 hF4 ho h q_c0 q_c1 l_c H1
  go_wp2
  go_loopw [5, 7, 14] (fun s5 _ s14 wr => ∃ i : Nat, i ≤ T.length ∧ s14 = .int .i64 i ∧ Hid (GS W0.heap.size wr 53 s5 ((T.take i).filter (allowB c)) (FPS.take i)) ∧ Below W0.heap.size W0 wr) (fun _ _ s14 _ => T.length - (intOf s14).toNat)
  case atStart => exact ⟨0, Nat.zero_le _, rfl, Lib.hid (GS.start _ _ _), Below.refl _ _⟩
  case round =>
    obtain ⟨wb, hwb⟩ : ∃ wm : World, wm = wr := ⟨_, rfl⟩
    subst hwb
    obtain ⟨i, hi1, rfl, hG, hbb⟩ := hrel
    have sB := hbb.size
    have hBb : Below w.heap.size w wb := hB0.trans (hbb.mono s0)
    have q_c0 := oldc hbb la_c qa_c0
    have q_c1 := oldc hbb la_c qa_c1
    have l_c := Nat.lt_of_lt_of_le la_c sB
    by_cases hli : i < T.length
    · have hIi : (i : Int) < (T.length : Int) := by omega
      obtain ⟨tb, toff, t, tv, rfl, ht, c0, c1, -, -, -, -, tlt, -⟩ := hrd.out.kin_at hli
      obtain ⟨b, off, cs, fp, e, hf, hr, hcs⟩ := HI.out i t ht.out
      simp only [Option.some.injEq, Addr.mk.injEq, and_true] at e
      obtain ⟨rfl, rfl⟩ := e
      obtain ⟨v', rfl, hti, hr2⟩ := repKin_inv hr
      obtain ⟨sao, sn, scap, rfl, hsn, -⟩ := (show Rd true 0 W0.heap.size W0 [v'] t.2 from ⟨fp, hr2, fun b hb => ⟨Nat.zero_le _, Rep.lt hr2 b hb⟩⟩).shape
      subst hsn
      have k0 : wb.cell? ⟨tb, toff + i * 2, none⟩ = some (.int .i64 t.1) := oldc hbb (by omega) (by have := hcs 0 _ rfl; simpa [Rep.sz] using this)
      have k1 : wb.cell? ⟨tb, toff + i * 2 + 1, none⟩ = some (.slice sao t.2.length scap) := oldc hbb (by omega) (by have := hcs 1 _ rfl; simpa [Rep.sz, Nat.add_assoc] using this)
      have hrt := Lib.hid (show Rd true 0 W0.heap.size W0 [.int .i64 t.1, .slice sao t.2.length scap] t from ⟨fp, hr, fun b hb => ⟨Nat.zero_le _, Rep.lt hr b hb⟩⟩)
      have hR := Lib.hid hr
      have HS1 := Lib.hid (take_snoc ht.out)
      have HS2 := Lib.hid (take_snoc hf)
      have HB := Lib.hid (show ∀ b ∈ fp, b < W0.heap.size from fun b hb => Rep.lt hr b hb)
      obtain ⟨r2, hlet_r2⟩ : ∃ r, r = allowB c t := ⟨_, rfl⟩
      have HA := Lib.hid hlet_r2
      clear hlet_r2
      have hbA : Below W0.heap.size W0 (wb.alloc (.cells #[.int .i64 t.1, .slice sao t.2.length scap] 53)) := hbb.alloc sB _
      have hbw : Below w.heap.size w (wb.alloc (.cells #[.int .i64 t.1, .slice sao t.2.length scap] 53)) := hBb.alloc (by omega) _
      have hGA := Lib.hid (hG.out.alloc (.cells #[.int .i64 t.1, .slice sao t.2.length scap] 53))
      clear ht hf hr hcs hr2 hG c0 c1
      go_wp2_with fail
      refine (allowsI_b _ _ _ _ _ c t (hcz.out.below ?k1) (hrt.out.below ?k2) hl1 r2 HA.out).mono ?_
      case k1 => exact hbw
      case k2 => exact hbA
      rintro e w1 ⟨rfl, hb1⟩
      have b0 : w1.cell? ⟨wb.heap.size, 0, none⟩ = some (.int .i64 t.1) := oldc hb1 ltT (by simp [go_sem])
      have b1 : w1.cell? ⟨wb.heap.size, 1, none⟩ = some (.slice sao t.2.length scap) := oldc hb1 ltT (by simp [go_sem])
      have s1 := hb1.size
      simp only [World.size_alloc] at s1
      have hbb1 : Below W0.heap.size W0 w1 := hbA.trans (hb1.mono hbA.size)
      have hG1 := Lib.hid (hGA.out.below hb1)
      have hR1 := Lib.hid (Rep.keep hR.out (fun b hb => hbb1.block b (HB.out b hb)))
      clear hb1 hGA
      cases r2
      · have HN := Lib.hid (hG1.out.skip fp)
        rw [← HS2.out, show (T.take i).filter (allowB c) = (T.take (i + 1)).filter (allowB c) by rw [HS1.out, List.filter_append, List.filter_cons_of_neg (by rw [← HA.out]; decide)]; simp] at HN
        clear hG1 HS1 HS2 HA
        go_wp2
        go_roundw
        case rel => exact ⟨i + 1, by omega, by go_num, HN, hbb1⟩
        case measure => simp [intOf]; omega
      · have hfl : ((T.take i).filter (allowB c)).length ≤ 1000 := by
          have h1 := List.length_filter_le (allowB c) (T.take i)
          have h2 : (T.take i).length ≤ T.length := by rw [List.length_take]; omega
          omega
        have hrA := Lib.hid (show Rep.rep true (w1.alloc (.cells #[.int .i64 t.1, .slice sao t.2.length scap] 53)) [.int .i64 t.1, .slice sao t.2.length scap] t fp from Rep.keep hR1.out (fun b hb => Below.heap_alloc _ _ _ (Rep.lt hR1.out b hb)))
        have hG2 := Lib.hid (hG1.out.alloc (.cells #[.int .i64 t.1, .slice sao t.2.length scap] 53))
        have sW1 : W0.heap.size ≤ (w1.alloc (.cells #[.int .i64 t.1, .slice sao t.2.length scap] 53)).heap.size := by simp; omega
        have hbbA : Below W0.heap.size W0 (w1.alloc (.cells #[.int .i64 t.1, .slice sao t.2.length scap] 53)) := hbb1.alloc (by omega) _
        clear hG1
        go_wp2_with (at_builtin; refine wpList_push_sub rfl rfl slKin (by show (0 : Nat) < 2; omega) hG2.out rfl (ad := ⟨w1.heap.size, 0, none⟩) rfl (cs := [.int .i64 t.1, .slice sao t.2.length scap]) (y := t) ?k4 hrA.out HB.out (by unfold maxLen; omega) (by omega) sW1 ?_)
        case k4 =>
          intro j c hj
          match j, hj with
          | 0, hj => simp at hj; subst hj; simp [Addr.add, go_sem]
          | 1, hj => simp at hj; subst hj; simp [Addr.add, go_sem]
        rintro v2 w2 hG3 hb2
        have HN := Lib.hid hG3
        rw [← HS2.out, show (T.take i).filter (allowB c) ++ [t] = (T.take (i + 1)).filter (allowB c) by rw [HS1.out, List.filter_append, List.filter_cons_of_pos HA.out.symm]; simp] at HN
        have hbb2 := hbbA.trans hb2
        clear hG3 hG2 HS1 HS2 HA hb2
        go_wp2
        go_roundw
        case rel => exact ⟨i + 1, by omega, by go_num, HN, hbb2⟩
        case measure => simp [intOf]; omega
    · obtain rfl : i = T.length := by omega
      have nI : ¬ (T.length : Int) < (T.length : Int) := by omega
      have hG2 := hG.out
      rw [List.take_length, List.take_of_length_le (by rw [HLN.out]; exact Nat.le_refl _)] at hG2
      have HW := Lib.hid (GS.ow hG2 HND.out (l0 := w.heap.size) s0 (fun b hb => by have := HIN.out b hb; omega))
      clear hG hG2
      go_wp2
      go_ret
      exact ⟨_, rfl, by rw [HF.out]; exact HW.out, hBb⟩

end

/-! ### CTyp -/
section

theorem stepPm_isP {n : Nat} {c : Cls} (hc : COk n c) (k sex : Int) : IsP n (stepPm c k sex) := by
  have h1 := isP_inv hc.ch
  have h2 := isP_inv hc.w
  unfold stepPm
  split
  · exact h1
  split
  · exact isP_comp h1 hc.w
  split
  · split
    · exact hc.ch
    · exact isP_comp h2 hc.ch
  split
  · exact h2
  split
  · exact hc.w
  · first | exact isP_id n | rw [hc.w.len]
theorem stepPm_cj {n : Nat} {s : List Int} (hs : IsP n s) {c : Cls} (hc : COk n c) (k sex : Int) : stepPm (cjC s c) k sex = cj s (stepPm c k sex) := by
  have hl : (cjC s c).1.length = n := (cjC_ok hs hc).w.len
  have e1 : (cjC s c).1 = cj s c.1 := rfl
  have e2 : (cjC s c).2 = cj s c.2 := rfl
  unfold stepPm
  rw [hl, hc.w.len, e1, e2]
  split
  · exact (cj_inv hs hc.ch).symm
  split
  · rw [cj_comp hs (isP_inv hc.ch) hc.w, cj_inv hs hc.ch]
  split
  · split
    · rfl
    · rw [cj_comp hs (isP_inv hc.w) hc.ch, cj_inv hs hc.w]
  split
  · exact (cj_inv hs hc.w).symm
  split
  · rfl
  · exact (cj_id hs).symm
theorem tpGo_isP {n : Nat} {c : Cls} (hc : COk n c) : ∀ (l : List Stp) (sex : Int) (o : List Int), IsP n o → IsP n (tpGo c sex o l)
  | [], _, _, h => h
  | s :: l, sex, o, h => tpGo_isP hc l _ _ (isP_comp h (stepPm_isP hc _ _))
theorem tpGo_cj {n : Nat} {s : List Int} (hs : IsP n s) {c : Cls} (hc : COk n c) : ∀ (l : List Stp) (sex : Int) (o : List Int), IsP n o → tpGo (cjC s c) sex (cj s o) l = cj s (tpGo c sex o l)
  | [], _, _, _ => rfl
  | x :: l, sex, o, h => by
    rw [tpGo, tpGo, stepPm_cj hs hc, ← cj_comp hs h (stepPm_isP hc _ _)]
    exact tpGo_cj hs hc l _ _ (isP_comp h (stepPm_isP hc _ _))
theorem typePm_isP {n : Nat} {c : Cls} (hc : COk n c) (t : Kin) : IsP n (typePm c t) := by
  unfold typePm
  rw [hc.w.len]
  exact tpGo_isP hc _ _ _ (isP_id n)
theorem typePm_cj {n : Nat} {s : List Int} (hs : IsP n s) {c : Cls} (hc : COk n c) (t : Kin) : typePm (cjC s c) t = cj s (typePm c t) := by
  unfold typePm
  have hl : (cjC s c).1.length = n := (cjC_ok hs hc).w.len
  rw [hl, hc.w.len]
  have := tpGo_cj hs hc t.2 (egoOf t) (idL n) (isP_id n)
  rwa [cj_id hs] at this
/-- Steps on from o: o, then the steps. -/
theorem tpGo_comp {n : Nat} {c : Cls} (hc : COk n c) : ∀ (l : List Stp) (sex : Int) (o : List Int), IsP n o → tpGo c sex o l = comp o (tpGo c sex (idL n) l)
  | [], _, o, h => (comp_id h).symm
  | x :: l, sex, o, h => by
    have hx := stepPm_isP hc x.1 sex
    rw [tpGo, tpGo, tpGo_comp hc l _ _ (isP_comp h hx), tpGo_comp hc l _ _ (isP_comp (isP_id n) hx), id_comp hx, asc3 h hx]
theorem tpGo_app {c : Cls} : ∀ (l m : List Stp) (sex : Int) (o : List Int), tpGo c sex o (l ++ m) = tpGo c (match l.getLast? with | some s => stSex s.1 | none => sex) (tpGo c sex o l) m
  | [], m, sex, o => rfl
  | [x], m, sex, o => rfl
  | x :: y :: l, m, sex, o => by
    rw [List.cons_append, tpGo, tpGo_app (y :: l) m]
    rfl
theorem typePm_app {n : Nat} {c : Cls} (hc : COk n c) (t : Kin) (m : List Stp) : tpGo c (egoOf t) (idL n) (t.2 ++ m) = comp (typePm c t) (tpGo c (match t.2.getLast? with | some s => stSex s.1 | none => egoOf t) (idL n) m) := by
  have ht := typePm_isP hc t
  rw [tpGo_app]
  have e : typePm c t = tpGo c (egoOf t) (idL n) t.2 := by unfold typePm; rw [hc.w.len]
  rw [← e]
  exact tpGo_comp hc _ _ _ ht
theorem stepPm_gen {n : Nat} {c : Cls} {o : Pms} (hc : COk n c) (h : IsGrp c n o) (k sex : Int) : stepPm c k sex ∈ o := by
  have hw : c.1 ∈ o := by have := h.cw _ h.one; rwa [id_comp hc.w] at this
  have hch : c.2 ∈ o := by have := h.cc _ h.one; rwa [id_comp hc.ch] at this
  have h1 := h.inv hc hch
  have h2 := h.inv hc hw
  unfold stepPm
  split
  · exact h1
  split
  · exact h.cw _ h1
  split
  · split
    · exact hch
    · exact h.cc _ h2
  split
  · exact h2
  split
  · exact hw
  · rw [hc.w.len]; exact h.one
theorem typePm_gen {n : Nat} {c : Cls} {o : Pms} (hc : COk n c) (h : IsGrp c n o) (t : Kin) : typePm c t ∈ o := by
  have key : ∀ (l : List Stp) (sex : Int) (p : List Int), p ∈ o → tpGo c sex p l ∈ o := by
    intro l
    induction l with
    | nil => intro _ _ hp; exact hp
    | cons s l ih => intro sex p hp; exact ih _ _ (h.mul hc hp (h.gen _ (stepPm_gen hc h _ _)))
  unfold typePm
  rw [hc.w.len]
  exact key _ _ _ h.one
theorem allowB_cj {n : Nat} {s : List Int} (hs : IsP n s) {c : Cls} (hc : COk n c) (h1 : 1 ≤ n) (h8 : n ≤ 8) (t : Kin) : allowB (cjC s c) t = allowB c t := by
  unfold allowB tpV
  rw [isCls_of hc h1 h8, isCls_of (cjC_ok hs hc) h1 h8, typePm_cj hs hc]
  have e : decide (cj s (typePm c t) = (cjC s c).1) = decide (typePm c t = c.1) := by
    apply decide_eq_decide.2
    exact ⟨fun e => cj_inj hs (typePm_isP hc t) hc.w e, fun e => by rw [e]; rfl⟩
  rw [e]
theorem allowX_cj {n : Nat} {s : List Int} (hs : IsP n s) {c : Cls} (hc : COk n c) (h1 : 1 ≤ n) (h8 : n ≤ 8) (k : Int) : allowX (cjC s c) k = allowX c k := by
  unfold allowX allowL
  rw [isCls_of hc h1 h8, isCls_of (cjC_ok hs hc) h1 h8, if_pos rfl, if_pos rfl]
  exact List.filter_congr fun t _ => allowB_cj hs hc h1 h8 t

end

/-! ### GLaw -/
section

structure GrpLaw (c : Cls) (s : List Int) (l : Pms) : Prop where
  x : grpX c = l
  v : grpV c = true
  pos : 0 < l.length
  few : l.length ≤ 200
  isp : ∀ g ∈ l, IsP c.1.length g
  nodup : l.Nodup
  mul : ∀ p ∈ l, ∀ q ∈ l, compP p q ∈ l
  inv : ∀ p ∈ l, invP p ∈ l
  rv : relabV c s = true
  dcls : isCls (relabC c s) = true
  dlen : (relabC c s).1.length = c.1.length
  cv : canonV c = true
  dv : canonV (relabC c s) = true
  canon : canonR (relabC c s) = canonR c
  gv : grpV (relabC c s) = true
  glen : (grpX (relabC c s)).length = l.length
  reg : isReg (relabC c s) = isReg c
  forb : forb (relabC c s) = forb c
theorem grp_law {c : Cls} (hc : isCls c = true) (h5 : c.1.length ≤ 5) {s : List Int} (hs : IsP c.1.length s) : ∃ l, GrpLaw c s l := by
  have k := cOk_of hc
  obtain ⟨h1, h8⟩ := (isCls_ok hc).1
  obtain ⟨o, ho, hg⟩ := grp_ok hc h5
  have hrv : relabV c s = true := by
    unfold relabV
    rw [hc, (isPerm_of hs).1, hs.len]; simp
  have hd : relabC c s = cjC s c := by
    have e : relabC c s = relC c s := if_pos hrv
    rw [e, relC_cj hs k]
  have kd := cjC_ok hs k
  have hdc := isCls_of kd h1 h8
  have hdl : (cjC s c).1.length = c.1.length := kd.w.len
  have hod : grpR (cjC s c) = some (o.map (cj s)) := by
    have e := ho
    unfold grpR at e ⊢
    rw [if_pos hc] at e
    rw [if_pos hdc, hdl, gLoop_cj1 hs k, e]; rfl
  have isp : ∀ g ∈ lsrt o, IsP c.1.length g := fun g hgm => hg.isP k (lsrt_mem.1 hgm)
  refine ⟨lsrt o, ?_⟩
  rw [show GrpLaw c s (lsrt o) ↔ GrpLaw c s (lsrt o) from Iff.rfl]
  exact {
    x := by unfold grpX; rw [ho]; rfl
    v := by unfold grpV; rw [ho]; rfl
    pos := by rw [lsrt_len]; exact List.length_pos_of_mem hg.one
    few := by rw [lsrt_len]; exact (grpR_ok ho).2.2
    isp := isp
    nodup := (lsrt_perm o).nodup_iff.2 hg.nodup
    mul := fun p hp q hq => by
      have e : compP p q = comp p q := if_pos ⟨(isPerm_of (isp p hp)).1, (isPerm_of (isp q hq)).1, by rw [(isp p hp).len, (isp q hq).len]⟩
      rw [e]
      exact lsrt_mem.2 (hg.mul k (lsrt_mem.1 hp) (hg.gen _ (lsrt_mem.1 hq)))
    inv := fun p hp => by
      have e : invP p = inv p := if_pos (isPerm_of (isp p hp)).1
      rw [e]
      exact lsrt_mem.2 (hg.inv k (lsrt_mem.1 hp))
    rv := hrv
    dcls := by rw [hd]; exact hdc
    dlen := by rw [hd]; exact hdl
    cv := by unfold canonV; rw [hc]; simpa using h5
    dv := by rw [hd]; unfold canonV; rw [hdc, hdl]; simpa using h5
    canon := by
      have e1 : canonV c = true := by unfold canonV; rw [hc]; simpa using h5
      have e2 : canonV (cjC s c) = true := by unfold canonV; rw [hdc, hdl]; simpa using h5
      rw [hd]
      unfold canonR
      rw [if_pos e1, if_pos e2]
      exact canonC_cj hs k h5
    gv := by rw [hd]; unfold grpV; rw [hod]; rfl
    glen := by rw [hd]; unfold grpX; rw [hod]; show (lsrt (o.map (cj s))).length = _; rw [lsrt_len, lsrt_len, List.length_map]
    reg := by rw [hd]; exact isReg_cj hs k h1 h8
    forb := by rw [hd]; exact forb_cj hs k h1 h8 }
theorem grp_allow {c : Cls} (hc : isCls c = true) {s : List Int} (hs : IsP c.1.length s) (n : Int) : allowX (relabC c s) n = allowX c n := by
  have k := cOk_of hc
  obtain ⟨h1, h8⟩ := (isCls_ok hc).1
  have hrv : relabV c s = true := by
    unfold relabV
    rw [hc, (isPerm_of hs).1, hs.len]; simp
  have hd : relabC c s = cjC s c := by
    have e : relabC c s = relC c s := if_pos hrv
    rw [e, relC_cj hs k]
  rw [hd]
  exact allowX_cj hs k h1 h8 n

end

end Go.Proofs.Ytlnhhfebmeekhaa
