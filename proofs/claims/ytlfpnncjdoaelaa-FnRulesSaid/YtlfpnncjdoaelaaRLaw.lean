/- Plain and small contracts for the law FnRules. -/
import Derived.Test.YtlfpnncjdoaelaaPrsI2
import Derived.Test.YtlfpnncjdoaelaaDrwR2
import Derived.Test.YtlfpnncjdoaelaaDrwT
import Derived.Test.YtlfpnncjdoaelaaJoinS
namespace Go.Proofs.Ytlfpnncjdoaelaa
set_option linter.unusedVariables false
set_option linter.unusedSimpArgs false
open Go.RowKit

theorem matchS_app : ∀ {p x : List Stp} (y : List Stp), p.length ≤ x.length → matchS p (x ++ y) = matchS p x
  | [], _, _, _ => by simp [matchS]
  | _ :: _, [], _, h => by simp at h
  | p :: ps, x :: xs, y, h => by
    rw [List.cons_append, matchS, matchS, matchS_app y (by simpa using h)]
theorem sexAt_same {t : Kin} {m : Stp} {i : Nat} (h0 : t.1 ≠ 0) (hi : i < t.2.length) : sexAt (t.1, t.2 ++ [m]) i = sexAt t i := by
  cases i with
  | zero => show egoOf _ = egoOf _; unfold egoOf; rw [if_neg h0, if_neg h0]
  | succ i => show (match (t.2 ++ [m])[i]? with | some s => stSex s.1 | none => 0) = (match t.2[i]? with | some s => stSex s.1 | none => 0); rw [List.getElem?_append_left (by omega)]
theorem fits_same {r : Rul} {t : Kin} {m : Stp} {i : Nat} (h0 : t.1 ≠ 0) (hi : i < t.2.length) (hl : i + r.2.2.2.1.length ≤ t.2.length) (hp : r.2.2.1 ≠ 2) : fitsB r (t.1, t.2 ++ [m]) i = fitsB r t i := by
  unfold fitsB
  rw [sexAt_same h0 hi]
  dsimp only
  rw [List.drop_append_of_le_length (by omega), matchS_app _ (by rw [List.length_drop]; omega)]
  rw [decide_eq_true (show i + r.2.2.2.1.length ≤ (t.2 ++ [m]).length by simp; omega), decide_eq_true hl]
  rw [decide_eq_true (show r.2.2.1 = 2 → i + r.2.2.2.1.length = (t.2 ++ [m]).length from fun h => absurd h hp), decide_eq_true (show r.2.2.1 = 2 → i + r.2.2.2.1.length = t.2.length from fun h => absurd h hp)]
set_option maxRecDepth 20000 in
set_option maxHeartbeats 8000000 in
theorem sameRules_t {z z' : Bool} {lo hi lo' hi' : Nat} (w : World) (v v' : Value) (rs : List Rul) (h : Rd z lo hi w [v] rs) (h' : Rd z' lo' hi' w [v'] rs) :
    Calls Try.prog 20 #[v, v'] w (PostB w true) := by
  obtain ⟨ao, n, cap, rfl, rfl, hnc, hcm, -⟩ := h.shape
  obtain ⟨ao', n', cap', rfl, hn', -⟩ := h'.shape
  subst hn'
  unfold maxLen at hcm
  have HZ := Lib.hid h
  have HY := Lib.hid h'
  clear h h'
  go_enter Try.func20, Try.ntmps20
  go_wp2
  go_loopw [5, 13] (fun _ s13 wr => ∃ i : Nat, i ≤ rs.length ∧ s13 = .int .i64 i ∧ Below w.heap.size w wr) (fun _ s13 _ => rs.length - (intOf s13).toNat)
  case atStart => exact ⟨0, Nat.zero_le _, rfl, Below.refl _ _⟩
  case round =>
    obtain ⟨wb, hwb⟩ : ∃ wm : World, wm = wr := ⟨_, rfl⟩
    subst hwb
    obtain ⟨i, hi, rfl, hbb⟩ := hrel
    have sB := hbb.size
    by_cases hlt : i < rs.length
    rotate_left
    · have hI : ¬ (i : Int) < (rs.length : Int) := by omega
      go_wp2
      go_ret
      exact ⟨rfl, hbb⟩
    have hI : (i : Int) < (rs.length : Int) := by omega
    obtain ⟨b, off, nm, sx, pl, fr, tw, vfr, vtw, rfl, hx, c0, c1, c2, c3, c4, -, -, -, -, -, hri, -, -, hbl⟩ := (HZ.out.below hbb).dRul_at hlt
    obtain ⟨b', off', nm', sx', pl', fr', tw', vfr', vtw', rfl, hx', d0, d1, d2, d3, d4, -, -, -, -, -, hri', -, -, hbl'⟩ := (HY.out.below hbb).dRul_at hlt
    have e := Option.some.inj (hx.out.symm.trans hx'.out)
    simp only [Prod.mk.injEq] at e
    obtain ⟨rfl, rfl, rfl, rfl, rfl⟩ := e
    obtain ⟨KT, hK⟩ : ∃ KT, KT = ruleTxt ((nm, sx, pl, fr, tw) : Rul) := ⟨_, rfl⟩
    have HK := Lib.hid hK
    have HR1 := Lib.hid hri
    have HR2 := Lib.hid hri'
    have q0 : (KT.toList == KT.toList) = true := by simp
    clear hx hx' hK hri hri'
    go_upto_region 6 with fail
    refine wp_region_held_drew (S := (fun w' => w'.cell? ⟨b, off + i * 5, none⟩ = some (.string nm) ∧ w'.cell? ⟨b, off + i * 5 + 1, none⟩ = some (.int .i64 sx) ∧ w'.cell? ⟨b, off + i * 5 + 2, none⟩ = some (.int .i64 pl) ∧ w'.cell? ⟨b, off + i * 5 + 3, none⟩ = some vfr ∧ w'.cell? ⟨b, off + i * 5 + 4, none⟩ = some vtw ∧ w'.cell? ⟨b', off' + i * 5, none⟩ = some (.string nm) ∧ w'.cell? ⟨b', off' + i * 5 + 1, none⟩ = some (.int .i64 sx) ∧ w'.cell? ⟨b', off' + i * 5 + 2, none⟩ = some (.int .i64 pl) ∧ w'.cell? ⟨b', off' + i * 5 + 3, none⟩ = some vfr' ∧ w'.cell? ⟨b', off' + i * 5 + 4, none⟩ = some vtw')) (by kernel_rfl) ?_ (fun hHeld => ?_)
    · first | exact trivial | ((try dsimp only); go_keep)
    refine tkR 0 (v := ?_) ?_ ?_
    rotate_left
    · intro w hSw; (try dsimp only at hSw); go_simp <;> with_reducible rfl
    try simp only [Act.put, List.setIfInBounds_toArray, List.set_cons_zero, List.set_cons_succ]
    refine tkR 1 (v := ?_) ?_ ?_
    rotate_left
    · intro w hSw; (try dsimp only at hSw); go_simp <;> with_reducible rfl
    try simp only [Act.put, List.setIfInBounds_toArray, List.set_cons_zero, List.set_cons_succ]
    refine tkR 5 (v := ?_) ?_ ?_
    rotate_left
    · intro w hSw; (try dsimp only at hSw); go_simp <;> with_reducible rfl
    try simp only [Act.put, List.setIfInBounds_toArray, List.set_cons_zero, List.set_cons_succ]
    refine tkR 6 (v := ?_) ?_ ?_
    rotate_left
    · intro w hSw; (try dsimp only at hSw); go_simp <;> with_reducible rfl
    try simp only [Act.put, List.setIfInBounds_toArray, List.set_cons_zero, List.set_cons_succ]
    refine tkR 2 (v := ?_) ?_ ?_
    rotate_left
    · intro w hSw; (try dsimp only at hSw); go_simp <;> with_reducible rfl
    try simp only [Act.put, List.setIfInBounds_toArray, List.set_cons_zero, List.set_cons_succ]
    refine tkR 7 (v := ?_) ?_ ?_
    rotate_left
    · intro w hSw; (try dsimp only at hSw); go_simp <;> with_reducible rfl
    try simp only [Act.put, List.setIfInBounds_toArray, List.set_cons_zero, List.set_cons_succ]
    refine tkR 3 (v := ?_) ?_ ?_
    rotate_left
    · intro w hSw; (try dsimp only at hSw); go_simp <;> with_reducible rfl
    try simp only [Act.put, List.setIfInBounds_toArray, List.set_cons_zero, List.set_cons_succ]
    refine tkR 8 (v := ?_) ?_ ?_
    rotate_left
    · intro w hSw; (try dsimp only at hSw); go_simp <;> with_reducible rfl
    try simp only [Act.put, List.setIfInBounds_toArray, List.set_cons_zero, List.set_cons_succ]
    refine wpAnyH_ready (rs := [4]) (by kernel_rfl) (by simp) ?_
    refine rdR (fun K hK => ?_) ?_
    · go_simp
      refine (formatRuleS_x _ _ _ _ _ _ (nm, sx, pl, fr, tw) (HR1.out.below bwT) KT HK.out).mono ?_
      rintro e2 w2 ⟨rfl, hb2⟩
      have hp2 : Below wb.heap.size wb w2 := Below.trans (show Below wb.heap.size wb _ from bwT) (hb2.mono szT)
      have sz2 := hp2.size
      have hS2 := And.intro (oldc hp2 hbl c0) (And.intro (oldc hp2 hbl c1) (And.intro (oldc hp2 hbl c2) (And.intro (oldc hp2 hbl c3) (And.intro (oldc hp2 hbl c4) (And.intro (oldc hp2 hbl' d0) (And.intro (oldc hp2 hbl' d1) (And.intro (oldc hp2 hbl' d2) (And.intro (oldc hp2 hbl' d3) (oldc hp2 hbl' d4)))))))))
      clear hb2
      refine hK.out _ _ ?_ (fun hHeld => ?_)
      · exact kpT
      clear hK K
      try simp only [Act.put, List.setIfInBounds_toArray, List.set_cons_zero, List.set_cons_succ]
      refine wpAnyH_ready (rs := [9]) (by kernel_rfl) (by simp) ?_
      refine rdR (fun K hK => ?_) ?_
      · go_simp
        refine (formatRuleS_x _ _ _ _ _ _ (nm, sx, pl, fr, tw) (HR2.out.below bwT) KT HK.out).mono ?_
        rintro e3 w3 ⟨rfl, hb3⟩
        have hp3 : Below wb.heap.size wb w3 := hp2.trans (hb3.mono sz2)
        have hS3 := And.intro (oldc hp3 hbl c0) (And.intro (oldc hp3 hbl c1) (And.intro (oldc hp3 hbl c2) (And.intro (oldc hp3 hbl c3) (And.intro (oldc hp3 hbl c4) (And.intro (oldc hp3 hbl' d0) (And.intro (oldc hp3 hbl' d1) (And.intro (oldc hp3 hbl' d2) (And.intro (oldc hp3 hbl' d3) (oldc hp3 hbl' d4)))))))))
        clear hb3
        refine hK.out _ _ ?_ (fun hHeld => ?_)
        · exact kpT
        clear hK K
        try simp only [Act.put, List.setIfInBounds_toArray, List.set_cons_zero, List.set_cons_succ]
        refine tkR 10 (v := ?_) ?_ ?_
        rotate_left
        · intro w hSw; (try dsimp only at hSw); go_simp <;> with_reducible rfl
        try simp only [Act.put, List.setIfInBounds_toArray, List.set_cons_zero, List.set_cons_succ]
        refine wpAnyH_done (by kernel_rfl) ?_ _
        go_wp2
        go_roundw
        case rel => exact ⟨i + 1, by omega, by go_num, hbb.trans (hp3.mono sB)⟩
        case measure => simp [intOf]; omega
      exact AllReadyH.nil
    exact AllReadyH.nil
set_option maxRecDepth 20000 in
set_option maxHeartbeats 8000000 in
theorem fitsAtI_b {z z1 : Bool} {lo hi lo1 hi1 : Nat} (w : World) (u0 u1 u2 u3 u4 a b : Value) (r : Rul) (t : Kin) (h : Rd z lo hi w [u0, u1, u2, u3, u4] r) (h' : Rd z1 lo1 hi1 w [a, b] t) (hr : isRule r = true) (ht : isKin t = true) (i : Nat) (hi0 : i < t.2.length) (R : Bool) (hR : R = fitsB r t i) :
    Calls Try.prog 24 #[.agg #[u0, u1, u2, u3, u4], .agg #[a, b], .int .i64 i] w (PostB w R) := by
  obtain ⟨nm, sx, pl, fr, tw⟩ := r
  have HR := Lib.hid h
  have HT := Lib.hid h'
  obtain ⟨vfr, vtw, e1, -, -, -, hfr, htw⟩ := Rd.dRul h
  simp only [List.cons.injEq, and_true] at e1
  obtain ⟨rfl, rfl, rfl, rfl, rfl⟩ := e1
  obtain ⟨fao, fn, fcap, rfl, -⟩ := hfr.shape
  obtain ⟨tao, tn, tcap, rfl, -⟩ := htw.shape
  obtain ⟨rfl, -, hb⟩ := h'.kin
  obtain ⟨sao, sn, scap, rfl, -⟩ := hb.shape
  have H1 := Lib.hid hr.symm
  have H2 := Lib.hid ht.symm
  have H3 := Lib.hid hR
  have hr0 := Lib.hid hr
  have ht0 := Lib.hid ht
  clear h h' hfr htw hb hr ht hR
  go_enter Try.func24, Try.ntmps24
  go_wp2_with fail
  refine (isRuleI_b _ _ _ _ _ _ (nm, sx, pl, fr, tw) (HR.out.below bwT) true H1.out).mono ?_
  rintro e1 w1 ⟨rfl, hbw1⟩
  have hpw1 : Below w.heap.size w w1 := Below.after bwT hbw1 szT
  have sw1 := hpw1.size
  have hBw1 : Below w.heap.size w w1 := hpw1
  have l_r : w.heap.size < w1.heap.size := by have := hbw1.size; simp at this; omega
  have q_r0 : w1.cell? ⟨w.heap.size, 0, none⟩ = some (.string nm) := oldc hbw1 ltT (by simp [go_sem])
  have q_r1 : w1.cell? ⟨w.heap.size, 1, none⟩ = some (.int .i64 sx) := oldc hbw1 ltT (by simp [go_sem])
  have q_r2 : w1.cell? ⟨w.heap.size, 2, none⟩ = some (.int .i64 pl) := oldc hbw1 ltT (by simp [go_sem])
  have q_r3 : w1.cell? ⟨w.heap.size, 3, none⟩ = some (.slice fao fn fcap) := oldc hbw1 ltT (by simp [go_sem])
  have q_r4 : w1.cell? ⟨w.heap.size, 4, none⟩ = some (.slice tao tn tcap) := oldc hbw1 ltT (by simp [go_sem])
  have l_t : w.heap.size + 1 < w1.heap.size := by have := hbw1.size; simp at this; omega
  have q_t0 : w1.cell? ⟨w.heap.size + 1, 0, none⟩ = some (.int .i64 t.1) := oldc hbw1 ltT (by simp [go_sem])
  have q_t1 : w1.cell? ⟨w.heap.size + 1, 1, none⟩ = some (.slice sao sn scap) := oldc hbw1 ltT (by simp [go_sem])
  clear hbw1 hpw1
  go_wp2_with fail
  refine (isTypeI_b _ _ _ t (HT.out.below bwT) true H2.out).mono ?_
  rintro e2 w2 ⟨rfl, hbw2⟩
  have hpw2 : Below w1.heap.size w1 w2 := Below.after bwT hbw2 szT
  have sw2 := hpw2.size
  have hBw2 : Below w.heap.size w w2 := Below.trans hBw1 (Below.mono hpw2 hBw1.size)
  replace q_r0 := oldc hpw2 l_r q_r0
  replace q_r1 := oldc hpw2 l_r q_r1
  replace q_r2 := oldc hpw2 l_r q_r2
  replace q_r3 := oldc hpw2 l_r q_r3
  replace q_r4 := oldc hpw2 l_r q_r4
  replace q_t0 := oldc hpw2 l_t q_t0
  replace q_t1 := oldc hpw2 l_t q_t1
  replace l_r := Nat.lt_of_lt_of_le l_r sw2
  replace l_t := Nat.lt_of_lt_of_le l_t sw2
  clear hbw2 hpw2
  go_wp2_with fail
  refine (fitsI_b _ _ _ _ _ _ _ _ (nm, sx, pl, fr, tw) t (HR.out.below bwT) (HT.out.below bwT) hr0.out ht0.out i hi0 R H3.out).mono ?_
  rintro e3 w3 ⟨rfl, hbw3⟩
  have hpw3 : Below w2.heap.size w2 w3 := Below.after bwT hbw3 szT
  have sw3 := hpw3.size
  have hBw3 : Below w.heap.size w w3 := Below.trans hBw2 (Below.mono hpw3 hBw2.size)
  replace q_r0 := oldc hpw3 l_r q_r0
  replace q_r1 := oldc hpw3 l_r q_r1
  replace q_r2 := oldc hpw3 l_r q_r2
  replace q_r3 := oldc hpw3 l_r q_r3
  replace q_r4 := oldc hpw3 l_r q_r4
  replace q_t0 := oldc hpw3 l_t q_t0
  replace q_t1 := oldc hpw3 l_t q_t1
  replace l_r := Nat.lt_of_lt_of_le l_r sw3
  replace l_t := Nat.lt_of_lt_of_le l_t sw3
  clear hbw3 hpw3
  go_wp2
  go_ret
  exact ⟨rfl, hBw3⟩
end Go.Proofs.Ytlfpnncjdoaelaa
