/- Contract of impl.IsRegular. -/
import Derived.Test.YtlnhhfebmeekhaaGrpI
import Derived.Test.YtlnhhfebmeekhaaZ10E
namespace Go.Proofs.Ytlnhhfebmeekhaa
set_option linter.unusedVariables false
set_option linter.unusedSimpArgs false
open Go.RowKit

set_option maxRecDepth 20000 in
set_option maxHeartbeats 4000000 in
theorem isRegI_b {z : Bool} {lo hi : Nat} (w : World) (u v : Value) (c : Cls) (hu : Rd z lo hi w [u, v] c) (hl1 : c.1.length ≤ 1048576) (r : Bool) (hr : r = isReg c) :
    Calls Try.prog 14 #[.agg #[u, v]] w (PostB w r) := by
  obtain ⟨xs, ys⟩ := c
  dsimp only at hl1
  obtain ⟨ao, n, cap, bo, m, dap, rfl, rfl⟩ := shapeCls hu
  obtain ⟨hp, hq⟩ := hu.two rfl
  dsimp only at hp hq
  obtain ⟨ao', n', cap', e, hn, hnc, hcm, hnone⟩ := hp.shape
  simp only [Value.slice.injEq] at e
  obtain ⟨rfl, rfl, rfl⟩ := e
  subst hn
  have HU := Lib.hid hu
  obtain ⟨cb, hcb⟩ : ∃ b, b = isCls (xs, ys) := ⟨_, rfl⟩
  have HCB := Lib.hid hcb
  have HR := Lib.hid hr
  clear hcb hr hp hq hnc hcm hnone hu
  go_enter Try.func14, Try.ntmps14
  go_wp2_with fail
  refine (isClsI_b _ _ _ (xs, ys) (HU.out.below bwT) cb HCB.out).mono ?_
  rintro e1 w1 ⟨rfl, hbw1⟩
  have hpw1 : Below w.heap.size w w1 := Below.after bwT hbw1 szT
  have sw1 := hpw1.size
  have hBw1 : Below w.heap.size w w1 := hpw1
  have l_a : w.heap.size < w1.heap.size := by have := hbw1.size; simp at this; omega
  have q_a0 : w1.cell? ⟨w.heap.size, 0, none⟩ = some (.slice ao xs.length cap) := oldc hbw1 ltT (by simp [go_sem])
  have q_a1 : w1.cell? ⟨w.heap.size, 1, none⟩ = some (.slice bo m dap) := oldc hbw1 ltT (by simp [go_sem])
  clear hbw1 hpw1
  cases cb
  · have HF := Lib.hid (show r = false by rw [HR.out]; unfold isReg; rw [← HCB.out]; rfl)
    go_wp2
    go_ret
    exact ⟨ret_bool HF.out.symm, hBw1⟩
  · have HOK := Lib.hid (isCls_ok HCB.out.symm)
    obtain ⟨hn1, hn8⟩ := HOK.out.1
    dsimp only at hn1 hn8
    obtain ⟨R, hR⟩ : ∃ R, R = gLoop (xs, ys) xs.length (xs.length + 2) 0 [idL xs.length] := ⟨_, rfl⟩
    have HRR := Lib.hid hR
    have HRE := Lib.hid (show r = isRegR xs.length R by rw [HR.out, hR]; unfold isReg; rw [← HCB.out]; rfl)
    clear hR HR
    have hz0 : w.heap.size ≤ w1.heap.size := hBw1.size
    go_wp2_with fail
    refine (group_any _ _ _ (xs, ys) (HU.out.below bwT) HCB.out.symm xs.length (by omega) R HRR.out).mono ?_
    rintro e2 w2 ⟨hb2, hpost⟩
    have hB2 : Below w.heap.size w w2 := Below.after bwT hb2 (by omega)
    have q2 := oldc hb2 l_a q_a0
    have q3 := oldc hb2 l_a q_a1
    have s2 := hb2.size
    have l2 : w.heap.size < w2.heap.size := Nat.lt_of_lt_of_le l_a s2
    cases R with
    | none =>
      obtain rfl := hpost
      have HF := Lib.hid (show r = false from HRE.out)
      clear HRE HRR
      go_wp2
      go_ret
      exact ⟨ret_bool HF.out.symm, hB2⟩
    | some o =>
      obtain ⟨ug, rfl, hog⟩ := hpost
      have hgo := gLoop_ok (c := (xs, ys)) HOK.out.2.1 HOK.out.2.2 rfl (fun q hq => by rw [List.mem_singleton] at hq; subst hq; exact idL_ok _) hn1 HRR.out.symm
      have HGO := Lib.hid (show GOk xs.length (lsrt o) from fun q hq => hgo.1 q (lsrt_mem.1 hq))
      obtain ⟨l, hl⟩ : ∃ l, l = lsrt o := ⟨_, rfl⟩
      have HLN := Lib.hid (show l.length = o.length by rw [hl, lsrt_len])
      have HRE := Lib.hid (show r = (decide (l.length = xs.length) && regTo l xs.length) by rw [HRE.out, HLN.out, hl]; rfl)
      rw [← hl] at hog HGO
      clear hgo hl HRR
      obtain ⟨a2, n2, cap2, rfl, hn2, -⟩ := hog.rd.shape
      have HO := Lib.hid hog.rd
      by_cases hlen : l.length = xs.length
      · rw [hlen] at hn2
        subst hn2
        have HRE := Lib.hid (show r = regTo l xs.length by rw [HRE.out, hlen]; simp)
        clear hog
        go_wp2
        go_loopw [2, 6, 7, 9, 31] (fun _ _ _ _ so wr => ∃ i : Nat, i ≤ xs.length ∧ so = .int .i64 i ∧ Hid (regTo l i = true) ∧ Below w2.heap.size w2 wr) (fun _ _ _ _ so _ => xs.length - (intOf so).toNat)
        case atStart => exact ⟨0, Nat.zero_le _, rfl, Lib.hid rfl, Below.refl _ _⟩
        case round =>
          obtain ⟨wo, hwo⟩ : ∃ x : World, x = wr := ⟨_, rfl⟩
          subst hwo
          obtain ⟨i, hi, rfl, hreg, hbo⟩ := hrel
          have so := hbo.size
          have hBo : Below w.heap.size w wo := hB2.trans (hbo.mono (by omega))
          by_cases hlt : i < xs.length
          · have hI : (i : Int) < (xs.length : Int) := by omega
            have HRS := Lib.hid (regTo_succ l i)
            go_wp2_with (at_make; refine wpList_mk (α := Bool) rfl rfl slBool (y0 := false) (fun _ => ⟨rfl, rfl⟩) rfl rfl rfl rfl (by omega) (by unfold maxLen; omega) ?_; intro w5 how hb5 hlt5)
            have HOW := Lib.hid how
            clear how
            go_loopw [2, 9, 38] (fun _ _ si wi => ∃ j : Nat, j ≤ xs.length ∧ si = .int .i64 j ∧ ∃ s : List Bool, Hid (Ow wo.heap.size (wo.heap.size + 1) wi [.slice (some ⟨wo.heap.size, 0, none⟩) xs.length xs.length] s) ∧ Hid (permGo xs.length s ((colI l i).drop j) = isPerm (colI l i)) ∧ Below wo.heap.size wo wi) (fun _ _ si _ => xs.length - (intOf si).toNat)
            case atStart => exact ⟨0, Nat.zero_le _, rfl, _, HOW, Lib.hid (by unfold isPerm; rw [colI_len, hlen]; rfl), hb5⟩
            case round =>
              obtain ⟨wi, hwi⟩ : ∃ x : World, x = wr := ⟨_, rfl⟩
              subst hwi
              obtain ⟨j, hj, rfl, s, how', hperm, hbi⟩ := hrel
              have si := hbi.size
              clear HOW hb5 hlt5
              have hBi : Below w.heap.size w wi := hBo.trans (hbi.mono hBo.size)
              by_cases hltj : j < xs.length
              · have hJ : (j : Int) < (xs.length : Int) := by omega
                obtain ⟨bl, offl, p, vp, rfl, hp, cp, hrp, -, -, hbl⟩ := ((HO.out.below hbo).below hbi).lists_at hltj
                obtain ⟨ap, np, capp, rfl, hnp, -⟩ := hrp.shape
                have hpok := HGO.out p (List.mem_of_getElem? hp.out)
                rw [hpok.1] at hnp
                subst hnp
                obtain ⟨bx, offx, x, rfl, hx, cx, -, -, -, -, -⟩ := hrp.int_at hlt
                have hxr := hpok.2 x (List.mem_of_getElem? hx.out)
                have hp' := hperm.out
                rw [colI_drop hp.out hx.out] at hp'
                have HP := Lib.hid hp'
                clear hp' hperm hp hx hrp hpok
                obtain ⟨k, rfl⟩ := Int.eq_ofNat_of_zero_le hxr.1
                obtain ⟨y, hy, hcy, hfy, _⟩ := how'.out.bool_at0 (i := k) (by omega)
                have hkI : (k : Int) < xs.length := hxr.2
                cases y with
                | true =>
                  have HF := Lib.hid (show r = false by
                    have h1 : regTo l (i + 1) = false := by rw [HRS.out, ← HP.out, permGo_no3 hy.out]; simp
                    rw [HRE.out]; exact regTo_no hlt h1)
                  clear how' HP hy
                  go_wp2
                  go_ret
                  exact ⟨ret_bool HF.out.symm, hBi⟩
                | false =>
                  have HS := Lib.hid (how'.out.bool_set0 (i := k) (by omega) true)
                  have HN := Lib.hid ((permGo_yes (by omega) hy.out).symm.trans HP.out)
                  clear how' HP hy
                  go_wp2
                  go_roundw
                  case rel => exact ⟨j + 1, by omega, by go_num, _, HS, HN, hbi.setCell (Nat.le_refl _) _⟩
                  case measure => simp [intOf]; omega
              · have nJ : ¬ (j : Int) < (xs.length : Int) := by omega
                have HN := Lib.hid (show regTo l (i + 1) = true by
                  rw [HRS.out, hreg.out, ← hperm.out, List.drop_eq_nil_of_le (by rw [colI_len]; omega)]; rfl)
                clear how' hperm
                go_wp2
                go_roundw
                case rel => exact ⟨i + 1, by omega, by go_num, HN, hbo.trans (hbi.mono so)⟩
                case measure => simp [intOf]; omega
          · obtain rfl : i = xs.length := by omega
            have nI : ¬ (xs.length : Int) < (xs.length : Int) := by omega
            have HF := Lib.hid (show r = true by rw [HRE.out]; exact hreg.out)
            go_wp2
            go_ret
            exact ⟨ret_bool HF.out.symm, hBo⟩
      · subst hn2
        have hne : (l.length : Int) ≠ (xs.length : Int) := by omega
        have HF := Lib.hid (show r = false by rw [HRE.out, decide_eq_false hlen]; rfl)
        clear hog HRE HO
        go_wp2
        go_ret
        exact ⟨ret_bool HF.out.symm, hB2⟩
end Go.Proofs.Ytlnhhfebmeekhaa
