/- Contracts of the laws' helpers on lists of texts: compare, mark, held. -/
import Derived.Test.YtcbhdmmohdnjbaaGreatBase
namespace Go.Proofs.YtcbhdmmohdnjbaaGreat
set_option linter.unusedVariables false
set_option linter.unusedSimpArgs false
open Go.RowKit

set_option maxRecDepth 20000 in
set_option maxHeartbeats 1000000 in
theorem markText_big (w : World) (k : Nat) (h1 : k ≤ 1152921504606846976) :
    Calls Tryz.prog 59 #[.int .i64 k] w (PostV w (.string (markTxt k))) := by
  obtain ⟨R, hR⟩ : ∃ R, R = markTxt k := ⟨_, rfl⟩
  rw [← hR]
  have HR := Lib.hid hR
  clear hR
  by_cases hk : k = 0
  · subst hk
    go_enter Tryz.func59, Tryz.ntmps59
    go_wp2
    go_ret
    exact ⟨congrArg (fun s => Ending.returned (.string s)) HR.out.symm, bwT⟩
  · have hk1 : ¬ (k : Int) ≤ 0 := by omega
    go_enter Tryz.func59, Tryz.ntmps59
    go_wp2
    go_loopw [0, 3] (fun q s wr => ∃ (t : Nat) (x : ByteArray), q = .int .i64 t ∧ s = .string x ∧ t ≤ k ∧ x.size + t ≤ k ∧ Hid (dg t t x = dg k k ⟨#[]⟩) ∧ Below w.heap.size w wr) (fun q _ _ => (intOf q).toNat)
    case atStart => exact ⟨k, ⟨#[]⟩, rfl, rfl, Nat.le_refl _, (by have : (⟨#[]⟩ : ByteArray).size = 0 := rfl; omega), rfl, bwT⟩
    case round =>
      rename_i wr
      obtain ⟨t, x, rfl, rfl, ht0, hx, hd, hb⟩ := hrel
      have sW := hb.size
      by_cases hlt : 0 < t
      · have hI : (0 : Int) < (t : Int) := by omega
        have kc := conv_dg wr (48 + (t : Int) % 10) (by omega) (by omega)
        have HD := Lib.hid (show dg (t / 10) (t / 10) (dg1 t ++ x) = dg k k ⟨#[]⟩ by
          rw [← hd.out]
          obtain ⟨t', rfl⟩ : ∃ t', t = t' + 1 := ⟨t - 1, by omega⟩
          conv => rhs; rw [dg]
          rw [if_neg (by omega)]
          exact dg_fuel _ _ _ _ (by omega) (by omega))
        have hsz : (dg1 t ++ x).size = 1 + x.size := by rw [ByteArray.size_append]; rfl
        have HZ := Lib.hid hsz
        clear hsz hd
        go_wp2
        go_roundw
        case rel => exact ⟨t / 10, dg1 t ++ x, by go_num, rfl, by omega, by have := HZ.out; omega, HD, bwT⟩
        case measure => simp [intOf]; omega
      · have hI : ¬ (0 : Int) < (t : Int) := by omega
        have HF := Lib.hid (show (⟨#[109]⟩ : ByteArray) ++ x = R by
          have h := hd.out
          rw [show t = 0 by omega, dg_zero] at h
          rw [HR.out, h, markTxt, if_neg hk])
        clear hd HR
        go_wp2
        go_ret
        exact ⟨congrArg (fun s => Ending.returned (.string s)) HF.out, hb⟩
theorem markText_bigx (w : World) (q : Int) (h0 : 0 ≤ q) (h1 : q ≤ 1152921504606846976) (M : ByteArray) (hM : M = markTxt q.toNat) :
    Calls Tryz.prog 59 #[.int .i64 q] w (PostV w (.string M)) := by
  subst hM
  obtain ⟨m, rfl⟩ := Int.eq_ofNat_of_zero_le h0
  exact markText_big w m (by omega)
def marksT (k : Int) (n : Nat) : List ByteArray := (List.range n).map fun i => markTxt (k + (i : Nat)).toNat
theorem marksT_len (k : Int) (n : Nat) : (marksT k n).length = n := by simp [marksT]
theorem marksT_at {k : Int} {n i : Nat} {x : ByteArray} (h : (marksT k n)[i]? = some x) : x = markTxt (k + (i : Nat)).toNat := by
  simp only [marksT, List.getElem?_map, List.getElem?_range, Option.map_eq_some_iff] at h
  obtain ⟨a, ha, rfl⟩ := h
  have : a = i := by
    rw [List.getElem?_eq_some_iff] at ha
    obtain ⟨_, ha⟩ := ha
    simpa using ha.symm
  rw [this]
theorem marksT_step {k : Int} {xs : List ByteArray} {i : Nat} {x : ByteArray} (hx : xs[i]? = some x) : (marksT k i ++ xs.drop i).set i (markTxt (k + (i : Nat)).toNat) = marksT k (i + 1) ++ xs.drop (i + 1) := by
  rw [drop_cons hx, List.set_append_right _ _ (by simp [marksT_len])]
  simp [marksT, List.range_succ]
set_option maxHeartbeats 1000000 in
theorem eqStringS_b {z z' : Bool} {lo hi lo' hi' : Nat} (w : World) (u v : Value) (xs ys : List ByteArray) (h : Rd z lo hi w [u] xs) (h' : Rd z' lo' hi' w [v] ys) (r : Bool) (hr : r = decide (xs = ys)) :
    Calls Tryz.prog 17 #[u, v] w (PostB w r) := by
  subst hr
  obtain ⟨ao, n, cap, rfl, rfl, hnc, hcm, hnone⟩ := h.shape
  obtain ⟨ao', n', cap', rfl, rfl, hnc', hcm', hnone'⟩ := h'.shape
  unfold maxLen at *
  by_cases hl : xs.length = ys.length
  · have HL := Lib.hid hl
    have hl1 : ¬ xs.length < ys.length := by omega
    have hl2 : ¬ ys.length < xs.length := by omega
    have hbne : (((xs.length : Int)) != (ys.length : Int)) = false := by simp [hl]
    clear hl
    go_enter Tryz.func17, Tryz.ntmps17
    go_wp2
    go_loopw [5] (fun i wr => ∃ k : Nat, k ≤ xs.length ∧ i = .int .i64 k ∧ Hid (xs.take k = ys.take k) ∧ Below w.heap.size w wr) (fun i _ => xs.length - (intOf i).toNat)
    case atStart => exact ⟨0, Nat.zero_le _, rfl, rfl, Below.refl _ _⟩
    case round =>
      obtain ⟨k, hk, rfl, ht, hb⟩ := hrel
      by_cases hlt : k < xs.length
      · obtain ⟨b, off, x, rfl, hx, hc, hxs, _⟩ := (h.below hb).str_at hlt
        obtain ⟨b', off', y, rfl, hy, hc', hys, _⟩ := (h'.below hb).str_at (show k < ys.length by omega)
        have hlt' : k < ys.length := by omega
        have hI : (k : Int) < (xs.length : Int) := by omega
        have hI' : (k : Int) < (ys.length : Int) := by omega
        clear h h'
        by_cases hxy : x = y
        · subst hxy
          have HT : Hid (xs.take (k + 1) = ys.take (k + 1)) := by rw [take_snoc hx.out, take_snoc hy.out, ht.out]; rfl
          have hq : (x.toList == x.toList) = true := by simp
          have hq2 : (x.toList != x.toList) = false := by simp
          clear ht hx hy
          go_wp2_with fail
          go_quiet (fail)
          go_wp2
          go_roundw
          case rel => exact ⟨k + 1, by omega, by go_num, HT, below_drewN hb _⟩
          case measure => simp [intOf]; omega
        · have hne : (x.toList == y.toList) = false := by rw [text_eq]; exact decide_eq_false hxy
          have hne2 : (x.toList != y.toList) = true := by rw [bne, hne]; rfl
          have HF : Hid (decide (xs = ys) = false) := by
            simp only [decide_eq_false_iff_not]
            intro e; subst e
            have := hx.out.symm.trans hy.out
            simp at this; exact hxy this
          clear ht hx hy hxy
          go_wp2_with fail
          go_quiet (fail)
          go_wp2
          go_ret
          exact ⟨ret_bool HF.out.symm, below_drewN hb _⟩
      · have hI : ¬ (k : Int) < (xs.length : Int) := by omega
        have HF : Hid (decide (xs = ys) = true) := by
          have ht' := ht.out
          rw [List.take_of_length_le (by omega), List.take_of_length_le (by have := HL.out; omega)] at ht'
          exact decide_eq_true ht'
        clear ht h h'
        go_wp2
        go_ret
        exact ⟨ret_bool HF.out.symm, hb⟩
  · have HF : Hid (decide (xs = ys) = false) := by
      simp only [decide_eq_false_iff_not]
      intro e; exact hl (by rw [e])
    have hbne : (((xs.length : Int)) != (ys.length : Int)) = true := by simp; omega
    clear hl h h'
    go_enter Tryz.func17, Tryz.ntmps17
    go_wp2
    go_ret
    exact ⟨ret_bool HF.out.symm, Below.refl _ _⟩
set_option maxRecDepth 20000 in
set_option maxHeartbeats 1000000 in
theorem markStringS_any (w : World) (v : Value) (xs : List ByteArray) (fp : List Nat) (h : Rep.rep true w [v] xs fp) (k : Int) (hk0 : 0 ≤ k) (hk1 : k + xs.length ≤ 1152921504606846976) :
    Calls Tryz.prog 20 #[v, .int .i64 k] w (PostMark fp w [v] (marksT k xs.length) (k + xs.length)) := by
  have hR : Rd true 0 w.heap.size w [v] xs := ⟨fp, h, fun b hb => ⟨Nat.zero_le _, Rep.lt h b hb⟩⟩
  obtain ⟨ao, n, cap, rfl, rfl, hnc, hcm, hnone⟩ := hR.shape
  clear hR
  unfold maxLen at *
  go_enter Tryz.func20, Tryz.ntmps20
  go_wp2
  go_loopw [1, 5] (fun q i wr => ∃ j : Nat, j ≤ xs.length ∧ i = .int .i64 j ∧ q = .int .i64 (k + j) ∧ Rep.rep true wr [.slice ao xs.length cap] (marksT k j ++ xs.drop j) fp ∧ OffF fp w wr) (fun _ i _ => xs.length - (intOf i).toNat)
  case atStart => exact ⟨0, Nat.zero_le _, rfl, by simp, by simpa [marksT] using h, OffF.refl _ _⟩
  case round =>
    rename_i wr
    obtain ⟨j, hj, rfl, rfl, hr, ho⟩ := hrel
    clear h
    by_cases hlt : j < xs.length
    · have hI : (j : Int) < (xs.length : Int) := by omega
      obtain ⟨M, hM⟩ : ∃ M, M = markTxt (k + (j : Nat)).toNat := ⟨_, rfl⟩
      have HM := Lib.hid hM
      have hMs : M.size ≤ maxLen := by
        have := markTxt_size (k + (j : Nat)).toNat
        rw [← hM] at this; unfold maxLen; omega
      clear hM
      go_wp2_with fail
      refine (markText_bigx _ (k + j) (by omega) (by omega) M HM.out).mono ?_
      rintro e w1 ⟨rfl, hb1⟩
      have hr1 := Rep.keep hr (fun b hb => hb1.block b (Rep.lt hr b hb))
      have ho1 := OffF.below ho hb1
      obtain ⟨b, off, x, cs, f, e, hx, ⟨rfl, hxs, -⟩, _, hm, -, h3, hc0, hf⟩ := rep_at hr1 hlt
      subst e
      have hc : w1.cell? ⟨b, off + j, none⟩ = some (.string x) := by have := hc0 0 (.string x) rfl; simpa [Rep.sz] using this
      have hx' : (marksT k j ++ xs.drop j)[j]? = some x := hx.out
      have hx0 : xs[j]? = some x := by
        rw [List.getElem?_append_right (by simp [marksT_len]), marksT_len, List.getElem?_drop] at hx'
        simpa using hx'
      have hset := rep_setc hr1 (i := j) (j := 0) (x := x) (y := M) (cs := [.string x]) (u := .string M) (fp' := []) (w' := w1) hx' ⟨rfl, hxs, rfl⟩ (by show (0 : Nat) < 1; omega) ⟨rfl, hMs, rfl⟩
      rw [HM.out, marksT_step hx0] at hset
      have HS := Lib.hid (show Rep.rep true (w1.setCell ⟨b, off + j, none⟩ (.string M)) [.slice (some ⟨b, off, none⟩) xs.length cap] (marksT k (j + 1) ++ xs.drop (j + 1)) fp by rw [HM.out]; simpa [Rep.sz] using hset)
      have hfz := hf rfl (off + j)
      have HB := Lib.hid (ho1.setCell (p := ⟨b, off + j, none⟩) hm (.string M))
      clear hset hr hf hx' hx0 ho hx hm hr1 ho1 hb1 hc0
      go_wp2
      go_roundw
      case rel => exact ⟨j + 1, by omega, by go_num, by go_num, HS.out, HB.out⟩
      case measure => simp [intOf]; omega
    · have e : j = xs.length := by omega
      subst e
      have hI : ¬ (xs.length : Int) < (xs.length : Int) := by omega
      have HS := Lib.hid hr
      clear hr
      go_wp2
      go_ret
      exact ⟨rfl, by have := HS.out; rw [List.drop_length, List.append_nil] at this; exact this, ho⟩
set_option maxRecDepth 20000 in
set_option maxHeartbeats 1000000 in
theorem heldStringS_any {z : Bool} {lo hi : Nat} (w : World) (v : Value) (m : Nat) (k : Int) (h : Rd z lo hi w [v] (marksT k m)) (hk0 : 0 ≤ k) (hk1 : k + m ≤ 1152921504606846976) :
    Calls Tryz.prog 21 #[v, .int .i64 k] w (PostI w (k + m)) := by
  obtain ⟨ao, n, cap, rfl, hl, hnc, hcm, hnone⟩ := h.shape
  rw [marksT_len] at hl
  subst hl
  unfold maxLen at *
  have HH := Lib.hid h
  clear h
  go_enter Tryz.func21, Tryz.ntmps21
  go_wp2
  go_loopw [1, 5] (fun q i wr => ∃ j : Nat, j ≤ m ∧ i = .int .i64 j ∧ q = .int .i64 (k + j) ∧ Below w.heap.size w wr) (fun _ i _ => m - (intOf i).toNat)
  case atStart => exact ⟨0, Nat.zero_le _, rfl, by simp, Below.refl _ _⟩
  case round =>
    obtain ⟨wb, hwb⟩ : ∃ wm : World, wm = wr := ⟨_, rfl⟩
    subst hwb
    obtain ⟨j, hj, rfl, rfl, hb⟩ := hrel
    have sB := hb.size
    by_cases hlt : j < m
    · obtain ⟨b, off, x, rfl, hx, hc0, hxs, -, -, bl, -⟩ := HH.out.str_at hlt
      have hc := oldc hb bl hc0
      have hx' := marksT_at hx.out
      have HX := Lib.hid hx'
      have hI : (j : Int) < (m : Int) := by omega
      have hq : (x.toList == x.toList) = true := by simp
      have hq2 : (x.toList != x.toList) = false := by simp
      have lb : b < wb.heap.size := by omega
      clear hx hx' hc0
      go_upto_region 4 with fail
      refine wp_region_held_drew (S := (fun w' => w'.cell? ⟨b, off + j, none⟩ = some (.string x))) (by kernel_rfl) ?_ (fun hHeld => ?_)
      · first | exact trivial | ((try dsimp only); go_keep)
      refine tkR 0 (v := ?_) ?_ ?_
      rotate_left
      · intro w hSw; (try dsimp only at hSw); go_simp <;> with_reducible rfl
      try simp only [Act.put, List.setIfInBounds_toArray, List.set_cons_zero, List.set_cons_succ]
      refine tkR 1 (v := ?_) ?_ ?_
      rotate_left
      · intro w hSw; (try dsimp only at hSw); go_simp <;> with_reducible rfl
      try simp only [Act.put, List.setIfInBounds_toArray, List.set_cons_zero, List.set_cons_succ]
      refine tkR 4 (v := ?_) ?_ ?_
      rotate_left
      · intro w hSw; (try dsimp only at hSw); go_simp <;> with_reducible rfl
      try simp only [Act.put, List.setIfInBounds_toArray, List.set_cons_zero, List.set_cons_succ]
      refine tkR 2 (v := ?_) ?_ ?_
      rotate_left
      · intro w hSw; (try dsimp only at hSw); go_simp <;> with_reducible rfl
      try simp only [Act.put, List.setIfInBounds_toArray, List.set_cons_zero, List.set_cons_succ]
      refine tkR 3 (v := ?_) ?_ ?_
      rotate_left
      · intro w hSw; (try dsimp only at hSw); go_simp <;> with_reducible rfl
      try simp only [Act.put, List.setIfInBounds_toArray, List.set_cons_zero, List.set_cons_succ]
      refine wpAnyH_ready (rs := [5]) (by kernel_rfl) (by simp) ?_
      refine rdR (fun K hK => ?_) ?_
      · go_simp
        refine (markText_bigx _ (k + j) (by omega) (by omega) x HX.out).mono ?_
        rintro e1 w1 ⟨rfl, hb1⟩
        have hp1 : Below wb.heap.size wb w1 := Below.trans (show Below wb.heap.size wb _ from bwT) (hb1.mono szT)
        have hS1 := oldc hp1 lb hc
        clear hb1
        refine hK.out _ _ ?_ (fun hHeld => ?_)
        · exact kpT
        clear hK K
        try simp only [Act.put, List.setIfInBounds_toArray, List.set_cons_zero, List.set_cons_succ]
        refine tkR 6 (v := ?_) ?_ ?_
        rotate_left
        · intro w hSw; (try dsimp only at hSw); go_simp <;> with_reducible rfl
        try simp only [Act.put, List.setIfInBounds_toArray, List.set_cons_zero, List.set_cons_succ]
        refine wpAnyH_done (by kernel_rfl) ?_ _
        have hB1 : Below w.heap.size w w1 := hb.trans (hp1.mono sB)
        go_wp2
        go_roundw
        case rel => exact ⟨j + 1, by omega, by go_num, by go_num, hB1⟩
        case measure => simp [intOf]; omega
      exact AllReadyH.nil
    · have e : j = m := by omega
      subst e
      have hI : ¬ (j : Int) < (j : Int) := by omega
      go_wp2
      go_ret
      exact ⟨rfl, hb⟩
end Go.Proofs.YtcbhdmmohdnjbaaGreat
