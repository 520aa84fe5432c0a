/- Contract: the program's sample terminologies. Written by trsi_gen.py. -/
import Derived.Test.YtlfpnncjdoaelaaSmpI
import Derived.Test.YtlfpnncjdoaelaaTrsS
import Derived.Lib.SliceRun
namespace Go.Proofs.Ytlfpnncjdoaelaa
set_option linter.unusedVariables false
set_option linter.unusedSimpArgs false
open Go.RowKit

theorem line_len : ∀ l ∈ lineL, l.length ≤ 64 := by decide
theorem smpX_num (l : Bs) : (smpX l).length = if l = [103, 101, 110, 101, 114, 97, 116, 105, 111, 110] then 12 else if l = [109, 101, 114, 103, 105, 110, 103] then 10 else if l = [115, 107, 101, 119, 105, 110, 103] then 12 else 0 := by
  unfold smpX smpT
  rw [List.length_map]
  split
  · rfl
  · split
    · rfl
    · split <;> rfl
def PostSn (w : World) (X : List Rul) (e : Ending) (w' : World) : Prop := ∃ v, e = .returned v ∧ Ow w.heap.size w'.heap.size w' [v] X ∧ ((X = [] ∧ v = .slice none 0 0) ∨ (∃ g cap, v = .slice (some ⟨g, 0, none⟩) X.length cap ∧ X ≠ [])) ∧ Below w.heap.size w w'
theorem nil_trm (lo hi : Nat) (w : World) : Ow lo hi w [.slice none 0 0, .slice none 0 0] (([], []) : Trm) :=
  ⟨[], ⟨[.slice none 0 0], [.slice none 0 0], [], [], rfl, rfl, ⟨_, rfl, none, 0, 0, rfl, rfl, Nat.le_refl _, by simp [maxLen], fun _ => rfl, .inl ⟨rfl, rfl⟩⟩, ⟨_, rfl, none, 0, 0, rfl, rfl, Nat.le_refl _, by simp [maxLen], fun _ => rfl, .inl ⟨rfl, rfl⟩⟩⟩, fun _ h => (by cases h), List.nodup_nil⟩
theorem sampleI_y (w : World) (m : Int) (hm : w.cell? ⟨0, 0, none⟩ = some (.int .i64 m)) (hgl : 0 < w.heap.size) (s : ByteArray) (X : List Rul) (hX : X = smpX s.data.toList) :
    Calls Try.prog 8 #[.string s] w (PostSn w X) := by
  refine (sampleI_any w m hm hgl s X hX).mono ?_
  rintro e w' ⟨v, rfl, ho, hb, hd⟩
  exact ⟨v, rfl, ho, hd, hb⟩
set_option maxRecDepth 20000 in
set_option maxHeartbeats 16000000 in
theorem sampTI_any (w : World) (m : Int) (hm : w.cell? ⟨0, 0, none⟩ = some (.int .i64 m)) (hgl : 0 < w.heap.size) (s : ByteArray) (X : Trm) (hX : X = trmX s.data.toList) :
    Calls Try.prog 13 #[.string s] w (PostOw2 w X) := by
  obtain ⟨b1, hlet_b1⟩ : ∃ r, r = decide (s.data.toList = [103, 101, 110, 101, 114, 97, 116, 105, 111, 110]) := ⟨_, rfl⟩
  have H1 := Lib.hid hlet_b1
  clear hlet_b1
  obtain ⟨b2, hlet_b2⟩ : ∃ r, r = decide (s.data.toList = [109, 101, 114, 103, 105, 110, 103]) := ⟨_, rfl⟩
  have H2 := Lib.hid hlet_b2
  clear hlet_b2
  obtain ⟨b3, hlet_b3⟩ : ∃ r, r = decide (s.data.toList = [115, 107, 101, 119, 105, 110, 103]) := ⟨_, rfl⟩
  have H3 := Lib.hid hlet_b3
  clear hlet_b3
  have q1 := lit_eq s [103, 101, 110, 101, 114, 97, 116, 105, 111, 110]
  have q2 := lit_eq s [109, 101, 114, 103, 105, 110, 103]
  rw [← H1.out] at q1
  rw [← H2.out] at q2
  obtain ⟨RS, hRS⟩ : ∃ R, R = smpX s.data.toList := ⟨_, rfl⟩
  obtain ⟨N, hN⟩ : ∃ N, N = trmN s.data.toList := ⟨_, rfl⟩
  have HN := Lib.hid (show N = if b1 = true then 8 else if b2 = true then 14 else if b3 = true then 12 else 0 by rw [hN, trmN, H1.out, H2.out, H3.out]; simp only [decide_eq_true_eq])
  have HRL := Lib.hid (show RS.length = if b1 = true then 12 else if b2 = true then 10 else if b3 = true then 12 else 0 by rw [hRS, smpX_num, H1.out, H2.out, H3.out]; simp only [decide_eq_true_eq])
  have HX := Lib.hid (show X = (RS, (pairL.take N).map entSG) by rw [hX, trmX, hRS, hN])
  have HRS := Lib.hid hRS
  clear hX hRS hN
  go_enter Try.func13, Try.ntmps13
  go_wp2_with fail
  refine (sampleI_y _ m (oldc bwT hgl hm) (Nat.lt_of_lt_of_le hgl (show w.heap.size ≤ _ from Below.size (show Below w.heap.size w _ from bwT))) s RS HRS.out).mono ?_
  rintro e1 w1 ⟨rv, rfl, hor, hnil, hbw1⟩
  have hpw1 : Below w.heap.size w w1 := Below.after bwT hbw1 szT
  have sw1 := hpw1.size
  have hBw1 : Below w.heap.size w w1 := hpw1
  have l_r : w.heap.size < w1.heap.size := by have := hbw1.size; simp at this; omega
  have q_r0 : w1.cell? ⟨w.heap.size, 0, none⟩ = some (.slice none 0 0) := oldc hbw1 ltT (by simp [go_sem])
  have q_r1 : w1.cell? ⟨w.heap.size, 1, none⟩ = some (.slice none 0 0) := oldc hbw1 ltT (by simp [go_sem])
  have f_r : ∀ o, w1.frozen? ⟨w.heap.size, o, none⟩ = false := fun o => (hbw1.frozen (p := ⟨w.heap.size, o, none⟩) ltT).trans (by simp [go_sem])
  clear hbw1 hpw1
  have hl1 : w.heap.size < (w1).heap.size := l_r
  obtain ⟨W1, hW1⟩ : ∃ W : World, W = w1 := ⟨_, rfl⟩
  subst hW1
  have hB1 : Below w.heap.size w W1 := hBw1
  have HOR := Lib.hid hor
  clear hor HRS
  cases b1
  rotate_left
  · obtain rfl : b2 = false := by rw [H2.out, of_decide_eq_true H1.out.symm]; decide
    obtain ⟨rg, rcap, rfl, hrne⟩ : ∃ rg rcap, rv = .slice (some ⟨rg, 0, none⟩) RS.length rcap ∧ RS ≠ [] := by
      rcases hnil with ⟨e, -⟩ | ⟨g, c, e, h⟩
      · have := HRL.out; rw [e] at this; cases this
      · exact ⟨g, c, e, h⟩
    have hnn : (binOp .eql 22 (.slice (some ⟨rg, 0, none⟩) RS.length rcap) (.slice none 0 0)).run Try.prog W1 = .ok (.bool false) W1 := Lib.run_eql_slice_nil W1 22 37 _ _ _ _ _ Try.underlying22
    obtain ⟨W3, hW3⟩ : ∃ W : World, W = W1.alloc (.cells (((lineL.take 8).map txt).map Value.string).toArray 9) := ⟨_, rfl⟩
    obtain ⟨TL, hTL⟩ : ∃ L, L = (lineL.take 8).map txt := ⟨_, rfl⟩
    have h8 := sz_lits (ls := lineL.take 8) (by decide)
    have HZ := Lib.hid (show Rd false 0 (W1.heap.size + 1) W3 [.slice (some ⟨W1.heap.size, 0, none⟩) 8 8] TL by rw [hW3, hTL]; exact (Ow.strs_lit0 W1 9 _ h8.1 h8.2).rd.weak.mono (Nat.zero_le _) (Nat.le_refl _))
    have hB13 : Below W1.heap.size W1 W3 := by rw [hW3]; exact bwT
    have hB3 : Below w.heap.size w W3 := hB1.trans (hB13.mono hB1.size)
    have HB13 := Lib.hid hB13
    have HTL := Lib.hid hTL
    have HW3 := Lib.hid hW3
    clear h8 hTL hW3 hB13 hnil HRL hrne
    have lG3 : W1.heap.size ≤ W1.heap.size + 1 := by omega
    go_wp2
    go_loopw [7, 8, 9, 10, 11, 12, 33] (fun _ _ _ _ _ _ s33 wr => ∃ (i : Nat) (ev : Value), i ≤ 8 ∧ s33 = .int .i64 i ∧ wr.cell? ⟨W1.heap.size + 1, 0, none⟩ = some (.slice (some ⟨rg, 0, none⟩) RS.length rcap) ∧ wr.cell? ⟨W1.heap.size + 1, 1, none⟩ = some ev ∧ (∀ o, wr.frozen? ⟨W1.heap.size + 1, o, none⟩ = false) ∧ W1.heap.size + 1 < wr.heap.size ∧ Hid (GL true (W1.heap.size + 1 + 1) (W1.heap.size + 1 + 1) wr.heap.size wr 68 ev ((pairL.take i).map entSG)) ∧ Below (W1.heap.size + 1) W3 wr) (fun _ _ _ _ _ _ s33 _ => 8 - (intOf s33).toNat)
    case atStart => exact ⟨0, .slice none 0 0, Nat.zero_le _, rfl, by simp [go_sem], by simp [go_sem], fun o => by simp [go_sem], by simp, Lib.hid (GL.start _ _ _ _ _ _), by rw [HW3.out]; exact (Below.refl _ _).alloc (by simp) _⟩
    case round =>
      obtain ⟨wb, hwb⟩ : ∃ wm : World, wm = wr := ⟨_, rfl⟩
      subst hwb
      obtain ⟨i, ev, hi, rfl, y0, y1, yf, lG, hG, hbb⟩ := hrel
      have hBw : Below w.heap.size w wb := Below.trans hB3 (hbb.mono (by omega))
      by_cases hlt : i < 8
      · have hI : (i : Int) < 8 := by omega
        obtain ⟨bb, off, x, e0, hxi, hc, -⟩ := (HZ.out.keep (Below.zone hbb 0)).str_at (i := i) hlt
        simp only [Option.some.injEq, Addr.mk.injEq] at e0
        obtain ⟨rfl, rfl, -⟩ := e0
        simp only [Nat.zero_add] at hc
        have hx2 : ((lineL.take 8).map txt)[i]? = some x := by have := hxi.out; rwa [HTL.out] at this
        obtain ⟨l, hl, hxl⟩ : ∃ l, lineL[i]? = some l ∧ x = txt l := by
          rw [List.getElem?_map, List.getElem?_take] at hx2
          rw [if_pos hlt] at hx2
          cases h : lineL[i]? with
          | none => rw [h] at hx2; cases hx2
          | some l => rw [h] at hx2; exact ⟨l, rfl, (Option.some.inj hx2).symm⟩
        have hxs : x.size ≤ 64 := by rw [hxl, size_txt]; exact line_len l (List.mem_of_getElem? hl)
        obtain ⟨A, hA⟩ : ∃ A, A = txt (Lib.cut x.data.toList [32]).1 := ⟨_, rfl⟩
        obtain ⟨B, hB⟩ : ∃ B, B = txt (Lib.cut x.data.toList [32]).2.1 := ⟨_, rfl⟩
        obtain ⟨cc, hcc⟩ : ∃ c, c = (Lib.cut x.data.toList [32]).2.2 := ⟨_, rfl⟩
        have sA : A.size ≤ x.size := by rw [hA, size_txt]; have := (cut_len x.data.toList [32]).1; rw [← Lib.size_eq] at this; exact this
        have sB : B.size ≤ x.size := by rw [hB, size_txt]; have := (cut_len x.data.toList [32]).2; rw [← Lib.size_eq] at this; exact this
        obtain ⟨O, hO⟩ : ∃ O, O = typeI A.data.toList := ⟨_, rfl⟩
        obtain ⟨t, ht⟩ : ∃ t, t = O.getD (0, []) := ⟨_, rfl⟩
        have HE := Lib.hid (show (pairL.take (i + 1)).map entSG = (pairL.take i).map entSG ++ [(t, B)] by
          rw [← line_take, ← line_take, map_at hl, ht, hO, hA, hB, hxl, list_txt, list_txt]; rfl)
        obtain ⟨P, hP⟩ : ∃ P, P = (pairL.take i).map entSG := ⟨_, rfl⟩
        rw [← hP] at HE hG
        have hPl : P.length ≤ 14 := by rw [hP, List.length_map, List.length_take]; omega
        obtain ⟨eao, ecap, rfl, -, -⟩ := hG.out.len
        have HA := Lib.hid hA
        have HB := Lib.hid hB
        have HC := Lib.hid hcc
        have HO := Lib.hid hO
        have HT := Lib.hid ht
        clear hxi hx2 hl hxl hA hB hcc hO ht hP
        go_wp2_with fail
        refine (cut_any _ m (oldc hBw hgl hm) x ⟨#[32]⟩ A B (by omega) cc HA.out HB.out HC.out).mono ?_
        rintro e1 w1 ⟨rfl, hb1⟩
        have s1 := hb1.size
        go_wp2_with fail
        refine (parseTypeI_any _ A (by omega) O HO.out).mono ?_
        rintro e2 w2 ⟨ta, tb, rfl, hok, hb2⟩
        rw [← HT.out] at hok
        obtain ⟨te, tl⟩ := t
        obtain ⟨rfl, -, hts⟩ := hok.rd.kin
        obtain ⟨bao, bn, bcap, rfl, -⟩ := hts.shape
        have s2 := hb2.size
        have hp2 : Below wb.heap.size wb w2 := hb1.trans (hb2.mono s1)
        have HIT := Lib.hid (hok.ent_it (tm := B) (by unfold maxLen; omega))
        have HG2 := Lib.hid (hG.out.below hp2)
        have y0 := oldc hp2 lG y0
        have y1 := oldc hp2 lG y1
        have yf : ∀ o, w2.frozen? ⟨W1.heap.size + 1, o, none⟩ = false := fun o => (hp2.frozen (p := ⟨W1.heap.size + 1, o, none⟩) lG).trans (yf o)
        have lG2 : W1.heap.size + 1 < w2.heap.size := by omega
        have hB2 : Below (W1.heap.size + 1) W3 w2 := hbb.trans (hp2.mono (by omega))
        have n1 : ¬ W1.heap.size + 1 = w2.heap.size := by omega
        have n2 : ¬ w2.heap.size = W1.heap.size + 1 := by omega
        have n3 : ¬ W1.heap.size + 1 = w2.heap.size + 1 := by omega
        have n4 : ¬ w2.heap.size + 1 = W1.heap.size + 1 := by omega
        clear hok hts hb1 hb2 hp2 hG HA HB HC HO HT hc
        go_wp2_with (at_builtin; refine wpList_push_at rfl rfl slEntry (by show (0 : Nat) < 3; omega) (HG2.out.below ?b1x1) rfl (ad := ⟨w2.heap.size + 1, 0, none⟩) rfl (cs := [.int .i64 te, .slice bao bn bcap, .string B]) (y := (((te, tl), B) : Ent)) (lx := w1.heap.size) (hx' := w2.heap.size) ?c1x1 (It.below HIT.out ?b2x1) ?c3x1 (.inl (by omega)) (by unfold maxLen; omega) (by omega) ?c2x1 ?_)
        case b1x1 => exact bwT
        case b2x1 => exact bwT
        case c1x1 =>
          intro j c hj
          match j, hj with
          | 0, hj => simp at hj; subst hj; simp [Addr.add, go_sem]
          | 1, hj => simp at hj; subst hj; simp [Addr.add, go_sem]
          | 2, hj => simp at hj; subst hj; simp [Addr.add, go_sem]
        case c2x1 => simp; omega
        case c3x1 => omega
        intro g5 cap5 w5 hG5 _ hb5 _
        have hp5 : Below (W1.heap.size + 1 + 1) w2 w5 := Below.trans (show Below (W1.heap.size + 1 + 1) w2 _ from bwT) hb5
        have s5 := hp5.size
        have z0 := oldc hp5 (Nat.lt_succ_self _) y0
        have z1 := oldc hp5 (Nat.lt_succ_self _) y1
        have zf : ∀ o, w5.frozen? ⟨W1.heap.size + 1, o, none⟩ = false := fun o => (hp5.frozen (p := ⟨W1.heap.size + 1, o, none⟩) (Nat.lt_succ_self _)).trans (yf o)
        have hB5 : Below (W1.heap.size + 1) W3 w5 := hB2.trans (hp5.mono (by omega))
        have HG5 := Lib.hid hG5
        have HGX := Lib.hid (show GL true (W1.heap.size + 1 + 1) (W1.heap.size + 1 + 1) _ (w5.setCell ⟨W1.heap.size + 1, 1, none⟩ (.slice (some ⟨g5, 0, none⟩) (P.length + 1) cap5)) 68 (.slice (some ⟨g5, 0, none⟩) (P.length + 1) cap5) ((pairL.take (i + 1)).map entSG) by
          rw [HE.out]; exact (HG5.out.keep zmT zmT).top)
        have l5 : W1.heap.size + 1 < w5.heap.size := by omega
        clear HG2 HIT hG5 hb5 hp5 HG5 HE y0 y1 yf n1 n2 n3 n4
        go_wp2
        go_roundw
        case rel => exact ⟨i + 1, _, by omega, by go_num, by simp [go_sem, *], by simp [go_sem, *], (fun o => by simp [go_sem, *]), (by simp; omega), HGX, bwT⟩
        case measure => simp [intOf]; omega
      · obtain rfl : i = 8 := by omega
        obtain ⟨eao, ecap, rfl, -, -⟩ := hG.out.len
        have HGO := Lib.hid (hG.out.ow (l0 := W1.heap.size + 1 + 1) (Nat.le_refl _) (Nat.le_refl _))
        have HB3 := Lib.hid (HB13.out.trans (hbb.mono (by omega)))
        replace q_r0 := oldc HB3.out l_r q_r0
        replace q_r1 := oldc HB3.out l_r q_r1
        replace f_r : ∀ o, wb.frozen? ⟨w.heap.size, o, none⟩ = false := fun o => (HB3.out.frozen (p := ⟨w.heap.size, o, none⟩) l_r).trans (f_r o)
        have HOX := Lib.hid (show Ow (w.heap.size + 1) wb.heap.size wb [.slice (some ⟨rg, 0, none⟩) RS.length rcap, .slice eao ((pairL.take 8).map entSG).length ecap] X by
          rw [HX.out, show N = 8 from HN.out]
          exact Ow.pair (l := w.heap.size + 1) (h := wb.heap.size) (HOR.out.below HB3.out) HGO.out (.inl (by omega)) (by simp) (by omega) (by omega) (Nat.le_refl _))
        have n1 : ¬ W1.heap.size + 1 = w.heap.size := by omega
        have n2 : ¬ w.heap.size = W1.heap.size + 1 := by omega
        have hlw : w.heap.size < wb.heap.size := by omega
        clear hG HGO HOR HX HB3 HB13 HZ HTL
        go_wp2
        exact bodyPost_ret (v := .agg #[.slice (some ⟨rg, 0, none⟩) RS.length rcap, .slice eao ((pairL.take 8).map entSG).length ecap]) (by simp [results, go_sem, *]) rfl ⟨_, _, rfl, (HOX.out.keep zmT).mono (by omega) (by simp), bwT⟩
  cases b2
  rotate_left
  · obtain rfl : N = 14 := HN.out
    clear HN
    have HN := Lib.hid (rfl : 14 = 14)
    obtain ⟨rg, rcap, rfl, hrne⟩ : ∃ rg rcap, rv = .slice (some ⟨rg, 0, none⟩) RS.length rcap ∧ RS ≠ [] := by
      rcases hnil with ⟨e, -⟩ | ⟨g, c, e, h⟩
      · have := HRL.out; rw [e] at this; cases this
      · exact ⟨g, c, e, h⟩
    have hnn : (binOp .eql 22 (.slice (some ⟨rg, 0, none⟩) RS.length rcap) (.slice none 0 0)).run Try.prog W1 = .ok (.bool false) W1 := Lib.run_eql_slice_nil W1 22 37 _ _ _ _ _ Try.underlying22
    have h8 := sz_lits (ls := lineL.take 8) (by decide)
    have h4 := sz_lits (ls := (lineL.drop 8).take 4) (by decide)
    have HG8 := Lib.hid (show GL true W1.heap.size W1.heap.size (W1.heap.size + 1) ((W1.alloc (.cells (((lineL.take 8).map txt).map Value.string).toArray 9)).alloc (.cells ((((lineL.drop 8).take 4).map txt).map Value.string).toArray 9)) 9 (.slice (some ⟨W1.heap.size, 0, none⟩) 8 8) ((lineL.take 8).map txt) from (GL.strs true W1.heap.size W1.heap.size W1 9 ((lineL.take 8).map txt) h8.1 h8.2 (Nat.le_refl _)).alloc _)
    have HL4 := Lib.hid (show Rd true (W1.heap.size + 1) (W1.heap.size + 1 + 1) ((W1.alloc (.cells (((lineL.take 8).map txt).map Value.string).toArray 9)).alloc (.cells ((((lineL.drop 8).take 4).map txt).map Value.string).toArray 9)) [.slice (some ⟨W1.heap.size + 1, 0, none⟩) 4 4] (((lineL.drop 8).take 4).map txt) by
      have h := (Ow.strs_lit0 (W1.alloc (.cells (((lineL.take 8).map txt).map Value.string).toArray 9)) 9 (((lineL.drop 8).take 4).map txt) h4.1 h4.2).rd
      rw [World.size_alloc] at h
      exact h)
    clear h8 h4 hnil HRL hrne
    go_wp2_with (at_builtin; refine wpList_spread_flat (ys := ((lineL.drop 8).take 4).map txt) rfl rfl slStrP (by show (0 : Nat) < 1; omega) HG8.out rfl (vs := .slice (some ⟨W1.heap.size + 1, 0, none⟩) 4 4) rfl HL4.out (by unfold maxLen; decide) (by decide) ltT ?_)
    intro tv w2 hG0 _ hb0
    have h2 := sz_lits (ls := lineL.drop 12) (by decide)
    have HG12 := Lib.hid (show GL true W1.heap.size W1.heap.size w2.heap.size (w2.alloc (.cells (((lineL.drop 12).map txt).map Value.string).toArray 9)) 9 tv (((lineL.take 8).map txt) ++ (((lineL.drop 8).take 4).map txt)) from hG0.alloc _)
    have HL2 := Lib.hid (show Rd true w2.heap.size (w2.heap.size + 1) (w2.alloc (.cells (((lineL.drop 12).map txt).map Value.string).toArray 9)) [.slice (some ⟨w2.heap.size, 0, none⟩) 2 2] ((lineL.drop 12).map txt) from (Ow.strs_lit0 w2 9 ((lineL.drop 12).map txt) h2.1 h2.2).rd)
    have hB12 : Below W1.heap.size W1 w2 := Below.trans (show Below W1.heap.size W1 _ from bwT) hb0
    have s12 := hB12.size
    obtain ⟨vao, vcap, rfl, -, -⟩ := hG0.len
    clear h2 hG0 hb0 HG8 HL4
    go_wp2_with (at_builtin; refine wpList_spread_flat (ys := (lineL.drop 12).map txt) rfl rfl slStrP (by show (0 : Nat) < 1; omega) HG12.out rfl (vs := .slice (some ⟨w2.heap.size, 0, none⟩) 2 2) rfl HL2.out (by unfold maxLen; decide) (by decide) (by simp; omega) ?_)
    intro tv W3 hG0 _ hb0
    obtain ⟨TL, hTL⟩ : ∃ L, L = (lineL.take 14).map txt := ⟨_, rfl⟩
    have HTL := Lib.hid hTL
    have hTLn : TL.length = 14 := by rw [hTL]; rfl
    have hG0 : GL true W1.heap.size W1.heap.size W3.heap.size W3 9 tv TL := by rw [hTL]; exact hG0
    obtain ⟨tao, tcap, htv, -, -⟩ := hG0.len
    rw [hTLn] at htv
    subst htv
    have HZ := Lib.hid (hG0.rd (l0 := 0) (Nat.zero_le _) (Nat.zero_le _)).weak
    have hB13 : Below W1.heap.size W1 W3 := hB12.trans (Below.trans (show Below W1.heap.size w2 _ from bwT) hb0)
    have hB3 : Below w.heap.size w W3 := hB1.trans (hB13.mono hB1.size)
    have s13 := hB13.size
    have HB13 := Lib.hid hB13
    clear hG0 hb0 hTL hTLn hB13 HG12 HL2
    have lG3 : W1.heap.size ≤ W3.heap.size := by omega
    go_wp2
    go_loopw [7, 8, 9, 10, 11, 12, 33] (fun _ _ _ _ _ _ s33 wr => ∃ (i : Nat) (ev : Value), i ≤ 14 ∧ s33 = .int .i64 i ∧ wr.cell? ⟨W3.heap.size, 0, none⟩ = some (.slice (some ⟨rg, 0, none⟩) RS.length rcap) ∧ wr.cell? ⟨W3.heap.size, 1, none⟩ = some ev ∧ (∀ o, wr.frozen? ⟨W3.heap.size, o, none⟩ = false) ∧ W3.heap.size < wr.heap.size ∧ Hid (GL true (W3.heap.size + 1) (W3.heap.size + 1) wr.heap.size wr 68 ev ((pairL.take i).map entSG)) ∧ Below (W3.heap.size) W3 wr) (fun _ _ _ _ _ _ s33 _ => 14 - (intOf s33).toNat)
    case atStart => exact ⟨0, .slice none 0 0, Nat.zero_le _, rfl, by simp [go_sem], by simp [go_sem], fun o => by simp [go_sem], by simp, Lib.hid (GL.start _ _ _ _ _ _), (Below.refl _ _).alloc (Nat.le_refl _) _⟩
    case round =>
      obtain ⟨wb, hwb⟩ : ∃ wm : World, wm = wr := ⟨_, rfl⟩
      subst hwb
      obtain ⟨i, ev, hi, rfl, y0, y1, yf, lG, hG, hbb⟩ := hrel
      have hBw : Below w.heap.size w wb := Below.trans hB3 (hbb.mono (by omega))
      by_cases hlt : i < 14
      · have hI : (i : Int) < 14 := by omega
        obtain ⟨bb, off, x, e0, hxi, hc, -⟩ := (HZ.out.keep (Below.zone hbb 0)).str_at (i := i) hlt
        subst e0
        have hx2 : ((lineL.take 14).map txt)[i]? = some x := by have := hxi.out; rwa [HTL.out] at this
        obtain ⟨l, hl, hxl⟩ : ∃ l, lineL[i]? = some l ∧ x = txt l := by
          rw [List.getElem?_map, List.getElem?_take] at hx2
          rw [if_pos hlt] at hx2
          cases h : lineL[i]? with
          | none => rw [h] at hx2; cases hx2
          | some l => rw [h] at hx2; exact ⟨l, rfl, (Option.some.inj hx2).symm⟩
        have hxs : x.size ≤ 64 := by rw [hxl, size_txt]; exact line_len l (List.mem_of_getElem? hl)
        obtain ⟨A, hA⟩ : ∃ A, A = txt (Lib.cut x.data.toList [32]).1 := ⟨_, rfl⟩
        obtain ⟨B, hB⟩ : ∃ B, B = txt (Lib.cut x.data.toList [32]).2.1 := ⟨_, rfl⟩
        obtain ⟨cc, hcc⟩ : ∃ c, c = (Lib.cut x.data.toList [32]).2.2 := ⟨_, rfl⟩
        have sA : A.size ≤ x.size := by rw [hA, size_txt]; have := (cut_len x.data.toList [32]).1; rw [← Lib.size_eq] at this; exact this
        have sB : B.size ≤ x.size := by rw [hB, size_txt]; have := (cut_len x.data.toList [32]).2; rw [← Lib.size_eq] at this; exact this
        obtain ⟨O, hO⟩ : ∃ O, O = typeI A.data.toList := ⟨_, rfl⟩
        obtain ⟨t, ht⟩ : ∃ t, t = O.getD (0, []) := ⟨_, rfl⟩
        have HE := Lib.hid (show (pairL.take (i + 1)).map entSG = (pairL.take i).map entSG ++ [(t, B)] by
          rw [← line_take, ← line_take, map_at hl, ht, hO, hA, hB, hxl, list_txt, list_txt]; rfl)
        obtain ⟨P, hP⟩ : ∃ P, P = (pairL.take i).map entSG := ⟨_, rfl⟩
        rw [← hP] at HE hG
        have hPl : P.length ≤ 14 := by rw [hP, List.length_map, List.length_take]; omega
        obtain ⟨eao, ecap, rfl, -, -⟩ := hG.out.len
        have HA := Lib.hid hA
        have HB := Lib.hid hB
        have HC := Lib.hid hcc
        have HO := Lib.hid hO
        have HT := Lib.hid ht
        clear hxi hx2 hl hxl hA hB hcc hO ht hP
        go_wp2_with fail
        refine (cut_any _ m (oldc hBw hgl hm) x ⟨#[32]⟩ A B (by omega) cc HA.out HB.out HC.out).mono ?_
        rintro e1 w1 ⟨rfl, hb1⟩
        have s1 := hb1.size
        go_wp2_with fail
        refine (parseTypeI_any _ A (by omega) O HO.out).mono ?_
        rintro e2 w2 ⟨ta, tb, rfl, hok, hb2⟩
        rw [← HT.out] at hok
        obtain ⟨te, tl⟩ := t
        obtain ⟨rfl, -, hts⟩ := hok.rd.kin
        obtain ⟨bao, bn, bcap, rfl, -⟩ := hts.shape
        have s2 := hb2.size
        have hp2 : Below wb.heap.size wb w2 := hb1.trans (hb2.mono s1)
        have HIT := Lib.hid (hok.ent_it (tm := B) (by unfold maxLen; omega))
        have HG2 := Lib.hid (hG.out.below hp2)
        have y0 := oldc hp2 lG y0
        have y1 := oldc hp2 lG y1
        have yf : ∀ o, w2.frozen? ⟨W3.heap.size, o, none⟩ = false := fun o => (hp2.frozen (p := ⟨W3.heap.size, o, none⟩) lG).trans (yf o)
        have lG2 : W3.heap.size < w2.heap.size := by omega
        have hB2 : Below (W3.heap.size) W3 w2 := hbb.trans (hp2.mono (by omega))
        have n1 : ¬ W3.heap.size = w2.heap.size := by omega
        have n2 : ¬ w2.heap.size = W3.heap.size := by omega
        have n3 : ¬ W3.heap.size = w2.heap.size + 1 := by omega
        have n4 : ¬ w2.heap.size + 1 = W3.heap.size := by omega
        clear hok hts hb1 hb2 hp2 hG HA HB HC HO HT hc
        go_wp2_with (at_builtin; refine wpList_push_at rfl rfl slEntry (by show (0 : Nat) < 3; omega) (HG2.out.below ?b1x3) rfl (ad := ⟨w2.heap.size + 1, 0, none⟩) rfl (cs := [.int .i64 te, .slice bao bn bcap, .string B]) (y := (((te, tl), B) : Ent)) (lx := w1.heap.size) (hx' := w2.heap.size) ?c1x3 (It.below HIT.out ?b2x3) ?c3x3 (.inl (by omega)) (by unfold maxLen; omega) (by omega) ?c2x3 ?_)
        case b1x3 => exact bwT
        case b2x3 => exact bwT
        case c1x3 =>
          intro j c hj
          match j, hj with
          | 0, hj => simp at hj; subst hj; simp [Addr.add, go_sem]
          | 1, hj => simp at hj; subst hj; simp [Addr.add, go_sem]
          | 2, hj => simp at hj; subst hj; simp [Addr.add, go_sem]
        case c2x3 => simp; omega
        case c3x3 => omega
        intro g5 cap5 w5 hG5 _ hb5 _
        have hp5 : Below (W3.heap.size + 1) w2 w5 := Below.trans (show Below (W3.heap.size + 1) w2 _ from bwT) hb5
        have s5 := hp5.size
        have z0 := oldc hp5 (Nat.lt_succ_self _) y0
        have z1 := oldc hp5 (Nat.lt_succ_self _) y1
        have zf : ∀ o, w5.frozen? ⟨W3.heap.size, o, none⟩ = false := fun o => (hp5.frozen (p := ⟨W3.heap.size, o, none⟩) (Nat.lt_succ_self _)).trans (yf o)
        have hB5 : Below (W3.heap.size) W3 w5 := hB2.trans (hp5.mono (by omega))
        have HG5 := Lib.hid hG5
        have HGX := Lib.hid (show GL true (W3.heap.size + 1) (W3.heap.size + 1) _ (w5.setCell ⟨W3.heap.size, 1, none⟩ (.slice (some ⟨g5, 0, none⟩) (P.length + 1) cap5)) 68 (.slice (some ⟨g5, 0, none⟩) (P.length + 1) cap5) ((pairL.take (i + 1)).map entSG) by
          rw [HE.out]; exact (HG5.out.keep zmT zmT).top)
        have l5 : W3.heap.size < w5.heap.size := by omega
        clear HG2 HIT hG5 hb5 hp5 HG5 HE y0 y1 yf n1 n2 n3 n4
        go_wp2
        go_roundw
        case rel => exact ⟨i + 1, _, by omega, by go_num, by simp [go_sem, *], by simp [go_sem, *], (fun o => by simp [go_sem, *]), (by simp; omega), HGX, bwT⟩
        case measure => simp [intOf]; omega
      · obtain rfl : i = 14 := by omega
        obtain ⟨eao, ecap, rfl, -, -⟩ := hG.out.len
        have HGO := Lib.hid (hG.out.ow (l0 := W3.heap.size + 1) (Nat.le_refl _) (Nat.le_refl _))
        have HB3 := Lib.hid (HB13.out.trans (hbb.mono (by omega)))
        replace q_r0 := oldc HB3.out l_r q_r0
        replace q_r1 := oldc HB3.out l_r q_r1
        replace f_r : ∀ o, wb.frozen? ⟨w.heap.size, o, none⟩ = false := fun o => (HB3.out.frozen (p := ⟨w.heap.size, o, none⟩) l_r).trans (f_r o)
        have HOX := Lib.hid (show Ow (w.heap.size + 1) wb.heap.size wb [.slice (some ⟨rg, 0, none⟩) RS.length rcap, .slice eao ((pairL.take 14).map entSG).length ecap] X by
          rw [HX.out]
          exact Ow.pair (l := w.heap.size + 1) (h := wb.heap.size) (HOR.out.below HB3.out) HGO.out (.inl (by omega)) (by simp) (by omega) (by omega) (Nat.le_refl _))
        have n1 : ¬ W3.heap.size = w.heap.size := by omega
        have n2 : ¬ w.heap.size = W3.heap.size := by omega
        have hlw : w.heap.size < wb.heap.size := by omega
        clear hG HGO HOR HX HB3 HB13 HZ HTL
        go_wp2
        exact bodyPost_ret (v := .agg #[.slice (some ⟨rg, 0, none⟩) RS.length rcap, .slice eao ((pairL.take 14).map entSG).length ecap]) (by simp [results, go_sem, *]) rfl ⟨_, _, rfl, (HOX.out.keep zmT).mono (by omega) (by simp), bwT⟩
  cases b3
  rotate_left
  · obtain rfl : N = 12 := HN.out
    clear HN
    have HN := Lib.hid (rfl : 12 = 12)
    obtain ⟨rg, rcap, rfl, hrne⟩ : ∃ rg rcap, rv = .slice (some ⟨rg, 0, none⟩) RS.length rcap ∧ RS ≠ [] := by
      rcases hnil with ⟨e, -⟩ | ⟨g, c, e, h⟩
      · have := HRL.out; rw [e] at this; cases this
      · exact ⟨g, c, e, h⟩
    have hnn : (binOp .eql 22 (.slice (some ⟨rg, 0, none⟩) RS.length rcap) (.slice none 0 0)).run Try.prog W1 = .ok (.bool false) W1 := Lib.run_eql_slice_nil W1 22 37 _ _ _ _ _ Try.underlying22
    have h8 := sz_lits (ls := lineL.take 8) (by decide)
    have h4 := sz_lits (ls := (lineL.drop 8).take 4) (by decide)
    have HG8 := Lib.hid (show GL true W1.heap.size W1.heap.size (W1.heap.size + 1) ((W1.alloc (.cells (((lineL.take 8).map txt).map Value.string).toArray 9)).alloc (.cells ((((lineL.drop 8).take 4).map txt).map Value.string).toArray 9)) 9 (.slice (some ⟨W1.heap.size, 0, none⟩) 8 8) ((lineL.take 8).map txt) from (GL.strs true W1.heap.size W1.heap.size W1 9 ((lineL.take 8).map txt) h8.1 h8.2 (Nat.le_refl _)).alloc _)
    have HL4 := Lib.hid (show Rd true (W1.heap.size + 1) (W1.heap.size + 1 + 1) ((W1.alloc (.cells (((lineL.take 8).map txt).map Value.string).toArray 9)).alloc (.cells ((((lineL.drop 8).take 4).map txt).map Value.string).toArray 9)) [.slice (some ⟨W1.heap.size + 1, 0, none⟩) 4 4] (((lineL.drop 8).take 4).map txt) by
      have h := (Ow.strs_lit0 (W1.alloc (.cells (((lineL.take 8).map txt).map Value.string).toArray 9)) 9 (((lineL.drop 8).take 4).map txt) h4.1 h4.2).rd
      rw [World.size_alloc] at h
      exact h)
    clear h8 h4 hnil HRL hrne
    go_wp2_with (at_builtin; refine wpList_spread_flat (ys := ((lineL.drop 8).take 4).map txt) rfl rfl slStrP (by show (0 : Nat) < 1; omega) HG8.out rfl (vs := .slice (some ⟨W1.heap.size + 1, 0, none⟩) 4 4) rfl HL4.out (by unfold maxLen; decide) (by decide) ltT ?_)
    intro tv W3 hG0 _ hb0
    obtain ⟨TL, hTL⟩ : ∃ L, L = (lineL.take 12).map txt := ⟨_, rfl⟩
    have HTL := Lib.hid hTL
    have hTLn : TL.length = 12 := by rw [hTL]; rfl
    have hG0 : GL true W1.heap.size W1.heap.size W3.heap.size W3 9 tv TL := by rw [hTL]; exact hG0
    obtain ⟨tao, tcap, htv, -, -⟩ := hG0.len
    rw [hTLn] at htv
    subst htv
    have HZ := Lib.hid (hG0.rd (l0 := 0) (Nat.zero_le _) (Nat.zero_le _)).weak
    have hB13 : Below W1.heap.size W1 W3 := Below.trans (show Below W1.heap.size W1 _ from bwT) hb0
    have hB3 : Below w.heap.size w W3 := hB1.trans (hB13.mono hB1.size)
    have s13 := hB13.size
    have HB13 := Lib.hid hB13
    clear hG0 hb0 hTL hTLn hB13 HG8 HL4
    have lG3 : W1.heap.size ≤ W3.heap.size := by omega
    go_wp2
    go_loopw [7, 8, 9, 10, 11, 12, 33] (fun _ _ _ _ _ _ s33 wr => ∃ (i : Nat) (ev : Value), i ≤ 12 ∧ s33 = .int .i64 i ∧ wr.cell? ⟨W3.heap.size, 0, none⟩ = some (.slice (some ⟨rg, 0, none⟩) RS.length rcap) ∧ wr.cell? ⟨W3.heap.size, 1, none⟩ = some ev ∧ (∀ o, wr.frozen? ⟨W3.heap.size, o, none⟩ = false) ∧ W3.heap.size < wr.heap.size ∧ Hid (GL true (W3.heap.size + 1) (W3.heap.size + 1) wr.heap.size wr 68 ev ((pairL.take i).map entSG)) ∧ Below (W3.heap.size) W3 wr) (fun _ _ _ _ _ _ s33 _ => 12 - (intOf s33).toNat)
    case atStart => exact ⟨0, .slice none 0 0, Nat.zero_le _, rfl, by simp [go_sem], by simp [go_sem], fun o => by simp [go_sem], by simp, Lib.hid (GL.start _ _ _ _ _ _), (Below.refl _ _).alloc (Nat.le_refl _) _⟩
    case round =>
      obtain ⟨wb, hwb⟩ : ∃ wm : World, wm = wr := ⟨_, rfl⟩
      subst hwb
      obtain ⟨i, ev, hi, rfl, y0, y1, yf, lG, hG, hbb⟩ := hrel
      have hBw : Below w.heap.size w wb := Below.trans hB3 (hbb.mono (by omega))
      by_cases hlt : i < 12
      · have hI : (i : Int) < 12 := by omega
        obtain ⟨bb, off, x, e0, hxi, hc, -⟩ := (HZ.out.keep (Below.zone hbb 0)).str_at (i := i) hlt
        subst e0
        have hx2 : ((lineL.take 12).map txt)[i]? = some x := by have := hxi.out; rwa [HTL.out] at this
        obtain ⟨l, hl, hxl⟩ : ∃ l, lineL[i]? = some l ∧ x = txt l := by
          rw [List.getElem?_map, List.getElem?_take] at hx2
          rw [if_pos hlt] at hx2
          cases h : lineL[i]? with
          | none => rw [h] at hx2; cases hx2
          | some l => rw [h] at hx2; exact ⟨l, rfl, (Option.some.inj hx2).symm⟩
        have hxs : x.size ≤ 64 := by rw [hxl, size_txt]; exact line_len l (List.mem_of_getElem? hl)
        obtain ⟨A, hA⟩ : ∃ A, A = txt (Lib.cut x.data.toList [32]).1 := ⟨_, rfl⟩
        obtain ⟨B, hB⟩ : ∃ B, B = txt (Lib.cut x.data.toList [32]).2.1 := ⟨_, rfl⟩
        obtain ⟨cc, hcc⟩ : ∃ c, c = (Lib.cut x.data.toList [32]).2.2 := ⟨_, rfl⟩
        have sA : A.size ≤ x.size := by rw [hA, size_txt]; have := (cut_len x.data.toList [32]).1; rw [← Lib.size_eq] at this; exact this
        have sB : B.size ≤ x.size := by rw [hB, size_txt]; have := (cut_len x.data.toList [32]).2; rw [← Lib.size_eq] at this; exact this
        obtain ⟨O, hO⟩ : ∃ O, O = typeI A.data.toList := ⟨_, rfl⟩
        obtain ⟨t, ht⟩ : ∃ t, t = O.getD (0, []) := ⟨_, rfl⟩
        have HE := Lib.hid (show (pairL.take (i + 1)).map entSG = (pairL.take i).map entSG ++ [(t, B)] by
          rw [← line_take, ← line_take, map_at hl, ht, hO, hA, hB, hxl, list_txt, list_txt]; rfl)
        obtain ⟨P, hP⟩ : ∃ P, P = (pairL.take i).map entSG := ⟨_, rfl⟩
        rw [← hP] at HE hG
        have hPl : P.length ≤ 14 := by rw [hP, List.length_map, List.length_take]; omega
        obtain ⟨eao, ecap, rfl, -, -⟩ := hG.out.len
        have HA := Lib.hid hA
        have HB := Lib.hid hB
        have HC := Lib.hid hcc
        have HO := Lib.hid hO
        have HT := Lib.hid ht
        clear hxi hx2 hl hxl hA hB hcc hO ht hP
        go_wp2_with fail
        refine (cut_any _ m (oldc hBw hgl hm) x ⟨#[32]⟩ A B (by omega) cc HA.out HB.out HC.out).mono ?_
        rintro e1 w1 ⟨rfl, hb1⟩
        have s1 := hb1.size
        go_wp2_with fail
        refine (parseTypeI_any _ A (by omega) O HO.out).mono ?_
        rintro e2 w2 ⟨ta, tb, rfl, hok, hb2⟩
        rw [← HT.out] at hok
        obtain ⟨te, tl⟩ := t
        obtain ⟨rfl, -, hts⟩ := hok.rd.kin
        obtain ⟨bao, bn, bcap, rfl, -⟩ := hts.shape
        have s2 := hb2.size
        have hp2 : Below wb.heap.size wb w2 := hb1.trans (hb2.mono s1)
        have HIT := Lib.hid (hok.ent_it (tm := B) (by unfold maxLen; omega))
        have HG2 := Lib.hid (hG.out.below hp2)
        have y0 := oldc hp2 lG y0
        have y1 := oldc hp2 lG y1
        have yf : ∀ o, w2.frozen? ⟨W3.heap.size, o, none⟩ = false := fun o => (hp2.frozen (p := ⟨W3.heap.size, o, none⟩) lG).trans (yf o)
        have lG2 : W3.heap.size < w2.heap.size := by omega
        have hB2 : Below (W3.heap.size) W3 w2 := hbb.trans (hp2.mono (by omega))
        have n1 : ¬ W3.heap.size = w2.heap.size := by omega
        have n2 : ¬ w2.heap.size = W3.heap.size := by omega
        have n3 : ¬ W3.heap.size = w2.heap.size + 1 := by omega
        have n4 : ¬ w2.heap.size + 1 = W3.heap.size := by omega
        clear hok hts hb1 hb2 hp2 hG HA HB HC HO HT hc
        go_wp2_with (at_builtin; refine wpList_push_at rfl rfl slEntry (by show (0 : Nat) < 3; omega) (HG2.out.below ?b1x2) rfl (ad := ⟨w2.heap.size + 1, 0, none⟩) rfl (cs := [.int .i64 te, .slice bao bn bcap, .string B]) (y := (((te, tl), B) : Ent)) (lx := w1.heap.size) (hx' := w2.heap.size) ?c1x2 (It.below HIT.out ?b2x2) ?c3x2 (.inl (by omega)) (by unfold maxLen; omega) (by omega) ?c2x2 ?_)
        case b1x2 => exact bwT
        case b2x2 => exact bwT
        case c1x2 =>
          intro j c hj
          match j, hj with
          | 0, hj => simp at hj; subst hj; simp [Addr.add, go_sem]
          | 1, hj => simp at hj; subst hj; simp [Addr.add, go_sem]
          | 2, hj => simp at hj; subst hj; simp [Addr.add, go_sem]
        case c2x2 => simp; omega
        case c3x2 => omega
        intro g5 cap5 w5 hG5 _ hb5 _
        have hp5 : Below (W3.heap.size + 1) w2 w5 := Below.trans (show Below (W3.heap.size + 1) w2 _ from bwT) hb5
        have s5 := hp5.size
        have z0 := oldc hp5 (Nat.lt_succ_self _) y0
        have z1 := oldc hp5 (Nat.lt_succ_self _) y1
        have zf : ∀ o, w5.frozen? ⟨W3.heap.size, o, none⟩ = false := fun o => (hp5.frozen (p := ⟨W3.heap.size, o, none⟩) (Nat.lt_succ_self _)).trans (yf o)
        have hB5 : Below (W3.heap.size) W3 w5 := hB2.trans (hp5.mono (by omega))
        have HG5 := Lib.hid hG5
        have HGX := Lib.hid (show GL true (W3.heap.size + 1) (W3.heap.size + 1) _ (w5.setCell ⟨W3.heap.size, 1, none⟩ (.slice (some ⟨g5, 0, none⟩) (P.length + 1) cap5)) 68 (.slice (some ⟨g5, 0, none⟩) (P.length + 1) cap5) ((pairL.take (i + 1)).map entSG) by
          rw [HE.out]; exact (HG5.out.keep zmT zmT).top)
        have l5 : W3.heap.size < w5.heap.size := by omega
        clear HG2 HIT hG5 hb5 hp5 HG5 HE y0 y1 yf n1 n2 n3 n4
        go_wp2
        go_roundw
        case rel => exact ⟨i + 1, _, by omega, by go_num, by simp [go_sem, *], by simp [go_sem, *], (fun o => by simp [go_sem, *]), (by simp; omega), HGX, bwT⟩
        case measure => simp [intOf]; omega
      · obtain rfl : i = 12 := by omega
        obtain ⟨eao, ecap, rfl, -, -⟩ := hG.out.len
        have HGO := Lib.hid (hG.out.ow (l0 := W3.heap.size + 1) (Nat.le_refl _) (Nat.le_refl _))
        have HB3 := Lib.hid (HB13.out.trans (hbb.mono (by omega)))
        replace q_r0 := oldc HB3.out l_r q_r0
        replace q_r1 := oldc HB3.out l_r q_r1
        replace f_r : ∀ o, wb.frozen? ⟨w.heap.size, o, none⟩ = false := fun o => (HB3.out.frozen (p := ⟨w.heap.size, o, none⟩) l_r).trans (f_r o)
        have HOX := Lib.hid (show Ow (w.heap.size + 1) wb.heap.size wb [.slice (some ⟨rg, 0, none⟩) RS.length rcap, .slice eao ((pairL.take 12).map entSG).length ecap] X by
          rw [HX.out]
          exact Ow.pair (l := w.heap.size + 1) (h := wb.heap.size) (HOR.out.below HB3.out) HGO.out (.inl (by omega)) (by simp) (by omega) (by omega) (Nat.le_refl _))
        have n1 : ¬ W3.heap.size = w.heap.size := by omega
        have n2 : ¬ w.heap.size = W3.heap.size := by omega
        have hlw : w.heap.size < wb.heap.size := by omega
        clear hG HGO HOR HX HB3 HB13 HZ HTL
        go_wp2
        exact bodyPost_ret (v := .agg #[.slice (some ⟨rg, 0, none⟩) RS.length rcap, .slice eao ((pairL.take 12).map entSG).length ecap]) (by simp [results, go_sem, *]) rfl ⟨_, _, rfl, (HOX.out.keep zmT).mono (by omega) (by simp), bwT⟩
  · obtain rfl : N = 0 := HN.out
    obtain rfl : RS = [] := List.eq_nil_of_length_eq_zero HRL.out
    obtain rfl : X = ([], []) := HX.out
    obtain rfl : rv = .slice none 0 0 := by
      rcases hnil with ⟨-, e⟩ | ⟨g, c, e, h⟩
      · exact e
      · exact absurd rfl h
    have hnn : (binOp .eql 22 (.slice none 0 0) (.slice none 0 0)).run Try.prog W1 = .ok (.bool true) W1 := Lib.run_eql_slice_nil W1 22 37 _ _ _ _ _ Try.underlying22
    clear HN HRL HX HOR hnil
    go_wp2
    exact bodyPost_ret (v := .agg #[.slice none 0 0, .slice none 0 0]) (by simp [results, go_sem, *]) rfl ⟨_, _, rfl, nil_trm _ _ _, bwT⟩
theorem trmX_cnt (l : Bs) : lenBy cntRul (trmX l).1 + lenBy cntEnt (trmX l).2 ≤ 20000 := by
  have h1 := lenBy_cap cntRul 19 (smpX l) fun r hr => by
    obtain ⟨nm, sx, pl, fr, tw⟩ := r
    have h := smp_small l _ hr
    dsimp only at h
    unfold cntRul; dsimp only; omega
  have h2 := smpX_len l
  have h3 := lenBy_cap cntEnt 20 ((pairL.take (trmN l)).map entSG) fun e he => by
    obtain ⟨p, hp, rfl⟩ := List.mem_map.1 he
    have h := ent_small (entSG p) (List.mem_map_of_mem (List.mem_of_mem_take hp))
    obtain ⟨e', he'⟩ : ∃ e', e' = entSG p := ⟨_, rfl⟩
    rw [← he'] at h ⊢
    obtain ⟨⟨a, b⟩, c⟩ := e'
    have h7 : b.length ≤ 4 := h.1
    show 2 + 2 * b.length ≤ 20
    omega
  have h4 : ((pairL.take (trmN l)).map entSG).length ≤ 14 := by rw [List.length_map, List.length_take]; exact Nat.le_trans (Nat.min_le_left _ _) (trmN_le l)
  have h5 : 19 * (smpX l).length ≤ 19 * 12 := Nat.mul_le_mul_left _ h2
  have h6 : 20 * ((pairL.take (trmN l)).map entSG).length ≤ 20 * 14 := Nat.mul_le_mul_left _ h4
  show lenBy cntRul (smpX l) + lenBy cntEnt ((pairL.take (trmN l)).map entSG) ≤ 20000
  omega
end Go.Proofs.Ytlfpnncjdoaelaa
