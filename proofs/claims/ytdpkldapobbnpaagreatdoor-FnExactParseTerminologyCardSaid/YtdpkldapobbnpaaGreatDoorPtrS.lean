/- Contract: ParseTerminology (the reference). Written by ptrs_gen.py. -/
import Derived.Test.YtdpkldapobbnpaaGreatDoorPrsS3
import Derived.Test.YtdpkldapobbnpaaGreatDoorPtr
import Derived.Test.YtdpkldapobbnpaaGreatDoorTwx
import Derived.Test.YtdpkldapobbnpaaGreatDoorFrmW
import Derived.Test.YtdpkldapobbnpaaGreatDoorTrmB
namespace Go.Proofs.YtdpkldapobbnpaaGreatDoor
set_option linter.unusedVariables false
set_option linter.unusedSimpArgs false
open Go.RowKit

theorem spl_memS (b : UInt8) : ∀ (s : Bs) (p : Bs), (∀ l ∈ addHd p (spl b s), l.length ≤ p.length + s.length) ∧ (addHd p (spl b s)).length ≤ s.length + 1
  | [], p => by simp [spl, addHd]
  | c :: s, p => by
    by_cases e : c = b
    · have h1 := (spl_memS b s []).1
      have h2 := (spl_memS b s []).2
      rw [addHd_nil] at h1 h2
      rw [spl, if_pos e]
      show (∀ l ∈ (p ++ []) :: spl b s, _) ∧ ((p ++ []) :: spl b s).length ≤ _
      refine ⟨fun l hl => ?_, by rw [List.length_cons, List.length_cons]; omega⟩
      rcases List.mem_cons.1 hl with rfl | hl
      · simp
      · have := h1 l hl
        rw [List.length_cons]; simp at this; omega
    · have h := spl_memS b s (p ++ [c])
      rw [spl, if_neg e, addHd_app]
      refine ⟨fun l hl => ?_, by have := h.2; rw [List.length_cons]; omega⟩
      have := h.1 l hl
      rw [List.length_append] at this
      simp at this ⊢; omega
theorem spl_lenS (b : UInt8) (s : Bs) : (∀ l ∈ spl b s, l.length ≤ s.length) ∧ (spl b s).length ≤ s.length + 1 := by
  have h := spl_memS b s []
  rw [addHd_nil] at h
  simpa using h
/-- One line: the rule first. -/
theorem lineS1_yes {y : Trm} {l : Bs} (h : 5 < l.length) (h2 : l.take 5 = [114, 117, 108, 101, 32]) : lineS1 y l = (y.1 ++ [(ruleS (l.drop 5)).getD rulZ], y.2) := if_pos ⟨h, h2⟩
theorem lineS1_no {y : Trm} {l : Bs} (h : ¬ (5 < l.length ∧ l.take 5 = [114, 117, 108, 101, 32])) : lineS1 y l = y := if_neg h
theorem lineS2_no3 {y : Trm} {ps : List Bs} (h : ps.length ≠ 3) : lineS2 y ps = y := by
  unfold lineS2
  split
  · exact absurd rfl h
  · rfl
theorem three_of {α : Type} {l : List α} (h : l.length = 3) : ∃ a b c, l = [a, b, c] := by
  match l, h with
  | [a, b, c], _ => exact ⟨a, b, c, rfl⟩
theorem ext5 (s : ByteArray) : ((s.extract 0 5).toList == [114, 117, 108, 101, 32]) = decide (s.data.toList.take 5 = [114, 117, 108, 101, 32]) := by
  rw [ByteArray.toList_eq, txt_sub, list_txt]
  rw [Bool.eq_iff_iff, beq_iff_eq, decide_eq_true_eq]
  simp
theorem lit_term (s : ByteArray) : (s.toList == [116, 101, 114, 109]) = decide (s.data.toList = [116, 101, 114, 109]) := by
  rw [ByteArray.toList_eq, Bool.eq_iff_iff, beq_iff_eq, decide_eq_true_eq]
set_option maxRecDepth 20000 in
set_option maxHeartbeats 16000000 in
theorem parseTrmS_any (w : World) (s : ByteArray) (hs : s.size ≤ 1048576) (O : Option Trm) (hO : O = fin s (parS s.data.toList)) :
    Calls Tryz.prog 5 #[.string s] w (PostOw2B w (O.getD ([], [])) O.isSome) := by
  obtain ⟨ls, hls⟩ : ∃ ls, ls = spl 10 s.data.toList := ⟨_, rfl⟩
  have HLS0 := Lib.hid (show ls.map txt = (spl 10 s.data.toList).map txt by rw [hls])
  have HO := Lib.hid (show O = fin s (if ls.length ≤ 73 then some (ls.foldl lineS ([], [])) else none) by rw [hO, parS, hls])
  have HLB := Lib.hid (show ∀ l ∈ ls, l.length ≤ 1048576 from fun l hl => by
    rw [hls] at hl
    have := (spl_lenS 10 s.data.toList).1 l hl
    rw [← Lib.size_eq] at this; omega)
  clear hO hls
  go_enter Tryz.func5, Tryz.ntmps5
  go_wp2_with fail
  refine (splitS_any _ s (by omega) 10 10 (by decide) (ls.map txt) HLS0.out).mono ?_
  rintro e1 w1 ⟨xv, rfl, hox, hbw1⟩
  have hpw1 : Below w.heap.size w w1 := Below.after bwT hbw1 szT
  have sw1 := hpw1.size
  have hBw1 : Below w.heap.size w w1 := hpw1
  have l_r : w.heap.size < w1.heap.size := by have := hbw1.size; simp at this; omega
  have q_r0 : w1.cell? ⟨w.heap.size, 0, none⟩ = some (.slice none 0 0) := oldc hbw1 ltT (by simp [go_sem])
  have q_r1 : w1.cell? ⟨w.heap.size, 1, none⟩ = some (.slice none 0 0) := oldc hbw1 ltT (by simp [go_sem])
  have f_r : ∀ o, w1.frozen? ⟨w.heap.size, o, none⟩ = false := fun o => (hbw1.frozen (p := ⟨w.heap.size, o, none⟩) ltT).trans (by simp [go_sem])
  clear hbw1 hpw1
  obtain ⟨xao, xn, xcap, rfl, hxn, -⟩ := hox.rd.shape
  have hxn2 : ls.length = xn := by rw [← hxn]; simp
  subst hxn2
  clear hxn
  have HLS := Lib.hid hox.rd
  obtain ⟨wL, hwL⟩ : ∃ W : World, W = w1 := ⟨_, rfl⟩
  subst hwL
  have hBL : Below w.heap.size w wL := hBw1
  have sL := hBL.size
  have r0 := q_r0
  have r1 := q_r1
  have rf := f_r
  have lr : w.heap.size < wL.heap.size := l_r
  obtain ⟨WY, hWY⟩ : ∃ W : World, W = wL.alloc (.cells #[.slice none 0 0, .slice none 0 0] 25) := ⟨_, rfl⟩
  have hbY : Below wL.heap.size wL WY := by subst hWY; exact bwT
  have g0 : WY.cell? ⟨wL.heap.size, 0, none⟩ = some (.slice none 0 0) := by subst hWY; simp [go_sem]
  have g1 : WY.cell? ⟨wL.heap.size, 1, none⟩ = some (.slice none 0 0) := by subst hWY; simp [go_sem]
  have gf : ∀ o, WY.frozen? ⟨wL.heap.size, o, none⟩ = false := by subst hWY; intro o; simp [go_sem]
  have lY : wL.heap.size < WY.heap.size := by subst hWY; simp
  clear hox q_r0 q_r1 f_r l_r HLS0
  by_cases h72 : ls.length ≤ 73
  rotate_left
  · obtain rfl : O = none := by rw [HO.out, if_neg h72]; rfl
    have hI : (73 : Int) < (ls.length : Int) := by omega
    have u0 := oldc hbY lr r0
    have u1 := oldc hbY lr r1
    have uf : ∀ o, WY.frozen? ⟨w.heap.size, o, none⟩ = false := fun o => (hbY.frozen (p := ⟨w.heap.size, o, none⟩) lr).trans (rf o)
    have lr5 : w.heap.size < WY.heap.size := by omega
    have hB5 : Below w.heap.size w WY := hBL.trans (hbY.mono sL)
    have n1 : ¬ wL.heap.size = w.heap.size := by omega
    have n2 : ¬ w.heap.size = wL.heap.size := by omega
    clear HO HLS HLB h72 r0 r1 rf
    go_upto_region 3 with fail
    rw [← hWY]
    clear hWY
    go_wp2
    refine bodyPost_ret (v := .tuple #[.agg #[.slice none 0 0, .slice none 0 0], .bool false]) ?_ rfl ⟨_, _, rfl, (TwoX.start w.heap.size _).ow, ?_⟩
    · simp [results, Tryz.results5, go_sem, u0, u1, uf, n1, n2, lr5]
    · exact bwT
  have hI : ¬ (73 : Int) < (ls.length : Int) := by omega
  obtain ⟨P, hP⟩ : ∃ P, P = ls.foldl lineS ([], []) := ⟨_, rfl⟩
  have HO2 := Lib.hid (show O = fin s (some P) by rw [HO.out, if_pos h72, hP])
  have HP0 := Lib.hid hP.symm
  clear hP HO
  go_upto_region 3 with fail
  rw [← hWY]
  clear hWY
  go_wp2
  go_loopw [7, 8, 9, 10, 11, 12, 22] (fun _ _ _ _ _ _ s35 wl => ∃ (k : Nat) (v1 v2 : Value) (rs : List Rul) (es : List Ent), k ≤ ls.length ∧ s35 = .int .i64 k ∧ wl.cell? ⟨wL.heap.size, 0, none⟩ = some v1 ∧ wl.cell? ⟨wL.heap.size, 1, none⟩ = some v2 ∧ (∀ o, wl.frozen? ⟨wL.heap.size, o, none⟩ = false) ∧ wL.heap.size < wl.heap.size ∧ Hid (TwoX (wL.heap.size + 1) wl v1 v2 rs es) ∧ Hid ((ls.drop k).foldl lineS (rs, es) = P) ∧ rs.length + es.length ≤ 2 * k ∧ Below wL.heap.size wL wl) (fun _ _ _ _ _ _ s35 _ => ls.length - (intOf s35).toNat)
  case atStart => exact ⟨0, _, _, [], [], Nat.zero_le _, rfl, g0, g1, gf, lY, Lib.hid (TwoX.start _ _), Lib.hid HP0.out, Nat.le_refl _, hbY⟩
  case round =>
    clear g0 g1 gf lY hbY HP0
    obtain ⟨wb, hwb⟩ : ∃ wm : World, wm = wr := ⟨_, rfl⟩
    subst hwb
    obtain ⟨k, v1, v2, rs, es, hk, rfl, g0, g1, gf, lY, HG, HP, hrl, hbb⟩ := hrel
    obtain ⟨a1, c1, a2, c2, rfl, rfl⟩ := HG.out.len
    have sB := hbb.size
    have hBb : Below w.heap.size w wb := hBL.trans (hbb.mono sL)
    have nY1 : ¬ wL.heap.size = w.heap.size := by omega
    have nY2 : ¬ w.heap.size = wL.heap.size := by omega
    by_cases hkl : k < ls.length
    · have hkI : (k : Int) < (ls.length : Int) := by omega
      obtain ⟨l, hl⟩ : ∃ l, ls[k]? = some l := ⟨_, List.getElem?_eq_getElem hkl⟩
      obtain ⟨bx, ofx, x, hxa, hx, x0, -⟩ := (HLS.out.below hbb).str_at (i := k) hkl
      subst hxa
      have hxl : x = txt l := by
        have h := hx.out
        rw [List.getElem?_map, hl] at h
        exact (Option.some.inj h).symm
      have hxd : x.data.toList = l := by rw [hxl, list_txt]
      have HXL := Lib.hid hxd
      have hxs : x.size ≤ 1048576 := by rw [hxl, size_txt]; exact HLB.out l (List.mem_of_getElem? hl)
      obtain ⟨ws, hws⟩ : ∃ ws, ws = spl 32 l := ⟨_, rfl⟩
      have HWS := Lib.hid (show ws.map txt = (spl 32 x.data.toList).map txt by rw [hws, hxd])
      have hwl : ws.length ≤ 1048577 := by rw [hws]; have := (spl_lenS 32 l).2; have h2 := HLB.out l (List.mem_of_getElem? hl); omega
      have HWB := Lib.hid (show ∀ p ∈ ws, p.length ≤ 1048576 from fun p hp => by
        rw [hws] at hp
        exact Nat.le_trans ((spl_lenS 32 l).1 p hp) (HLB.out l (List.mem_of_getElem? hl)))
      have HPL := Lib.hid (show (ls.drop (k + 1)).foldl lineS (lineS2 (lineS1 (rs, es) l) ws) = P by rw [← HP.out, drop_cons hl, hws]; rfl)
      clear hl hx hxl hxd HP hws
      go_wp2_with fail
      refine (splitS_any _ x (by omega) 32 32 (by decide) (ws.map txt) HWS.out).mono ?_
      rintro e2 w2 ⟨wv, rfl, how, hb2⟩
      obtain ⟨wao, wn, wcap, rfl, hwn, -⟩ := how.rd.shape
      have hwn2 : ws.length = wn := by rw [← hwn]; simp
      subst hwn2
      have HWR := Lib.hid (show Rd true wb.heap.size w2.heap.size w2 _ (ws.map txt) from how.rd)
      have s2 := hb2.size
      have hp2 := hb2
      have t0 := oldc hb2 lY g0
      have t1 := oldc hb2 lY g1
      have tf : ∀ o, w2.frozen? ⟨wL.heap.size, o, none⟩ = false := fun o => (hb2.frozen (p := ⟨wL.heap.size, o, none⟩) lY).trans (gf o)
      have l2 : wL.heap.size < w2.heap.size := by omega
      have HG2 := Lib.hid (HG.out.below hb2)
      have hB2 : Below wL.heap.size wL w2 := hbb.trans (hb2.mono sB)
      clear how hwn HWS g0 g1 gf x0
      obtain ⟨b1, hlet_b1⟩ : ∃ r, r = decide (5 < l.length ∧ l.take 5 = [114, 117, 108, 101, 32]) := ⟨_, rfl⟩
      have HB1 := Lib.hid hlet_b1
      clear hlet_b1
      have hE5 := ext5 x
      rw [HXL.out] at hE5
      have hxz : x.size = l.length := by rw [Lib.size_eq, HXL.out]
      have HB5 := Lib.hid (show 5 < x.size → decide (l.take 5 = [114, 117, 108, 101, 32]) = b1 from fun h => by
        rw [HB1.out, decide_eq_decide]
        exact ⟨fun h2 => ⟨by omega, h2⟩, fun h2 => h2.2⟩)
      have HB6 := Lib.hid (show ¬ 5 < x.size → b1 = false from fun h => by rw [HB1.out, decide_eq_false (fun h2 => h (by omega))])
      have HXZ := Lib.hid hxz
      have HE5 := Lib.hid hE5
      clear hE5 hxz
      go_upto_region 9 with fail
      go_cut [35] (fun s35 wx => s35 = .bool b1 ∧ wx = w2)
      case first =>
        by_cases h5 : 5 < x.size
        · have hI5 : (5 : Int) < (x.size : Int) := by omega
          have e5 : ((x.extract 0 5).toList == [114, 117, 108, 101, 32]) = b1 := by rw [HE5.out]; exact HB5.out h5
          clear HE5 HB5 HB6 HB1
          go_wp2
          go_meet
          exact ⟨rfl, rfl⟩
        · have hI5 : ¬ (5 : Int) < (x.size : Int) := by omega
          obtain rfl : b1 = false := HB6.out h5
          clear HE5 HB5 HB6 HB1
          go_wp2
          go_meet
          exact ⟨rfl, rfl⟩
      case rest =>
        obtain ⟨rfl, hwx⟩ := hcut
        obtain ⟨w4, hw4⟩ : ∃ W : World, W = wc := ⟨_, rfl⟩
        subst hw4
        subst hwx
        clear HE5 HB5 HB6
        go_upto_if 35 with fail
        obtain ⟨QQ, hQQ⟩ : ∃ Q : Nat → Prop, Q = fun b => wL.heap.size + 1 ≤ b ∧ (b < wb.heap.size ∨ w4.heap.size ≤ b) := ⟨_, rfl⟩
        have HQK := Lib.hid (show ∀ b, QQ b → wL.heap.size + 1 ≤ b from fun b h => by rw [hQQ] at h; exact h.1)
        have HQW := Lib.hid (show ∀ b, QQ b → b < wb.heap.size ∨ w4.heap.size ≤ b from fun b h => by rw [hQQ] at h; exact h.2)
        have HQN := Lib.hid (show ∀ b, w4.heap.size ≤ b → QQ b from fun b h => by rw [hQQ]; exact ⟨by omega, .inr h⟩)
        have HGQ := Lib.hid (show TwoQ QQ wb (.slice a1 rs.length c1) (.slice a2 es.length c2) rs es from HG.out.q fun b h1 h2 => by rw [hQQ]; exact ⟨h1, .inl h2⟩)
        clear hQQ HG HG2
        go_cut [9, 10] (fun _ _ wx => ∃ (v1 : Value) (rs1 : List Rul), wx.cell? ⟨wL.heap.size, 0, none⟩ = some v1 ∧ wx.cell? ⟨wL.heap.size, 1, none⟩ = some (.slice a2 es.length c2) ∧ (∀ o, wx.frozen? ⟨wL.heap.size, o, none⟩ = false) ∧ wL.heap.size < wx.heap.size ∧ Hid (TwoQ QQ wx v1 (.slice a2 es.length c2) rs1 es) ∧ Hid (lineS1 (rs, es) l = (rs1, es)) ∧ rs1.length ≤ rs.length + 1 ∧ Below wL.heap.size wL wx ∧ Hid (Rd true wb.heap.size w4.heap.size wx [.slice wao ws.length wcap] (ws.map txt)) ∧ w4.heap.size ≤ wx.heap.size)
        case first =>
          cases b1
          · have HL1 := Lib.hid (show lineS1 (rs, es) l = (rs, es) from lineS1_no (of_decide_eq_false HB1.out.symm))
            go_wp2
            go_meet
            exact ⟨_, rs, t0, t1, tf, l2, Lib.hid (HGQ.out.below hp2), HL1, by omega, hB2, HWR, Nat.le_refl _⟩
          · have hb1 := of_decide_eq_true HB1.out.symm
            have hx5 : x.extract 5 x.size = txt (l.drop 5) := by rw [sub_from, HXL.out]
            have hI5 : (5 : Int) ≤ (x.size : Int) := by have := HXZ.out; have := hb1.1; omega
            have h5n : 5 ≤ x.size := by omega
            obtain ⟨x5, hX5⟩ : ∃ y, y = x.extract 5 x.size := ⟨_, rfl⟩
            have sx5 : x5.size ≤ 1048576 := by rw [hX5]; simp; omega
            obtain ⟨O1, hO1⟩ : ∃ q, q = ruleS x5.data.toList := ⟨_, rfl⟩
            have HO1 := Lib.hid hO1
            have HL1 := Lib.hid (show lineS1 (rs, es) l = (rs ++ [O1.getD rul0], es) by
              rw [lineS1_yes hb1.1 hb1.2, hO1, hX5, hx5, list_txt]; rfl)
            clear hO1 hx5 HB1 hb1
            go_wp2_with fail
            rw [← hX5]
            refine (parseRuleS_any _ x5 (by omega) O1 HO1.out).mono ?_
            rintro e3 w3 ⟨z0, z1, z2, z3, z4, rfl, ho3, hb3⟩
            obtain ⟨ru, hru⟩ : ∃ r, r = O1.getD rul0 := ⟨_, rfl⟩
            rw [← hru] at ho3 HL1
            obtain ⟨nm, sx, pl, fr, tw⟩ := ru
            obtain ⟨vfr, vtw, e1, -, -, -, hfr, htw⟩ := Rd.dRul ho3.rd
            simp only [List.cons.injEq, and_true] at e1
            obtain ⟨rfl, rfl, rfl, rfl, rfl⟩ := e1
            obtain ⟨fao, fn, fcap, rfl, -⟩ := hfr.shape
            obtain ⟨tao, tn, tcap, rfl, -⟩ := htw.shape
            have s3 := hb3.size
            have k0 := oldc hb3 l2 t0
            have k1 := oldc hb3 l2 t1
            have kf : ∀ o, w3.frozen? ⟨wL.heap.size, o, none⟩ = false := fun o => (hb3.frozen (p := ⟨wL.heap.size, o, none⟩) l2).trans (tf o)
            have l3 : wL.heap.size < w3.heap.size := by omega
            have n1 : ¬ wL.heap.size = w3.heap.size := by omega
            have n2 : ¬ w3.heap.size = wL.heap.size := by omega
            have HOR := Lib.hid ho3
            clear ho3 hfr htw hru HO1 hX5
            go_wp2_with (at_builtin; refine wpList_push_q1 rfl rfl slRule rfl (ad := ⟨w3.heap.size + 1, 0, none⟩) rfl (cs := [.string nm, .int .i64 sx, .int .i64 pl, .slice fao fn fcap, .slice tao tn tcap]) (y := ((nm, sx, pl, fr, tw) : Rul)) (lx := w4.heap.size) (hx' := w3.heap.size) ?c1 (w0 := wb) HGQ.out HQN.out hp2.size ?c2 ?c3 (HOR.out.below ?c4) (by unfold maxLen; omega) (by omega) ?_)
            case c1 =>
              intro j c hj
              match j, hj with
              | 0, hj => simp at hj; subst hj; simp [Addr.add, go_sem]
              | 1, hj => simp at hj; subst hj; simp [Addr.add, go_sem]
              | 2, hj => simp at hj; subst hj; simp [Addr.add, go_sem]
              | 3, hj => simp at hj; subst hj; simp [Addr.add, go_sem]
              | 4, hj => simp at hj; subst hj; simp [Addr.add, go_sem]
            case c2 => simp; omega
            case c3 => exact Below.trans (hp2.trans (hb3.mono hp2.size)) bwT
            case c4 => exact bwT
            intro a5 c5 w5 hT5 hz5 hB5
            have hb5 := hB5.out (wL.heap.size + 1) HQK.out (by first | omega | (simp; omega))
            have hz6 : Zone wb.heap.size w4.heap.size ((w3.alloc (.cells #[.string nm, .int .i64 sx, .int .i64 pl, .slice fao fn fcap, .slice tao tn tcap] 50)).alloc (.cells #[.string nm, .int .i64 sx, .int .i64 pl, .slice fao fn fcap, .slice tao tn tcap] 50)) w5 := fun b h1 h2 => hz5.out b (by first | omega | (simp; omega)) (.inr h1)
            have hp5 : Below (wL.heap.size + 1) w4 w5 := (hb3.mono (by omega)).trans (Below.trans (show Below (wL.heap.size + 1) w3 _ from bwT) hb5)
            have HT5 := Lib.hid hT5
            have h0 := oldc hp5 (Nat.lt_succ_self _) t0
            have h1 := oldc hp5 (Nat.lt_succ_self _) t1
            have hf5 : ∀ o, w5.frozen? ⟨wL.heap.size, o, none⟩ = false := fun o => (hp5.frozen (p := ⟨wL.heap.size, o, none⟩) (Nat.lt_succ_self _)).trans (tf o)
            have s5 := hp5.size
            have HW5 := Lib.hid (((HWR.out.below hb3).below (show Below w3.heap.size w3 _ from bwT)).keep hz6)
            clear hT5 hb5 hb3 HOR k0 k1 kf hz5 hz6 hB5
            go_wp2
            go_meet
            exact ⟨_, rs ++ [(nm, sx, pl, fr, tw)], World.cell?_setCell_same _ _ _ h0, by simp [go_sem, h1], (fun o => frozen_setCell _ _ _ _ _ (hf5 o)), by simp; omega, Lib.hid (HT5.out.keep fun b hb hl => by have := HQK.out b hb; exact Below.heap_setCell _ _ _ _ (by show b ≠ wL.heap.size; omega)), HL1, by simp, (hB2.trans (hp5.mono (by omega))).setCell (Nat.le_refl _) _, Lib.hid (HW5.out.keep zmT), by simp; omega⟩
        case rest =>
          clear t0 t1 tf l2 HB1 HXZ HWR hB2
          obtain ⟨v1, rs1, t0, t1, tf, l2, HG2, HL1, hr1, hB2, HWR, s45⟩ := hcut
          obtain ⟨w5, hw5⟩ : ∃ W : World, W = wc := ⟨_, rfl⟩
          subst hw5
          obtain ⟨d1, d2, -, -, rfl, -⟩ := HG2.out.len
          have HP2 := Lib.hid (show (ls.drop (k + 1)).foldl lineS (lineS2 (rs1, es) ws) = P by rw [← HL1.out]; exact HPL.out)
          clear HPL HL1
          by_cases h3 : ws.length = 3
          rotate_left
          · have e3 : ((ws.length : Int) == 3) = false := by rw [beq_eq_false_iff_ne]; omega
            have HP3 := Lib.hid (show (ls.drop (k + 1)).foldl lineS (rs1, es) = P by
              have h := HP2.out
              rwa [lineS2_no3 h3] at h)
            have HG3 := Lib.hid (HG2.out.x HQK.out)
            clear HP2 HG2 h3
            go_wp2
            go_roundw
            case rel => exact ⟨k + 1, _, _, rs1, es, by omega, by go_num, t0, t1, tf, l2, HG3, HP3, by omega, hB2⟩
            case measure => simp [intOf]; omega
          have e3 : ((ws.length : Int) == 3) = true := by rw [beq_iff_eq]; omega
          have hI0 : (0 : Int) < (ws.length : Int) := by omega
          have hI1 : (1 : Int) < (ws.length : Int) := by omega
          have hI2 : (2 : Int) < (ws.length : Int) := by omega
          obtain ⟨pa, pk, pt, hw3⟩ := three_of h3
          obtain ⟨b0, o0, y0, hwa, hy0, z0, -, -, -, b0l, -⟩ := HWR.out.str_at (i := 0) (by omega)
          subst hwa
          obtain ⟨b0', o0', y1, e, hy1, z1, hz1s, -⟩ := HWR.out.str_at (i := 1) (by omega)
          simp only [Option.some.injEq, Addr.mk.injEq, and_true] at e
          obtain ⟨rfl, rfl⟩ := e
          obtain ⟨b0', o0', y2, e, hy2, z2, hz2s, -⟩ := HWR.out.str_at (i := 2) (by omega)
          simp only [Option.some.injEq, Addr.mk.injEq, and_true] at e
          obtain ⟨rfl, rfl⟩ := e
          have z0 : w5.cell? ⟨b0, o0, none⟩ = some (.string y0) := by simpa using z0
          have hy0 : y0 = txt pa := by have h := hy0.out; rw [hw3] at h; exact (Option.some.inj h).symm
          have hy1 : y1 = txt pk := by have h := hy1.out; rw [hw3] at h; exact (Option.some.inj h).symm
          have hy2 : y2 = txt pt := by have h := hy2.out; rw [hw3] at h; exact (Option.some.inj h).symm
          obtain ⟨b3, hb3⟩ : ∃ b, b = decide (pa = [116, 101, 114, 109]) := ⟨_, rfl⟩
          have e0 : (y0.toList == [116, 101, 114, 109]) = b3 := by rw [lit_term, hy0, list_txt, hb3]
          obtain ⟨O1, hO1⟩ : ∃ q, q = typeS y1.data.toList := ⟨_, rfl⟩
          have HO1 := Lib.hid hO1
          have HP3 := Lib.hid (show (ls.drop (k + 1)).foldl lineS (if b3 = true then (rs1, es ++ [(O1.getD (0, []), y2)]) else (rs1, es)) = P by
            rw [← HP2.out, hw3, hb3, hO1, hy1, hy2, list_txt]
            show _ = (ls.drop (k + 1)).foldl lineS (if pa = [116, 101, 114, 109] then _ else _)
            simp only [decide_eq_true_eq])
          have HQB := Lib.hid (show ¬ QQ b0 from fun h => by
            have h1 := HQW.out b0 h
            obtain ⟨fp, hr, hz⟩ := HWR.out
            have := HWR.out.str_at (i := 0) (by omega)
            obtain ⟨c0, c1, c2, c3, c4, c5, c6, c7, c8, -⟩ := this
            simp only [Option.some.injEq, Addr.mk.injEq, and_true] at c3
            obtain ⟨rfl, rfl⟩ := c3
            omega)
          clear HP2 hy0 hy1 hy2 hw3 hb3 hO1 h3
          cases b3
          · have HP4 := Lib.hid (show (ls.drop (k + 1)).foldl lineS (rs1, es) = P from HP3.out)
            have HG3 := Lib.hid (HG2.out.x HQK.out)
            clear HP3 HG2
            go_wp2
            go_roundw
            case rel => exact ⟨k + 1, _, _, rs1, es, by omega, by go_num, t0, t1, tf, l2, HG3, HP4, by omega, hB2⟩
            case measure => simp [intOf]; omega
          go_wp2_with fail
          refine (parseTypeS_any _ y1 (by omega) O1 HO1.out).mono ?_
          rintro e6 w6 ⟨ta, tb, rfl, ho6, hb6⟩
          obtain ⟨t, ht⟩ : ∃ t, t = O1.getD (0, []) := ⟨_, rfl⟩
          rw [← ht] at ho6
          have HP4 := Lib.hid (show (ls.drop (k + 1)).foldl lineS (rs1, es ++ [(t, y2)]) = P by rw [ht]; exact HP3.out)
          obtain ⟨te, tl⟩ := t
          obtain ⟨rfl, -, hts⟩ := ho6.rd.kin
          obtain ⟨bao, bn, bcap, rfl, -⟩ := hts.shape
          have s6 := hb6.size
          have k0 := oldc hb6 l2 t0
          have k1 := oldc hb6 l2 t1
          have kf : ∀ o, w6.frozen? ⟨wL.heap.size, o, none⟩ = false := fun o => (hb6.frozen (p := ⟨wL.heap.size, o, none⟩) l2).trans (tf o)
          have z2' := oldc hb6 b0l z2
          have b06 : b0 < w6.heap.size := by omega
          have l6 : wL.heap.size < w6.heap.size := by omega
          have n1 : ¬ wL.heap.size = w6.heap.size := by omega
          have n2 : ¬ w6.heap.size = wL.heap.size := by omega
          have n3 : ¬ wL.heap.size = w6.heap.size + 1 := by omega
          have n4 : ¬ w6.heap.size + 1 = wL.heap.size := by omega
          have n5 : ¬ b0 = w6.heap.size := by omega
          have n6 : ¬ w6.heap.size = b0 := by omega
          have n7 : ¬ b0 = w6.heap.size + 1 := by omega
          have n8 : ¬ w6.heap.size + 1 = b0 := by omega
          have HOR := Lib.hid ho6
          have hes : es.length ≤ 200 := by omega
          clear ho6 hts ht HP3 HO1 z0 z1
          go_upto_region 14 with fail
          refine wp_region_held_drew (S := (fun w' => w'.cell? ⟨w6.heap.size, 0, none⟩ = some (.int .i64 te) ∧ w'.cell? ⟨w6.heap.size, 1, none⟩ = some (.slice bao bn bcap) ∧ w'.cell? ⟨b0, o0 + 2, none⟩ = some (.string y2))) (by kernel_rfl) ?_ (fun hHeld => ?_)
          · first | exact trivial | ((try dsimp only); go_keep)
          refine tkR 0 (v := ?_) ?_ ?_
          rotate_left
          · intro w hSw; (try dsimp only at hSw); go_simp <;> with_reducible rfl
          try simp only [Act.put, List.setIfInBounds_toArray, List.set_cons_zero, List.set_cons_succ]
          refine tkR 2 (v := ?_) ?_ ?_
          rotate_left
          · intro w hSw; (try dsimp only at hSw); go_simp <;> with_reducible rfl
          try simp only [Act.put, List.setIfInBounds_toArray, List.set_cons_zero, List.set_cons_succ]
          refine tkR 3 (v := ?_) ?_ ?_
          rotate_left
          · intro w hSw; (try dsimp only at hSw); go_simp <;> with_reducible rfl
          try simp only [Act.put, List.setIfInBounds_toArray, List.set_cons_zero, List.set_cons_succ]
          refine tkR 4 (v := ?_) ?_ ?_
          rotate_left
          · intro w hSw; (try dsimp only at hSw); go_simp <;> with_reducible rfl
          try simp only [Act.put, List.setIfInBounds_toArray, List.set_cons_zero, List.set_cons_succ]
          refine tkR 5 (v := ?_) ?_ ?_
          rotate_left
          · intro w hSw; (try dsimp only at hSw); go_simp <;> with_reducible rfl
          try simp only [Act.put, List.setIfInBounds_toArray, List.set_cons_zero, List.set_cons_succ]
          refine tkR 6 (v := ?_) ?_ ?_
          rotate_left
          · intro w hSw; (try dsimp only at hSw); go_simp <;> with_reducible rfl
          try simp only [Act.put, List.setIfInBounds_toArray, List.set_cons_zero, List.set_cons_succ]
          refine wpAnyH_ready (rs := [1, 7]) (by kernel_rfl) (by simp) ?_
          refine rdR (fun K hK => ?_) ?_
          · go_simp
            refine hK.out _ _ ?_ (fun hHeld => ?_)
            · exact kpT
            clear hK K
            try simp only [Act.put, List.setIfInBounds_toArray, List.set_cons_zero, List.set_cons_succ]
            refine wpAnyH_ready (rs := [7]) (by kernel_rfl) (by simp) ?_
            refine rdR (fun K hK => ?_) ?_
            · go_simp
              refine hK.out _ _ ?_ (fun hHeld => ?_)
              · exact kpT
              clear hK K
              try simp only [Act.put, List.setIfInBounds_toArray, List.set_cons_zero, List.set_cons_succ]
              refine wpAnyH_ready (rs := [8]) (by kernel_rfl) (by simp) ?_
              refine rdR (fun K hK => ?_) ?_
              · refine step_push_q2 rfl rfl slEntry (by simp [Act.eval, Act.put]) (ad := ⟨w6.heap.size + 1, 0, none⟩) (c := 1) (by simp [Act.eval, Act.put]) (cs := [.int .i64 te, .slice bao bn bcap, .string y2]) (y := ((te, tl), y2)) (lx := w5.heap.size) (hx' := w6.heap.size) ?c1 (w0 := w5) HG2.out (fun b hb => HQN.out b (by omega)) (Nat.le_refl _) ?c2 ?c3 ((HOR.out.ent_mk (by omega)).below ?c4) (by unfold maxLen; omega) (by omega) ?_
                case c1 =>
                  intro j c hj
                  match j, hj with
                  | 0, hj => simp at hj; subst hj; simp [Addr.add, go_sem]
                  | 1, hj => simp at hj; subst hj; simp [Addr.add, go_sem]
                  | 2, hj => simp at hj; subst hj; simp [Addr.add, go_sem]
                case c2 => simp; omega
                case c3 => exact Below.trans hb6 bwT
                case c4 => exact bwT
                intro a7 c7 w7 hT7 hz7 hB7
                have hb7 := hB7.out (wL.heap.size + 1) HQK.out (by first | omega | (simp; omega))
                have hp7 : Below (wL.heap.size + 1) w5 w7 := (hb6.mono (by omega)).trans (Below.trans (show Below (wL.heap.size + 1) w6 _ from bwT) hb7)
                have h0 := oldc hp7 (Nat.lt_succ_self _) t0
                have h1 := oldc hp7 (Nat.lt_succ_self _) t1
                have hf7 : ∀ o, w7.frozen? ⟨wL.heap.size, o, none⟩ = false := fun o => (hp7.frozen (p := ⟨wL.heap.size, o, none⟩) (Nat.lt_succ_self _)).trans (tf o)
                have hS7 : w7.cell? ⟨w6.heap.size, 0, none⟩ = some (.int .i64 te) ∧ w7.cell? ⟨w6.heap.size, 1, none⟩ = some (.slice bao bn bcap) ∧ w7.cell? ⟨b0, o0 + 2, none⟩ = some (.string y2) :=
                  ⟨(World.cell?_of_block (a := ⟨w6.heap.size, 0, none⟩) (hz7.out w6.heap.size (by first | omega | (simp; omega)) (.inr (by omega)))).trans (by simp [go_sem]),
                   (World.cell?_of_block (a := ⟨w6.heap.size, 1, none⟩) (hz7.out w6.heap.size (by first | omega | (simp; omega)) (.inr (by omega)))).trans (by simp [go_sem]),
                   (World.cell?_of_block (a := ⟨b0, o0 + 2, none⟩) (hz7.out b0 (by first | omega | (simp; omega)) (.inl HQB.out))).trans (oldc (show Below w6.heap.size w6 _ from bwT) b06 z2')⟩
                have s7 := hp7.size
                have HT7 := Lib.hid hT7
                have l7 : wL.heap.size < w7.heap.size := by omega
                clear hT7 hz7 hB7 hb7
                refine hK.out _ _ ?_ (fun hHeld => ?_)
                · exact kpT
                clear hK K
                try simp only [Act.put, List.setIfInBounds_toArray, List.set_cons_zero, List.set_cons_succ]
                refine tkR 9 (v := ?_) ?_ ?_
                rotate_left
                · intro w hSw; (try dsimp only at hSw); go_simp <;> with_reducible rfl
                try simp only [Act.put, List.setIfInBounds_toArray, List.set_cons_zero, List.set_cons_succ]
                refine wpAnyH_ready (rs := [10]) (by kernel_rfl) (by simp) ?_
                refine rdR (fun K hK => ?_) ?_
                · go_simp
                  refine hK.out _ _ ?_ (fun hHeld => ?_)
                  · exact kpT
                  clear hK K
                  try simp only [Act.put, List.setIfInBounds_toArray, List.set_cons_zero, List.set_cons_succ]
                  refine wpAnyH_done (by kernel_rfl) ?_ _
                  have HT8 := Lib.hid (show TwoX (wL.heap.size + 1) (w7.setCell ⟨wL.heap.size, 1, none⟩ (.slice a7 (es.length + 1) c7)) (.slice d1 rs1.length d2) (.slice a7 (es.length + 1) c7) rs1 (es ++ [((te, tl), y2)]) from (HT7.out.x HQK.out).keep fun b hb hl => Below.heap_setCell _ _ _ _ (by show b ≠ wL.heap.size; omega))
                  have m0 : (w7.setCell ⟨wL.heap.size, 1, none⟩ (.slice a7 (es.length + 1) c7)).cell? ⟨wL.heap.size, 0, none⟩ = some (.slice d1 rs1.length d2) := by simp [go_sem, h0]
                  have m1 : (w7.setCell ⟨wL.heap.size, 1, none⟩ (.slice a7 (es.length + 1) c7)).cell? ⟨wL.heap.size, 1, none⟩ = some (.slice a7 (es.length + 1) c7) := World.cell?_setCell_same _ _ _ h1
                  have mf : ∀ o, (w7.setCell ⟨wL.heap.size, 1, none⟩ (.slice a7 (es.length + 1) c7)).frozen? ⟨wL.heap.size, o, none⟩ = false := fun o => frozen_setCell _ _ _ _ _ (hf7 o)
                  have ml : wL.heap.size < (w7.setCell ⟨wL.heap.size, 1, none⟩ (.slice a7 (es.length + 1) c7)).heap.size := by simp; omega
                  have hb8 : Below wL.heap.size wL (w7.setCell ⟨wL.heap.size, 1, none⟩ (.slice a7 (es.length + 1) c7)) := (hB2.trans (hp7.mono (by omega))).setCell (Nat.le_refl _) _
                  obtain ⟨W8, hW8⟩ : ∃ W : World, W = w7.setCell ⟨wL.heap.size, 1, none⟩ (.slice a7 (es.length + 1) c7) := ⟨_, rfl⟩
                  rw [← hW8] at HT8 m0 m1 mf ml hb8
                  try rw [← hW8]
                  clear hW8 HT7 HOR HG2 hHeld hS7 h0 h1 hf7 k0 k1 kf
                  go_wp2
                  go_roundw
                  case rel => exact ⟨k + 1, _, _, rs1, es ++ [((te, tl), y2)], by omega, by go_num, m0, m1, mf, ml, HT8, HP4, by simp; omega, hb8⟩
                  case measure => simp [intOf]; omega
                exact AllReadyH.nil
              exact AllReadyH.nil
            exact AllReadyH.nil
          refine rdR (fun K hK => ?_) ?_
          · go_simp
            refine hK.out _ _ ?_ (fun hHeld => ?_)
            · exact kpT
            clear hK K
            try simp only [Act.put, List.setIfInBounds_toArray, List.set_cons_zero, List.set_cons_succ]
            refine wpAnyH_ready (rs := [1]) (by kernel_rfl) (by simp) ?_
            refine rdR (fun K hK => ?_) ?_
            · go_simp
              refine hK.out _ _ ?_ (fun hHeld => ?_)
              · exact kpT
              clear hK K
              try simp only [Act.put, List.setIfInBounds_toArray, List.set_cons_zero, List.set_cons_succ]
              refine wpAnyH_ready (rs := [8]) (by kernel_rfl) (by simp) ?_
              refine rdR (fun K hK => ?_) ?_
              · refine step_push_q2 rfl rfl slEntry (by simp [Act.eval, Act.put]) (ad := ⟨w6.heap.size + 1, 0, none⟩) (c := 1) (by simp [Act.eval, Act.put]) (cs := [.int .i64 te, .slice bao bn bcap, .string y2]) (y := ((te, tl), y2)) (lx := w5.heap.size) (hx' := w6.heap.size) ?c1 (w0 := w5) HG2.out (fun b hb => HQN.out b (by omega)) (Nat.le_refl _) ?c2 ?c3 ((HOR.out.ent_mk (by omega)).below ?c4) (by unfold maxLen; omega) (by omega) ?_
                case c1 =>
                  intro j c hj
                  match j, hj with
                  | 0, hj => simp at hj; subst hj; simp [Addr.add, go_sem]
                  | 1, hj => simp at hj; subst hj; simp [Addr.add, go_sem]
                  | 2, hj => simp at hj; subst hj; simp [Addr.add, go_sem]
                case c2 => simp; omega
                case c3 => exact Below.trans hb6 bwT
                case c4 => exact bwT
                intro a7 c7 w7 hT7 hz7 hB7
                have hb7 := hB7.out (wL.heap.size + 1) HQK.out (by first | omega | (simp; omega))
                have hp7 : Below (wL.heap.size + 1) w5 w7 := (hb6.mono (by omega)).trans (Below.trans (show Below (wL.heap.size + 1) w6 _ from bwT) hb7)
                have h0 := oldc hp7 (Nat.lt_succ_self _) t0
                have h1 := oldc hp7 (Nat.lt_succ_self _) t1
                have hf7 : ∀ o, w7.frozen? ⟨wL.heap.size, o, none⟩ = false := fun o => (hp7.frozen (p := ⟨wL.heap.size, o, none⟩) (Nat.lt_succ_self _)).trans (tf o)
                have hS7 : w7.cell? ⟨w6.heap.size, 0, none⟩ = some (.int .i64 te) ∧ w7.cell? ⟨w6.heap.size, 1, none⟩ = some (.slice bao bn bcap) ∧ w7.cell? ⟨b0, o0 + 2, none⟩ = some (.string y2) :=
                  ⟨(World.cell?_of_block (a := ⟨w6.heap.size, 0, none⟩) (hz7.out w6.heap.size (by first | omega | (simp; omega)) (.inr (by omega)))).trans (by simp [go_sem]),
                   (World.cell?_of_block (a := ⟨w6.heap.size, 1, none⟩) (hz7.out w6.heap.size (by first | omega | (simp; omega)) (.inr (by omega)))).trans (by simp [go_sem]),
                   (World.cell?_of_block (a := ⟨b0, o0 + 2, none⟩) (hz7.out b0 (by first | omega | (simp; omega)) (.inl HQB.out))).trans (oldc (show Below w6.heap.size w6 _ from bwT) b06 z2')⟩
                have s7 := hp7.size
                have HT7 := Lib.hid hT7
                have l7 : wL.heap.size < w7.heap.size := by omega
                clear hT7 hz7 hB7 hb7
                refine hK.out _ _ ?_ (fun hHeld => ?_)
                · exact kpT
                clear hK K
                try simp only [Act.put, List.setIfInBounds_toArray, List.set_cons_zero, List.set_cons_succ]
                refine tkR 9 (v := ?_) ?_ ?_
                rotate_left
                · intro w hSw; (try dsimp only at hSw); go_simp <;> with_reducible rfl
                try simp only [Act.put, List.setIfInBounds_toArray, List.set_cons_zero, List.set_cons_succ]
                refine wpAnyH_ready (rs := [10]) (by kernel_rfl) (by simp) ?_
                refine rdR (fun K hK => ?_) ?_
                · go_simp
                  refine hK.out _ _ ?_ (fun hHeld => ?_)
                  · exact kpT
                  clear hK K
                  try simp only [Act.put, List.setIfInBounds_toArray, List.set_cons_zero, List.set_cons_succ]
                  refine wpAnyH_done (by kernel_rfl) ?_ _
                  have HT8 := Lib.hid (show TwoX (wL.heap.size + 1) (w7.setCell ⟨wL.heap.size, 1, none⟩ (.slice a7 (es.length + 1) c7)) (.slice d1 rs1.length d2) (.slice a7 (es.length + 1) c7) rs1 (es ++ [((te, tl), y2)]) from (HT7.out.x HQK.out).keep fun b hb hl => Below.heap_setCell _ _ _ _ (by show b ≠ wL.heap.size; omega))
                  have m0 : (w7.setCell ⟨wL.heap.size, 1, none⟩ (.slice a7 (es.length + 1) c7)).cell? ⟨wL.heap.size, 0, none⟩ = some (.slice d1 rs1.length d2) := by simp [go_sem, h0]
                  have m1 : (w7.setCell ⟨wL.heap.size, 1, none⟩ (.slice a7 (es.length + 1) c7)).cell? ⟨wL.heap.size, 1, none⟩ = some (.slice a7 (es.length + 1) c7) := World.cell?_setCell_same _ _ _ h1
                  have mf : ∀ o, (w7.setCell ⟨wL.heap.size, 1, none⟩ (.slice a7 (es.length + 1) c7)).frozen? ⟨wL.heap.size, o, none⟩ = false := fun o => frozen_setCell _ _ _ _ _ (hf7 o)
                  have ml : wL.heap.size < (w7.setCell ⟨wL.heap.size, 1, none⟩ (.slice a7 (es.length + 1) c7)).heap.size := by simp; omega
                  have hb8 : Below wL.heap.size wL (w7.setCell ⟨wL.heap.size, 1, none⟩ (.slice a7 (es.length + 1) c7)) := (hB2.trans (hp7.mono (by omega))).setCell (Nat.le_refl _) _
                  obtain ⟨W8, hW8⟩ : ∃ W : World, W = w7.setCell ⟨wL.heap.size, 1, none⟩ (.slice a7 (es.length + 1) c7) := ⟨_, rfl⟩
                  rw [← hW8] at HT8 m0 m1 mf ml hb8
                  try rw [← hW8]
                  clear hW8 HT7 HOR HG2 hHeld hS7 h0 h1 hf7 k0 k1 kf
                  go_wp2
                  go_roundw
                  case rel => exact ⟨k + 1, _, _, rs1, es ++ [((te, tl), y2)], by omega, by go_num, m0, m1, mf, ml, HT8, HP4, by simp; omega, hb8⟩
                  case measure => simp [intOf]; omega
                exact AllReadyH.nil
              exact AllReadyH.nil
            exact AllReadyH.nil
          exact AllReadyH.nil
    · obtain rfl : k = ls.length := by omega
      have hkI : ¬ (ls.length : Int) < (ls.length : Int) := by omega
      have HPE := Lib.hid (show (rs, es) = P by
        have h := HP.out
        rw [List.drop_length] at h
        exact h)
      have y0 := oldc hbb lr r0
      have y1 := oldc hbb lr r1
      have yf : ∀ o, wb.frozen? ⟨w.heap.size, o, none⟩ = false := fun o => (hbb.frozen (p := ⟨w.heap.size, o, none⟩) lr).trans (rf o)
      have lrb : w.heap.size < wb.heap.size := by omega
      obtain ⟨r1, hlet_r1⟩ : ∃ r, r = isTerm (rs, es) := ⟨_, rfl⟩
      have H1 := Lib.hid hlet_r1
      clear hlet_r1
      obtain ⟨R, hR⟩ : ∃ R, R = trmTxt (rs, es) := ⟨_, rfl⟩
      have HR := Lib.hid hR
      have HO3 := Lib.hid (show O = if r1 = true ∧ R = s then some (rs, es) else none by
        rw [HO2.out, ← HPE.out, H1.out, hR]; rfl)
      clear HP HPE HO2 hR
      go_wp2_with fail
      refine (isTermS_b _ _ _ rs es HG.out.ow.rd r1 H1.out).mono ?_
      rintro e2 w5 ⟨rfl, hb5⟩
      have s5 := hb5.size
      have t0 := oldc hb5 lY g0
      have t1 := oldc hb5 lY g1
      have tf : ∀ o, w5.frozen? ⟨wL.heap.size, o, none⟩ = false := fun o => (hb5.frozen (p := ⟨wL.heap.size, o, none⟩) lY).trans (gf o)
      have u0 := oldc hb5 lrb y0
      have u1 := oldc hb5 lrb y1
      have uf : ∀ o, w5.frozen? ⟨w.heap.size, o, none⟩ = false := fun o => (hb5.frozen (p := ⟨w.heap.size, o, none⟩) lrb).trans (yf o)
      have l5 : wL.heap.size < w5.heap.size := by omega
      have lr5 : w.heap.size < w5.heap.size := by omega
      have n1 : ¬ wL.heap.size = w5.heap.size := by omega
      have n2 : ¬ w5.heap.size = wL.heap.size := by omega
      have n3 : ¬ w.heap.size = w5.heap.size := by omega
      have n4 : ¬ w5.heap.size = w.heap.size := by omega
      have hB5 : Below w.heap.size w w5 := hBb.trans (hb5.mono (by omega))
      have HG5 := Lib.hid (HG.out.below hb5)
      clear HG hb5 g0 g1 gf y0 y1 yf
      cases r1
      · obtain rfl : O = none := by rw [HO3.out, if_neg (fun h => by cases h.1)]
        clear HO3 HG5 H1 HR
        go_wp2
        refine bodyPost_ret (v := .tuple #[.agg #[.slice none 0 0, .slice none 0 0], .bool false]) ?_ rfl ⟨_, _, rfl, (TwoX.start w.heap.size _).ow, ?_⟩
        · simp [results, Tryz.results5, go_sem, u0, u1, uf, n1, n2, n3, n4, lr5]
        · exact bwT
      go_wp2_with fail
      refine (formatTrmS_any _ _ _ (rs, es) HG5.out.ow.rd R HR.out).mono ?_
      rintro e3 w6 ⟨rfl, hb6⟩
      have s6 := hb6.size
      have t0 := oldc hb6 l5 t0
      have t1 := oldc hb6 l5 t1
      have u0 := oldc hb6 lr5 u0
      have u1 := oldc hb6 lr5 u1
      have uf : ∀ o, w6.frozen? ⟨w.heap.size, o, none⟩ = false := fun o => (hb6.frozen (p := ⟨w.heap.size, o, none⟩) lr5).trans (uf o)
      have hB6 : Below w.heap.size w w6 := hB5.trans (hb6.mono (by omega))
      have HG6 := Lib.hid (HG5.out.below hb6)
      have lr5 : w.heap.size < w6.heap.size := by omega
      clear HG5 hb6 tf
      by_cases e : R = s
      · have e1 : (R.toList == s.toList) = true := by rw [text_eq]; exact decide_eq_true e
        have e2 : (R.toList != s.toList) = false := by rw [bne, e1]; rfl
        obtain rfl : O = some (rs, es) := by rw [HO3.out, if_pos ⟨trivial, e⟩]
        clear HO3 H1 HR e
        go_wp2
        refine bodyPost_ret (v := .tuple #[.agg #[.slice a1 rs.length c1, .slice a2 es.length c2], .bool true]) ?_ rfl ⟨_, _, rfl, (HG6.out.zone zmT).ow.mono (by omega) (Nat.le_refl _), ?_⟩
        · simp [results, Tryz.results5, go_sem, u0, u1, uf, t0, t1, nY1, nY2]
        · exact bwT
      · have e1 : (R.toList == s.toList) = false := by rw [text_eq]; exact decide_eq_false e
        have e2 : (R.toList != s.toList) = true := by rw [bne, e1]; rfl
        obtain rfl : O = none := by rw [HO3.out, if_neg (fun h => e h.2)]
        clear HO3 H1 HR e HG6
        go_wp2
        refine bodyPost_ret (v := .tuple #[.agg #[.slice none 0 0, .slice none 0 0], .bool false]) ?_ rfl ⟨_, _, rfl, (TwoX.start w.heap.size _).ow, ?_⟩
        · simp [results, Tryz.results5, go_sem, u0, u1, uf, n1, n2, n3, n4, lr5]
        · exact bwT
end Go.Proofs.YtdpkldapobbnpaaGreatDoor
