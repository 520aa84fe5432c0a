/- Contracts: textLines, ParseTerminology (the program). -/
import Derived.Test.YtdpkldapobbnpaaGreatDoorPrsI2
import Derived.Test.YtdpkldapobbnpaaGreatDoorPtr
import Derived.Test.YtdpkldapobbnpaaGreatDoorTwx
import Derived.Test.YtdpkldapobbnpaaGreatDoorFrmW
import Derived.Test.YtdpkldapobbnpaaGreatDoorTrmB
import Derived.Test.YtdpkldapobbnpaaGreatDoorLits
import Derived.Lib.SplitLaws
namespace Go.Proofs.YtdpkldapobbnpaaGreatDoor
set_option linter.unusedVariables false
set_option linter.unusedSimpArgs false
open Go.RowKit

theorem spl_mem (b : UInt8) : ∀ (s : Bs) (p : Bs), (∀ l ∈ addHd p (spl b s), l.length ≤ p.length + s.length) ∧ (addHd p (spl b s)).length ≤ s.length + 1
  | [], p => by simp [spl, addHd]
  | c :: s, p => by
    by_cases e : c = b
    · have h1 := (spl_mem b s []).1
      have h2 := (spl_mem b s []).2
      rw [addHd_nil] at h1 h2
      rw [spl, if_pos e]
      show (∀ l ∈ (p ++ []) :: spl b s, _) ∧ ((p ++ []) :: spl b s).length ≤ _
      refine ⟨fun l hl => ?_, by rw [List.length_cons, List.length_cons]; omega⟩
      rcases List.mem_cons.1 hl with rfl | hl
      · simp
      · have := h1 l hl
        rw [List.length_cons]; simp at this; omega
    · have h := spl_mem b s (p ++ [c])
      rw [spl, if_neg e, addHd_app]
      refine ⟨fun l hl => ?_, by have := h.2; rw [List.length_cons]; omega⟩
      have := h.1 l hl
      rw [List.length_append] at this
      simp at this ⊢; omega
theorem spl_len (b : UInt8) (s : Bs) : (∀ l ∈ spl b s, l.length ≤ s.length) ∧ (spl b s).length ≤ s.length + 1 := by
  have h := spl_mem b s []
  rw [addHd_nil] at h
  simpa using h
theorem textL_len {s : Bs} {ls : List Bs} (h : textL s = some ls) : (∀ l ∈ ls, l.length ≤ s.length) ∧ ls.length ≤ s.length + 1 := by
  unfold textL at h
  split at h
  · cases h; simp
  · split at h
    · cases h
      rw [split_spl 10 _ _ (Nat.le_refl _)]
      have h2 := spl_len 10 s.dropLast
      have h3 : s.dropLast.length ≤ s.length := by simp
      exact ⟨fun l hl => Nat.le_trans (h2.1 l hl) h3, by omega⟩
    · cases h
theorem hasSuf_any (w : World) (s p : ByteArray) (hs : s.size ≤ maxLen) (b : Bool) (hb : b = Lib.hasSuffix s.data.toList p.data.toList) :
    Calls Tryz.prog 59 #[.string s, .string p] w (PostQ w (.bool b)) := by
  subst hb
  unfold maxLen at hs
  exact Any.strings_HasSuffix lyHas s p w (by omega)
theorem split_any (w : World) (m : Int) (hm : w.cell? ⟨0, 0, none⟩ = some (.int .i64 m)) (s : ByteArray) (hs : s.size ≤ 1048576) (X : List ByteArray) (hX : X = (Lib.split s.data.toList [10]).map txt) :
    Calls Tryz.prog 60 #[.string s, .string ⟨#[10]⟩] w (PostOw w X) := by
  refine (Any.strings_Split { lySpl with } lySpl.i9 s ⟨#[10]⟩ m w (by omega) hm (by decide)).mono ?_
  rintro e w' ⟨rfl, rfl⟩
  have hl := Lib.splitB_all ⟨#[10]⟩ (by decide) 0 _ s rfl
  have hd : (Lib.splitB ⟨#[10]⟩ 0 (Lib.countB s ⟨#[10]⟩) s) = X := by
    have h := Lib.splitB_data ⟨#[10]⟩ 0 (Lib.countB s ⟨#[10]⟩) s
    have h2 : (Lib.splitB ⟨#[10]⟩ 0 (Lib.countB s ⟨#[10]⟩) s).map (fun x => txt x.data.toList) = X := by
      rw [hX]
      unfold Lib.split
      rw [show Lib.count s.data.toList [10] = Lib.countB s ⟨#[10]⟩ from rfl, ← show (⟨#[10]⟩ : ByteArray).data.toList = [10] from rfl, ← h, List.map_map]; rfl
    rw [← h2]
    have e : (fun x : ByteArray => txt x.data.toList) = id := funext fun x => txt_list x
    rw [e, List.map_id]
  rw [← hl, hd]
  have hx : ∀ x ∈ X, x.size ≤ 1048576 := fun x hx => by
    rw [hX] at hx
    obtain ⟨l, hl, rfl⟩ := List.mem_map.1 hx
    rw [split_spl 10 _ _ (Nat.le_refl _)] at hl
    rw [size_txt]
    have := (spl_len 10 s.data.toList).1 l hl
    rw [← Lib.size_eq] at this; omega
  have hn : X.length ≤ 1048577 := by
    rw [hX, List.length_map, split_spl 10 _ _ (Nat.le_refl _)]
    have := (spl_len 10 s.data.toList).2
    rw [← Lib.size_eq] at this; omega
  exact ⟨_, rfl, (Ow.strs_lit0 w _ X (fun x h => by have := hx x h; unfold maxLen; omega) (by unfold maxLen; omega)).mono (Nat.le_refl _) (by simp), bwT⟩
set_option maxRecDepth 20000 in
set_option maxHeartbeats 4000000 in
theorem textLinesI_any (w : World) (m : Int) (hm : w.cell? ⟨0, 0, none⟩ = some (.int .i64 m)) (s : ByteArray) (hs : s.size ≤ 1048576) (O : Option (List Bs)) (hO : O = textL s.data.toList) :
    Calls Tryz.prog 23 #[.string s] w (PostLB w ((O.getD []).map txt) O.isSome) := by
  have HM := Lib.hid hm
  have HO := Lib.hid hO
  clear hm hO
  go_enter Tryz.func23, Tryz.ntmps23
  by_cases h0 : s.data.toList = []
  · obtain rfl : O = some [] := by rw [HO.out, textL, if_pos h0]
    have e0 : s.toList.isEmpty = true := by rw [ByteArray.toList_eq, h0]; rfl
    clear HO h0
    go_wp2
    go_ret2
    exact ⟨_, rfl, Ow.nil _ _ _, bwT⟩
  have e0 : s.toList.isEmpty = false := by
    rw [ByteArray.toList_eq]
    cases e : s.data.toList with
    | nil => exact absurd e h0
    | cons _ _ => rfl
  obtain ⟨b, hb⟩ : ∃ b, b = Lib.hasSuffix s.data.toList [10] := ⟨_, rfl⟩
  have HB := Lib.hid hb
  have HO2 := Lib.hid (show O = if b = true then some (Lib.split s.data.toList.dropLast [10]) else none by rw [HO.out, textL, if_neg h0, hb])
  have hs1 : 1 ≤ s.size := by
    rw [Lib.size_eq]
    cases e : s.data.toList with
    | nil => exact absurd e h0
    | cons _ _ => simp
  clear hb HO h0
  go_wp2_with fail
  refine (hasSuf_any _ s ⟨#[10]⟩ (by unfold maxLen; omega) b HB.out).mono ?_
  rintro e1 w1 ⟨rfl, hw1⟩
  cases b
  · obtain rfl : O = none := HO2.out
    clear HO2 HB
    rw [hw1]
    go_wp2
    go_ret2
    exact ⟨_, rfl, Ow.nil _ _ _, bwT⟩
  have hi0 : (0 : Int) ≤ (s.size : Int) - 1 := by omega
  have hi1 : (s.size : Int) - 1 ≤ (s.size : Int) := by omega
  have hX := Lib.hid (show (O.getD []).map txt = (Lib.split (s.extract 0 (s.size - 1)).data.toList [10]).map txt by rw [HO2.out, txt_init, list_txt]; rfl)
  have hV := Lib.hid (show O.isSome = true by rw [HO2.out]; rfl)
  have hsx : (s.extract 0 (s.size - 1)).size ≤ 1048576 := by simp; omega
  rw [hw1]
  clear HO2 HB hw1
  go_wp2_with fail
  refine (split_any _ m (oldc bwT (World.block_lt_of_cell? _ _ HM.out) HM.out) (s.extract 0 (s.size - 1)) hsx _ hX.out).mono ?_
  rintro e2 w2 ⟨u2, rfl, ho2, hb2⟩
  obtain ⟨xa, xn, xc, rfl, -⟩ := ho2.rd.shape
  have HO3 := Lib.hid ho2
  have hV2 := hV.out
  clear ho2 hX HM
  go_wp2
  go_ret2
  exact ⟨_, by rw [hV2]; rfl, HO3.out, bwT⟩
set_option maxRecDepth 20000 in
set_option maxHeartbeats 16000000 in
theorem parseTrmI_any (w : World) (m : Int) (hm : w.cell? ⟨0, 0, none⟩ = some (.int .i64 m)) (hgl : 0 < w.heap.size) (s : ByteArray) (hs : s.size ≤ 1048576) (O : Option Trm) (hO : O = fin s (parI s.data.toList)) :
    Calls Tryz.prog 6 #[.string s] w (PostOw2B w (O.getD ([], [])) O.isSome) := by
  obtain ⟨T, hT⟩ : ∃ T, T = textL s.data.toList := ⟨_, rfl⟩
  have HT := Lib.hid hT
  have HO := Lib.hid (show O = fin s (T.bind fun ls => if ls.length ≤ 72 then linesI ls ([], []) else none) by rw [hO, parI, hT])
  have HLL := Lib.hid (show ∀ ls, T = some ls → ∀ l ∈ ls, l.length ≤ 1048576 from fun ls e l hl => by
    have := (textL_len (hT.symm.trans e)).1 l hl
    rw [← Lib.size_eq] at this; omega)
  have HM := Lib.hid hm
  clear hm hO hT
  go_enter Tryz.func6, Tryz.ntmps6
  go_wp2_with fail
  refine (textLinesI_any _ m (oldc bwT hgl HM.out) s hs T HT.out).mono ?_
  rintro e1 w1 ⟨xv, rfl, hox, hbw1⟩
  have hpw1 : Below w.heap.size w w1 := Below.after bwT hbw1 szT
  have sw1 := hpw1.size
  have hBw1 : Below w.heap.size w w1 := hpw1
  have l_r : w.heap.size < w1.heap.size := by have := hbw1.size; simp at this; omega
  have q_r0 : w1.cell? ⟨w.heap.size, 0, none⟩ = some (.slice none 0 0) := oldc hbw1 ltT (by simp [go_sem])
  have q_r1 : w1.cell? ⟨w.heap.size, 1, none⟩ = some (.slice none 0 0) := oldc hbw1 ltT (by simp [go_sem])
  have f_r : ∀ o, w1.frozen? ⟨w.heap.size, o, none⟩ = false := fun o => (hbw1.frozen (p := ⟨w.heap.size, o, none⟩) ltT).trans (by simp [go_sem])
  clear hbw1 hpw1
  obtain ⟨xao, xn, xcap, rfl, hxn, -⟩ := hox.rd.shape
  rcases T with _ | ls
  · obtain rfl : O = none := HO.out
    clear HO hox HT HLL
    go_wp2
    exact bodyPost_ret (v := .tuple #[.agg #[.slice none 0 0, .slice none 0 0], .bool false]) (by simp [results, go_sem, *]) rfl ⟨_, _, rfl, (TwoX.start w.heap.size _).ow, bwT⟩
  have hxn2 : ls.length = xn := by rw [← hxn]; simp
  subst hxn2
  clear hxn
  have HLS := Lib.hid (show Rd true _ _ _ _ (ls.map txt) from hox.rd)
  have HLB := Lib.hid (HLL.out ls rfl)
  by_cases h72 : ls.length ≤ 72
  rotate_left
  · obtain rfl : O = none := by
      rw [HO.out]
      show fin s (if ls.length ≤ 72 then linesI ls ([], []) else none) = none
      rw [if_neg h72]; rfl
    have hI : (72 : Int) < (ls.length : Int) := by omega
    clear HO hox HT HLL HLS HLB h72
    go_wp2
    exact bodyPost_ret (v := .tuple #[.agg #[.slice none 0 0, .slice none 0 0], .bool false]) (by simp [results, go_sem, *]) rfl ⟨_, _, rfl, (TwoX.start w.heap.size _).ow, bwT⟩
  have hI : ¬ (72 : Int) < (ls.length : Int) := by omega
  obtain ⟨P, hP⟩ : ∃ P, P = linesI ls ([], []) := ⟨_, rfl⟩
  have HO2 := Lib.hid (show O = fin s P by
    rw [HO.out, hP]
    show fin s (if ls.length ≤ 72 then linesI ls ([], []) else none) = _
    rw [if_pos h72])
  have HP0 := Lib.hid hP.symm
  obtain ⟨wL, hwL⟩ : ∃ W : World, W = w1 := ⟨_, rfl⟩
  subst hwL
  have hBL : Below w.heap.size w wL := hBw1
  have sL := hBL.size
  have r0 := q_r0
  have r1 := q_r1
  have rf := f_r
  have lr : w.heap.size < wL.heap.size := l_r
  obtain ⟨WY, hWY⟩ : ∃ W : World, W = wL.alloc (.cells #[.slice none 0 0, .slice none 0 0] 25) := ⟨_, rfl⟩
  have hbY : Below wL.heap.size wL WY := by subst hWY; exact bwT
  have g0 : WY.cell? ⟨wL.heap.size, 0, none⟩ = some (.slice none 0 0) := by subst hWY; simp [go_sem]
  have g1 : WY.cell? ⟨wL.heap.size, 1, none⟩ = some (.slice none 0 0) := by subst hWY; simp [go_sem]
  have gf : ∀ o, WY.frozen? ⟨wL.heap.size, o, none⟩ = false := by subst hWY; intro o; simp [go_sem]
  have lY : wL.heap.size < WY.heap.size := by subst hWY; simp
  clear hP HO hox HT HLL q_r0 q_r1 f_r l_r
  go_wp2
  rw [← hWY]
  clear hWY
  go_loopw [8, 9, 10, 11, 12, 13, 14, 15, 16, 17, 18, 19, 35] (fun _ _ _ _ _ _ _ _ _ _ _ _ s35 wl => ∃ (k : Nat) (v1 v2 : Value) (rs : List Rul) (es : List Ent), k ≤ ls.length ∧ s35 = .int .i64 k ∧ wl.cell? ⟨wL.heap.size, 0, none⟩ = some v1 ∧ wl.cell? ⟨wL.heap.size, 1, none⟩ = some v2 ∧ (∀ o, wl.frozen? ⟨wL.heap.size, o, none⟩ = false) ∧ wL.heap.size < wl.heap.size ∧ Hid (TwoX (wL.heap.size + 1) wl v1 v2 rs es) ∧ Hid (linesI (ls.drop k) (rs, es) = P) ∧ rs.length + es.length ≤ k ∧ Below wL.heap.size wL wl) (fun _ _ _ _ _ _ _ _ _ _ _ _ s35 _ => ls.length - (intOf s35).toNat)
  case atStart => exact ⟨0, _, _, [], [], Nat.zero_le _, rfl, g0, g1, gf, lY, Lib.hid (TwoX.start _ _), Lib.hid HP0.out, Nat.le_refl _, hbY⟩
  case round =>
    clear g0 g1 gf lY hbY HP0
    obtain ⟨wb, hwb⟩ : ∃ wm : World, wm = wr := ⟨_, rfl⟩
    subst hwb
    obtain ⟨k, v1, v2, rs, es, hk, rfl, g0, g1, gf, lY, HG, HP, hrl, hbb⟩ := hrel
    obtain ⟨a1, c1, a2, c2, rfl, rfl⟩ := HG.out.len
    have sB := hbb.size
    have hBb : Below w.heap.size w wb := hBL.trans (hbb.mono sL)
    have y0 := oldc hbb lr r0
    have y1 := oldc hbb lr r1
    have yf : ∀ o, wb.frozen? ⟨w.heap.size, o, none⟩ = false := fun o => (hbb.frozen (p := ⟨w.heap.size, o, none⟩) lr).trans (rf o)
    have lrb : w.heap.size < wb.heap.size := by omega
    have nY1 : ¬ wL.heap.size = w.heap.size := by omega
    have nY2 : ¬ w.heap.size = wL.heap.size := by omega
    by_cases hkl : k < ls.length
    · have hkI : (k : Int) < (ls.length : Int) := by omega
      obtain ⟨l, hl⟩ : ∃ l, ls[k]? = some l := ⟨_, List.getElem?_eq_getElem hkl⟩
      obtain ⟨bx, ofx, x, hxa, hx, x0, -⟩ := (HLS.out.below hbb).str_at (i := k) hkl
      subst hxa
      have hxl : x = txt l := by
        have h := hx.out
        rw [List.getElem?_map, hl] at h
        exact (Option.some.inj h).symm
      have HXL := Lib.hid (show x.data.toList = l by rw [hxl, list_txt])
      have hxs : x.size ≤ 1048576 := by rw [hxl, size_txt]; exact HLB.out l (List.mem_of_getElem? hl)
      have HPL := Lib.hid (show (lineI (rs, es) l).bind (linesI (ls.drop (k + 1))) = P by rw [← HP.out, drop_cons hl]; rfl)
      obtain ⟨x1, hx1⟩ : ∃ y, y = txt (Lib.trimPrefix x.data.toList [114, 117, 108, 101, 32]) := ⟨_, rfl⟩
      obtain ⟨b1, hlet_b1⟩ : ∃ r, r = Lib.hasPrefix x.data.toList [114, 117, 108, 101, 32] := ⟨_, rfl⟩
      have HB1 := Lib.hid hlet_b1
      clear hlet_b1
      have HX1 := Lib.hid hx1
      have sx1 : x1.size ≤ x.size := by rw [hx1, size_txt]; have := trimPre_len x.data.toList [114, 117, 108, 101, 32]; rw [← Lib.size_eq] at this; exact this
      clear hl hx hxl HP hx1
      go_wp2_with fail
      refine (cutPre_any _ x ⟨#[114, 117, 108, 101, 32]⟩ x1 b1 HX1.out HB1.out).mono ?_
      rintro e2 w2 ⟨rfl, hw2⟩
      obtain rfl := hw2.symm
      cases b1
      rotate_left
      · obtain ⟨O1, hO1⟩ : ∃ q, q = ruleI x1.data.toList := ⟨_, rfl⟩
        have HO1 := Lib.hid hO1
        have HLN := Lib.hid (show lineI (rs, es) l = O1.map fun r => (rs ++ [r], es) by
          rw [lineI, ← HXL.out, if_pos HB1.out.symm, hO1, HX1.out, list_txt])
        clear hO1 HB1 HX1
        go_wp2_with fail
        refine (parseRuleI_any _ m (oldc hBb hgl HM.out) (Nat.lt_of_lt_of_le hgl hBb.size) x1 (by omega) O1 HO1.out).mono ?_
        rintro e3 w3 ⟨z0, z1, z2, z3, z4, rfl, ho3, hb3⟩
        obtain ⟨ru, hru⟩ : ∃ r, r = O1.getD rul0 := ⟨_, rfl⟩
        rw [← hru] at ho3
        have HRU := Lib.hid hru
        obtain ⟨nm, sx, pl, fr, tw⟩ := ru
        obtain ⟨vfr, vtw, e1, -, -, -, hfr, htw⟩ := Rd.dRul ho3.rd
        simp only [List.cons.injEq, and_true] at e1
        obtain ⟨rfl, rfl, rfl, rfl, rfl⟩ := e1
        obtain ⟨fao, fn, fcap, rfl, -⟩ := hfr.shape
        obtain ⟨tao, tn, tcap, rfl, -⟩ := htw.shape
        have s3 := hb3.size
        have t0 := oldc hb3 lY g0
        have t1 := oldc hb3 lY g1
        have tf : ∀ o, w3.frozen? ⟨wL.heap.size, o, none⟩ = false := fun o => (hb3.frozen (p := ⟨wL.heap.size, o, none⟩) lY).trans (gf o)
        have u0 := oldc hb3 lrb y0
        have u1 := oldc hb3 lrb y1
        have uf : ∀ o, w3.frozen? ⟨w.heap.size, o, none⟩ = false := fun o => (hb3.frozen (p := ⟨w.heap.size, o, none⟩) lrb).trans (yf o)
        have l3 : wL.heap.size < w3.heap.size := by omega
        have lr3 : w.heap.size < w3.heap.size := by omega
        have n1 : ¬ wL.heap.size = w3.heap.size := by omega
        have n2 : ¬ w3.heap.size = wL.heap.size := by omega
        have n3 : ¬ w.heap.size = w3.heap.size := by omega
        have n4 : ¬ w3.heap.size = w.heap.size := by omega
        have hB3 : Below w.heap.size w w3 := hBb.trans (hb3.mono (by omega))
        have HOR := Lib.hid ho3
        clear ho3 hfr htw hru
        rcases O1 with _ | ru1
        · obtain rfl : O = none := by
            rw [HO2.out, ← HPL.out, HLN.out]; rfl
          clear HO2 HPL HLN HOR HRU HG HO1 hb3
          go_wp2
          refine bodyPost_ret (v := .tuple #[.agg #[.slice none 0 0, .slice none 0 0], .bool false]) ?_ rfl ⟨_, _, rfl, (TwoX.start w.heap.size _).ow, ?_⟩
          · simp [results, Tryz.results6, go_sem, u0, u1, uf, n1, n2, n3, n4, lr3]
          · exact bwT
        have HPN := Lib.hid (show linesI (ls.drop (k + 1)) (rs ++ [(nm, sx, pl, fr, tw)], es) = P by
          rw [← HPL.out, HLN.out, HRU.out]; rfl)
        clear HPL HLN HRU HO1
        go_wp2_with (at_builtin; refine wpList_push_t1 rfl rfl slRule rfl (ad := ⟨w3.heap.size + 1, 0, none⟩) rfl (cs := [.string nm, .int .i64 sx, .int .i64 pl, .slice fao fn fcap, .slice tao tn tcap]) (y := ((nm, sx, pl, fr, tw) : Rul)) (lx := wb.heap.size) (hx' := w3.heap.size) ?c1 (w0 := wb) HG.out ?c2 (Nat.le_refl _) ?c3 (HOR.out.below ?c4) (by unfold maxLen; omega) (by omega) ?_)
        case c1 =>
          intro j c hj
          match j, hj with
          | 0, hj => simp at hj; subst hj; simp [Addr.add, go_sem]
          | 1, hj => simp at hj; subst hj; simp [Addr.add, go_sem]
          | 2, hj => simp at hj; subst hj; simp [Addr.add, go_sem]
          | 3, hj => simp at hj; subst hj; simp [Addr.add, go_sem]
          | 4, hj => simp at hj; subst hj; simp [Addr.add, go_sem]
        case c2 => omega
        case c3 => exact Below.trans hb3 bwT
        case c4 => exact bwT
        intro a5 c5 w5 hT5 hb5 _
        have hp5 : Below (wL.heap.size + 1) wb w5 := (hb3.mono (by omega)).trans (Below.trans (show Below (wL.heap.size + 1) w3 _ from bwT) hb5)
        have HT5 := Lib.hid hT5
        have h0 := oldc hp5 (Nat.lt_succ_self _) g0
        have h1 := oldc hp5 (Nat.lt_succ_self _) g1
        have hf5 : ∀ o, w5.frozen? ⟨wL.heap.size, o, none⟩ = false := fun o => (hp5.frozen (p := ⟨wL.heap.size, o, none⟩) (Nat.lt_succ_self _)).trans (gf o)
        have s5 := hp5.size
        obtain ⟨W8, hW8⟩ : ∃ W : World, W = w5.setCell ⟨wL.heap.size, 0, none⟩ (.slice a5 (rs.length + 1) c5) := ⟨_, rfl⟩
        have m0 : W8.cell? ⟨wL.heap.size, 0, none⟩ = some (.slice a5 (rs.length + 1) c5) := by rw [hW8]; exact World.cell?_setCell_same _ _ _ h0
        have m1 : W8.cell? ⟨wL.heap.size, 1, none⟩ = some (.slice a2 es.length c2) := by rw [hW8]; simp [go_sem, h1]
        have mf : ∀ o, W8.frozen? ⟨wL.heap.size, o, none⟩ = false := by rw [hW8]; intro o; exact frozen_setCell _ _ _ _ _ (hf5 o)
        have ml : wL.heap.size < W8.heap.size := by rw [hW8]; simp <;> omega
        have HT8 := Lib.hid (show TwoX (wL.heap.size + 1) W8 (.slice a5 (rs.length + 1) c5) (.slice a2 es.length c2) (rs ++ [(nm, sx, pl, fr, tw)]) es by rw [hW8]; exact HT5.out.zone zmT)
        have hb8 : Below wL.heap.size wL W8 := by rw [hW8]; exact (hbb.trans (hp5.mono (by omega))).setCell (Nat.le_refl _) _
        go_upto_region 20 with fail
        rw [← hW8]
        clear hW8 hT5 HT5 HOR hb3 hb5 hp5 HG t0 t1 tf u0 u1 uf h0 h1 hf5 g0 g1 gf
        go_wp2
        go_roundw
        case rel => exact ⟨k + 1, _, _, _, _, by omega, by go_num, m0, m1, mf, ml, HT8, HPN, by simp; omega, hb8⟩
        case measure => simp [intOf]; omega
      · obtain ⟨x2, hx2⟩ : ∃ y, y = txt (Lib.trimPrefix x.data.toList [116, 101, 114, 109, 32]) := ⟨_, rfl⟩
        obtain ⟨b2, hlet_b2⟩ : ∃ r, r = Lib.hasPrefix x.data.toList [116, 101, 114, 109, 32] := ⟨_, rfl⟩
        have HB2 := Lib.hid hlet_b2
        clear hlet_b2
        have HX2 := Lib.hid hx2
        have hx2l : x2.data.toList = Lib.trimPrefix x.data.toList [116, 101, 114, 109, 32] := by rw [hx2, list_txt]
        have sx2 : x2.size ≤ x.size := by rw [hx2, size_txt]; have := trimPre_len x.data.toList [116, 101, 114, 109, 32]; rw [← Lib.size_eq] at this; exact this
        obtain ⟨A, hA⟩ : ∃ y, y = txt (Lib.cut x2.data.toList [32]).1 := ⟨_, rfl⟩
        obtain ⟨Bt, hBt⟩ : ∃ y, y = txt (Lib.cut x2.data.toList [32]).2.1 := ⟨_, rfl⟩
        obtain ⟨c, hc⟩ : ∃ y, y = (Lib.cut x2.data.toList [32]).2.2 := ⟨_, rfl⟩
        obtain ⟨O1, hO1⟩ : ∃ q, q = typeI A.data.toList := ⟨_, rfl⟩
        have sA : A.size ≤ x2.size := by rw [hA, size_txt]; have := (cut_len x2.data.toList [32]).1; rw [← Lib.size_eq] at this; exact this
        have sBt : Bt.size ≤ x2.size := by rw [hBt, size_txt]; have := (cut_len x2.data.toList [32]).2; rw [← Lib.size_eq] at this; exact this
        have HLN := Lib.hid (show lineI (rs, es) l = if b2 = true ∧ c = true then O1.map fun t => (rs, es ++ [(t, Bt)]) else none by
          rw [lineI, ← HXL.out, if_neg (by rw [← HB1.out]; decide), ← hx2l, ← hc, ← HB2.out, hO1, hA, hBt, list_txt])
        have HA := Lib.hid hA
        have HBt := Lib.hid hBt
        have HC := Lib.hid hc
        have HO1 := Lib.hid hO1
        clear hx2 hx2l hA hBt hc hO1 HB1 HX1
        go_wp2_with fail
        refine (cutPre_any _ x ⟨#[116, 101, 114, 109, 32]⟩ x2 b2 HX2.out HB2.out).mono ?_
        rintro e3 w3 ⟨rfl, hw3⟩
        obtain rfl := hw3.symm
        go_wp2_with fail
        refine (cut_any _ m (oldc hBb hgl HM.out) x2 ⟨#[32]⟩ A Bt (by omega) c HA.out HBt.out HC.out).mono ?_
        rintro e4 w4 ⟨rfl, hb4⟩
        have s4 := hb4.size
        go_wp2_with fail
        refine (parseTypeI_any _ A (by omega) O1 HO1.out).mono ?_
        rintro e5 w5 ⟨ta, tb, rfl, ho5, hb5'⟩
        have hb5 : Below wb.heap.size wb w5 := hb4.trans (hb5'.mono s4)
        obtain ⟨t, ht⟩ : ∃ t, t = O1.getD (0, []) := ⟨_, rfl⟩
        rw [← ht] at ho5
        have HTT := Lib.hid ht
        obtain ⟨te, tl⟩ := t
        obtain ⟨rfl, -, hts⟩ := ho5.rd.kin
        obtain ⟨bao, bn, bcap, rfl, -⟩ := hts.shape
        have s5 := hb5.size
        have t0 := oldc hb5 lY g0
        have t1 := oldc hb5 lY g1
        have tf : ∀ o, w5.frozen? ⟨wL.heap.size, o, none⟩ = false := fun o => (hb5.frozen (p := ⟨wL.heap.size, o, none⟩) lY).trans (gf o)
        have u0 := oldc hb5 lrb y0
        have u1 := oldc hb5 lrb y1
        have uf : ∀ o, w5.frozen? ⟨w.heap.size, o, none⟩ = false := fun o => (hb5.frozen (p := ⟨w.heap.size, o, none⟩) lrb).trans (yf o)
        have l5 : wL.heap.size < w5.heap.size := by omega
        have lr5 : w.heap.size < w5.heap.size := by omega
        have n1 : ¬ wL.heap.size = w5.heap.size := by omega
        have n2 : ¬ w5.heap.size = wL.heap.size := by omega
        have n3 : ¬ w.heap.size = w5.heap.size := by omega
        have n4 : ¬ w5.heap.size = w.heap.size := by omega
        have hB5 : Below w.heap.size w w5 := hBb.trans (hb5.mono (by omega))
        have HOR := Lib.hid (show Ow wb.heap.size w5.heap.size w5 [.int .i64 te, .slice bao bn bcap] ((te, tl) : Kin) from ho5.mono s4 (Nat.le_refl _))
        clear ho5 hts ht hb4 hb5' HX2 HB2 HA HBt HC HO1
        cases b2
        · obtain rfl : O = none := by
            rw [HO2.out, ← HPL.out, HLN.out, if_neg (fun h => by cases h.1)]; rfl
          clear HO2 HPL HLN HOR HTT HG hb5
          go_wp2
          refine bodyPost_ret (v := .tuple #[.agg #[.slice none 0 0, .slice none 0 0], .bool false]) ?_ rfl ⟨_, _, rfl, (TwoX.start w.heap.size _).ow, ?_⟩
          · simp [results, Tryz.results6, go_sem, u0, u1, uf, n1, n2, n3, n4, lr5]
          · exact bwT
        cases c
        · obtain rfl : O = none := by
            rw [HO2.out, ← HPL.out, HLN.out, if_neg (fun h => by cases h.2)]; rfl
          clear HO2 HPL HLN HOR HTT HG hb5
          go_wp2
          refine bodyPost_ret (v := .tuple #[.agg #[.slice none 0 0, .slice none 0 0], .bool false]) ?_ rfl ⟨_, _, rfl, (TwoX.start w.heap.size _).ow, ?_⟩
          · simp [results, Tryz.results6, go_sem, u0, u1, uf, n1, n2, n3, n4, lr5]
          · exact bwT
        rcases O1 with _ | t1x
        · obtain rfl : O = none := by
            rw [HO2.out, ← HPL.out, HLN.out, if_pos ⟨rfl, rfl⟩]; rfl
          clear HO2 HPL HLN HOR HTT HG hb5
          go_wp2
          refine bodyPost_ret (v := .tuple #[.agg #[.slice none 0 0, .slice none 0 0], .bool false]) ?_ rfl ⟨_, _, rfl, (TwoX.start w.heap.size _).ow, ?_⟩
          · simp [results, Tryz.results6, go_sem, u0, u1, uf, n1, n2, n3, n4, lr5]
          · exact bwT
        have HPN := Lib.hid (show linesI (ls.drop (k + 1)) (rs, es ++ [((te, tl), Bt)]) = P by
          rw [← HPL.out, HLN.out, if_pos ⟨rfl, rfl⟩, HTT.out]; rfl)
        clear HPL HLN HTT
        go_wp2_with (at_builtin; refine wpList_push_t2 rfl rfl slEntry rfl (ad := ⟨w5.heap.size + 1, 0, none⟩) rfl (cs := [.int .i64 te, .slice bao bn bcap, .string Bt]) (y := ((te, tl), Bt)) (lx := wb.heap.size) (hx' := w5.heap.size) ?c1 (w0 := wb) HG.out ?c2 (Nat.le_refl _) ?c3 ((HOR.out.ent_mk (by unfold maxLen; omega)).below ?c4) (by unfold maxLen; omega) (by omega) ?_)
        case c1 =>
          intro j c hj
          match j, hj with
          | 0, hj => simp at hj; subst hj; simp [Addr.add, go_sem]
          | 1, hj => simp at hj; subst hj; simp [Addr.add, go_sem]
          | 2, hj => simp at hj; subst hj; simp [Addr.add, go_sem]
        case c2 => omega
        case c3 => exact Below.trans hb5 bwT
        case c4 => exact bwT
        intro a6 c6 w6 hT6 hb6 _
        have hp6 : Below (wL.heap.size + 1) wb w6 := (hb5.mono (by omega)).trans (Below.trans (show Below (wL.heap.size + 1) w5 _ from bwT) hb6)
        have HT6 := Lib.hid hT6
        have h0 := oldc hp6 (Nat.lt_succ_self _) g0
        have h1 := oldc hp6 (Nat.lt_succ_self _) g1
        have hf6 : ∀ o, w6.frozen? ⟨wL.heap.size, o, none⟩ = false := fun o => (hp6.frozen (p := ⟨wL.heap.size, o, none⟩) (Nat.lt_succ_self _)).trans (gf o)
        have s6 := hp6.size
        obtain ⟨W8, hW8⟩ : ∃ W : World, W = w6.setCell ⟨wL.heap.size, 1, none⟩ (.slice a6 (es.length + 1) c6) := ⟨_, rfl⟩
        have m0 : W8.cell? ⟨wL.heap.size, 0, none⟩ = some (.slice a1 rs.length c1) := by rw [hW8]; simp [go_sem, h0]
        have m1 : W8.cell? ⟨wL.heap.size, 1, none⟩ = some (.slice a6 (es.length + 1) c6) := by rw [hW8]; exact World.cell?_setCell_same _ _ _ h1
        have mf : ∀ o, W8.frozen? ⟨wL.heap.size, o, none⟩ = false := by rw [hW8]; intro o; exact frozen_setCell _ _ _ _ _ (hf6 o)
        have ml : wL.heap.size < W8.heap.size := by rw [hW8]; simp <;> omega
        have HT8 := Lib.hid (show TwoX (wL.heap.size + 1) W8 (.slice a1 rs.length c1) (.slice a6 (es.length + 1) c6) rs (es ++ [((te, tl), Bt)]) by rw [hW8]; exact HT6.out.zone zmT)
        have hb8 : Below wL.heap.size wL W8 := by rw [hW8]; exact (hbb.trans (hp6.mono (by omega))).setCell (Nat.le_refl _) _
        go_upto_region 20 with fail
        rw [← hW8]
        clear hW8 hT6 HT6 HOR hb5 hb6 hp6 HG t0 t1 tf u0 u1 uf h0 h1 hf6 g0 g1 gf
        go_wp2
        go_roundw
        case rel => exact ⟨k + 1, _, _, _, _, by omega, by go_num, m0, m1, mf, ml, HT8, HPN, by simp; omega, hb8⟩
        case measure => simp [intOf]; omega
    · obtain rfl : k = ls.length := by omega
      have hkI : ¬ (ls.length : Int) < (ls.length : Int) := by omega
      have HPE := Lib.hid (show some (rs, es) = P by
        have h := HP.out
        rw [List.drop_length] at h
        exact h)
      obtain ⟨r1, hlet_r1⟩ : ∃ r, r = isTerm (rs, es) := ⟨_, rfl⟩
      have H1 := Lib.hid hlet_r1
      clear hlet_r1
      obtain ⟨R, hR⟩ : ∃ R, R = trmTxt (rs, es) := ⟨_, rfl⟩
      have HR := Lib.hid hR
      have HO3 := Lib.hid (show O = if r1 = true ∧ R = s then some (rs, es) else none by
        rw [HO2.out, ← HPE.out, H1.out, hR]; rfl)
      clear HP HPE HO2 hR
      go_wp2_with fail
      refine (isTermI_b _ _ _ rs es HG.out.ow.rd r1 H1.out).mono ?_
      rintro e2 w5 ⟨rfl, hb5⟩
      have s5 := hb5.size
      have t0 := oldc hb5 lY g0
      have t1 := oldc hb5 lY g1
      have tf : ∀ o, w5.frozen? ⟨wL.heap.size, o, none⟩ = false := fun o => (hb5.frozen (p := ⟨wL.heap.size, o, none⟩) lY).trans (gf o)
      have u0 := oldc hb5 lrb y0
      have u1 := oldc hb5 lrb y1
      have uf : ∀ o, w5.frozen? ⟨w.heap.size, o, none⟩ = false := fun o => (hb5.frozen (p := ⟨w.heap.size, o, none⟩) lrb).trans (yf o)
      have l5 : wL.heap.size < w5.heap.size := by omega
      have lr5 : w.heap.size < w5.heap.size := by omega
      have n1 : ¬ wL.heap.size = w5.heap.size := by omega
      have n2 : ¬ w5.heap.size = wL.heap.size := by omega
      have n3 : ¬ w.heap.size = w5.heap.size := by omega
      have n4 : ¬ w5.heap.size = w.heap.size := by omega
      have hB5 : Below w.heap.size w w5 := hBb.trans (hb5.mono (by omega))
      have HG5 := Lib.hid (HG.out.below hb5)
      clear HG hb5 g0 g1 gf y0 y1 yf
      cases r1
      · obtain rfl : O = none := by rw [HO3.out, if_neg (fun h => by cases h.1)]
        clear HO3 HG5 H1 HR
        go_wp2
        refine bodyPost_ret (v := .tuple #[.agg #[.slice none 0 0, .slice none 0 0], .bool false]) ?_ rfl ⟨_, _, rfl, (TwoX.start w.heap.size _).ow, ?_⟩
        · simp [results, Tryz.results6, go_sem, u0, u1, uf, n1, n2, n3, n4, lr5]
        · exact bwT
      go_wp2_with fail
      refine (formatTrmI_any _ _ _ (rs, es) HG5.out.ow.rd R HR.out).mono ?_
      rintro e3 w6 ⟨rfl, hb6⟩
      have s6 := hb6.size
      have t0 := oldc hb6 l5 t0
      have t1 := oldc hb6 l5 t1
      have u0 := oldc hb6 lr5 u0
      have u1 := oldc hb6 lr5 u1
      have uf : ∀ o, w6.frozen? ⟨w.heap.size, o, none⟩ = false := fun o => (hb6.frozen (p := ⟨w.heap.size, o, none⟩) lr5).trans (uf o)
      have hB6 : Below w.heap.size w w6 := hB5.trans (hb6.mono (by omega))
      have HG6 := Lib.hid (HG5.out.below hb6)
      have lr5 : w.heap.size < w6.heap.size := by omega
      clear HG5 hb6 tf
      by_cases e : R = s
      · have e1 : (R.toList == s.toList) = true := by rw [text_eq]; exact decide_eq_true e
        have e2 : (R.toList != s.toList) = false := by rw [bne, e1]; rfl
        obtain rfl : O = some (rs, es) := by rw [HO3.out, if_pos ⟨trivial, e⟩]
        clear HO3 H1 HR e
        go_wp2
        refine bodyPost_ret (v := .tuple #[.agg #[.slice a1 rs.length c1, .slice a2 es.length c2], .bool true]) ?_ rfl ⟨_, _, rfl, (HG6.out.zone zmT).ow.mono (by omega) (Nat.le_refl _), ?_⟩
        · simp [results, Tryz.results6, go_sem, u0, u1, uf, t0, t1, nY1, nY2]
        · exact bwT
      · have e1 : (R.toList == s.toList) = false := by rw [text_eq]; exact decide_eq_false e
        have e2 : (R.toList != s.toList) = true := by rw [bne, e1]; rfl
        obtain rfl : O = none := by rw [HO3.out, if_neg (fun h => e h.2)]
        clear HO3 H1 HR e HG6
        go_wp2
        refine bodyPost_ret (v := .tuple #[.agg #[.slice none 0 0, .slice none 0 0], .bool false]) ?_ rfl ⟨_, _, rfl, (TwoX.start w.heap.size _).ow, ?_⟩
        · simp [results, Tryz.results6, go_sem, u0, u1, uf, n1, n2, n3, n4, lr5]
        · exact bwT
end Go.Proofs.YtdpkldapobbnpaaGreatDoor
