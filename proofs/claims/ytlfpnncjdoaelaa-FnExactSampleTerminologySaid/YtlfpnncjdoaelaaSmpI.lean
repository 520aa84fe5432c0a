/- Contract: the program's sample rules. Written by smpi_gen.py. -/
import Derived.Test.YtlfpnncjdoaelaaPrsI2
import Derived.Test.YtlfpnncjdoaelaaSmpS
namespace Go.Proofs.Ytlfpnncjdoaelaa
set_option linter.unusedVariables false
set_option linter.unusedSimpArgs false
open Go.RowKit

/-- A list of the call's own comes back: nil where it is empty. -/
def PostSm (w : World) (X : List Rul) (e : Ending) (w' : World) : Prop := ∃ v, e = .returned v ∧ Ow w.heap.size w'.heap.size w' [v] X ∧ Below w.heap.size w w' ∧ ((X = [] ∧ v = .slice none 0 0) ∨ (∃ g cap, v = .slice (some ⟨g, 0, none⟩) X.length cap ∧ X ≠ []))
set_option maxRecDepth 20000 in
set_option maxHeartbeats 8000000 in
theorem sampleI_any (w : World) (m : Int) (hm : w.cell? ⟨0, 0, none⟩ = some (.int .i64 m)) (hgl : 0 < w.heap.size) (s : ByteArray) (X : List Rul) (hX : X = smpX s.data.toList) :
    Calls Try.prog 8 #[.string s] w (PostSm w X) := by
  obtain ⟨b1, hlet_b1⟩ : ∃ r, r = decide (s.data.toList = [103, 101, 110, 101, 114, 97, 116, 105, 111, 110]) := ⟨_, rfl⟩
  have H1 := Lib.hid hlet_b1
  clear hlet_b1
  obtain ⟨b2, hlet_b2⟩ : ∃ r, r = decide (s.data.toList = [109, 101, 114, 103, 105, 110, 103]) := ⟨_, rfl⟩
  have H2 := Lib.hid hlet_b2
  clear hlet_b2
  obtain ⟨b3, hlet_b3⟩ : ∃ r, r = decide (s.data.toList = [115, 107, 101, 119, 105, 110, 103]) := ⟨_, rfl⟩
  have H3 := Lib.hid hlet_b3
  clear hlet_b3
  have q1 := lit_eq s [103, 101, 110, 101, 114, 97, 116, 105, 111, 110]
  have q2 := lit_eq s [109, 101, 114, 103, 105, 110, 103]
  have q3 := lit_eq s [115, 107, 101, 119, 105, 110, 103]
  rw [← H1.out] at q1
  rw [← H2.out] at q2
  rw [← H3.out] at q3
  have HX := Lib.hid (show X = (if b1 = true then gen8L ++ halfL else if b2 = true then mer6L ++ halfL else if b3 = true then (mer6L ++ halfL) ++ two2L else []).map ruleIG by
    rw [hX, ← smp_same, smpT, H1.out, H2.out, H3.out]; simp only [decide_eq_true_eq])
  clear hX
  go_enter Try.func8, Try.ntmps8
  cases b1
  rotate_left
  · obtain ⟨xs, hxs⟩ : ∃ xs, xs = (gen8L ++ halfL).map txt := ⟨_, rfl⟩
    have hl := sz_lits (ls := gen8L ++ halfL) (by decide)
    have h64 := lt64_lits (ls := gen8L ++ halfL) (by decide)
    have XL := Lib.hid (show xs.length = 12 by rw [hxs]; rfl)
    have HX2 := Lib.hid (show X = xs.map fun x => ruleIG x.data.toList by rw [HX.out, hxs, map_map_txt]; rfl)
    have HXL := Lib.hid (show X.length = 12 by rw [HX2.out, List.length_map, XL.out])
    have HS := Lib.hid (show ∀ x ∈ xs, x.size ≤ 64 by rw [hxs]; exact h64.2)
    obtain ⟨W0, hW0⟩ : ∃ W : World, W = w.alloc (.cells (xs.map Value.string).toArray 9) := ⟨_, rfl⟩
    have HZ := Lib.hid (show Rd false 0 (w.heap.size + 1) W0 [.slice (some ⟨w.heap.size, 0, none⟩) 12 12] xs by rw [hW0, hxs]; exact (Ow.strs_lit0 w 9 _ hl.1 hl.2).rd.weak.mono (Nat.zero_le _) (Nat.le_refl _))
    have SZ0 := Lib.hid (show W0.heap.size = w.heap.size + 1 by rw [hW0]; simp)
    have hB0 : Below w.heap.size w W0 := by rw [hW0]; exact bwT
    clear hl h64 HX
    go_wp2
    go_loopw [4, 6, 7, 8, 24] (fun s4 _ _ _ s24 wr => ∃ i : Nat, i ≤ 12 ∧ s24 = .int .i64 i ∧ Hid (GL true (w.heap.size + 1) (w.heap.size + 1) wr.heap.size wr 37 s4 ((xs.take i).map fun x => ruleIG x.data.toList)) ∧ Below (w.heap.size + 1) W0 wr) (fun _ _ _ _ s24 _ => 12 - (intOf s24).toNat)
    case atStart => exact ⟨0, Nat.zero_le _, rfl, Lib.hid (GL.start _ _ _ _ _ _), by subst hW0 hxs; exact Below.refl _ _⟩
    case round =>
      obtain ⟨wb, hwb⟩ : ∃ wm : World, wm = wr := ⟨_, rfl⟩
      subst hwb
      obtain ⟨i, hi, rfl, hG, hbb⟩ := hrel
      have sB := hbb.size
      have sK : w.heap.size + 1 ≤ wb.heap.size := by have := SZ0.out; omega
      have hBw : Below w.heap.size w wb := Below.trans hB0 (hbb.mono (by omega))
      by_cases hlt : i < 12
      · have hI : (i : Int) < 12 := by omega
        obtain ⟨bb, off, x, e0, hxi, hc, -⟩ := (HZ.out.keep (Below.zone hbb 0)).str_at (i := i) hlt
        simp only [Option.some.injEq, Addr.mk.injEq] at e0
        obtain ⟨rfl, rfl, -⟩ := e0
        simp only [Nat.zero_add] at hc
        have hxs := HS.out x (List.mem_of_getElem? hxi.out)
        obtain ⟨O, hO⟩ : ∃ O, O = ruleI x.data.toList := ⟨_, rfl⟩
        have HO := Lib.hid hO
        have HM := Lib.hid (show ((xs.take (i + 1)).map fun x => ruleIG x.data.toList) = ((xs.take i).map fun x => ruleIG x.data.toList) ++ [O.getD rul0] by rw [map_at hxi.out, hO]; rfl)
        have hlm : ((xs.take i).map fun x => ruleIG x.data.toList).length ≤ 64 := by rw [List.length_map, List.length_take]; omega
        obtain ⟨P, hP⟩ : ∃ P, P = (xs.take i).map fun x => ruleIG x.data.toList := ⟨_, rfl⟩
        rw [← hP] at HM hlm hG
        obtain ⟨pao, pcap, rfl, -, -⟩ := hG.out.len
        clear hxi hO hP
        go_wp2_with fail
        refine (parseRuleI_any _ m (oldc hBw hgl hm) (Nat.lt_of_lt_of_le hgl hBw.size) x (by omega) O HO.out).mono ?_
        rintro e1 w1 ⟨v0, v1, v2, v3, v4, rfl, hor, hb1⟩
        have s1 := hb1.size
        obtain ⟨r, hr⟩ : ∃ r, r = O.getD rul0 := ⟨_, rfl⟩
        rw [← hr] at hor HM
        clear hr
        obtain ⟨nm, sx, pl, fr, tw⟩ := r
        obtain ⟨vfr, vtw, e1, -, -, -, hfr, htw⟩ := Rd.dRul hor.rd
        simp only [List.cons.injEq, and_true] at e1
        obtain ⟨rfl, rfl, rfl, rfl, rfl⟩ := e1
        obtain ⟨fao, fn, fcap, rfl, -⟩ := hfr.shape
        obtain ⟨tao, tn, tcap, rfl, -⟩ := htw.shape
        have HOR := Lib.hid hor
        have HG1 := Lib.hid (hG.out.below hb1)
        have hB1 : Below (w.heap.size + 1) W0 w1 := hbb.trans (hb1.mono sK)
        have hBw1 : Below w.heap.size w w1 := hBw.trans (hb1.mono (by omega))
        clear hfr htw hor hG hb1
        go_wp2_with (at_builtin; refine wpList_push rfl rfl slRule (by show (0 : Nat) < 5; omega) (HG1.out.below ?b1x1) rfl (ad := ⟨w1.heap.size + 1, 0, none⟩) rfl (cs := [.string nm, .int .i64 sx, .int .i64 pl, .slice fao fn fcap, .slice tao tn tcap]) (y := ((nm, sx, pl, fr, tw) : Rul)) (lx := wb.heap.size) (hx' := w1.heap.size) ?c1x1 (HOR.out.below ?b2x1).it sK (.inl (Nat.le_refl _)) (by unfold maxLen; omega) (by omega) ?c2x1 ?_)
        case b1x1 => exact bwT
        case b2x1 => exact bwT
        case c1x1 =>
          intro j c hj
          match j, hj with
          | 0, hj => simp at hj; subst hj; simp [Addr.add, go_sem]
          | 1, hj => simp at hj; subst hj; simp [Addr.add, go_sem]
          | 2, hj => simp at hj; subst hj; simp [Addr.add, go_sem]
          | 3, hj => simp at hj; subst hj; simp [Addr.add, go_sem]
          | 4, hj => simp at hj; subst hj; simp [Addr.add, go_sem]
        case c2x1 => simp; omega
        intro v' w2 hG2 _ hb2
        have HG := Lib.hid (show GL true (w.heap.size + 1) (w.heap.size + 1) w2.heap.size w2 37 v' ((xs.take (i + 1)).map fun x => ruleIG x.data.toList) by rw [HM.out]; exact hG2)
        have hB2 : Below (w.heap.size + 1) W0 w2 := Below.trans (show Below (w.heap.size + 1) W0 _ from bwT) hb2
        clear HG1 HOR hG2 hb2
        go_wp2
        go_roundw
        case rel => exact ⟨i + 1, by omega, by go_num, HG, hB2⟩
        case measure => simp [intOf]; omega
      · obtain rfl : i = 12 := by omega
        have HGX := Lib.hid (show GL true (w.heap.size + 1) (w.heap.size + 1) wb.heap.size wb 37 _ X by rw [HX2.out]; have := hG.out; rwa [List.take_of_length_le (by have := XL.out; omega)] at this)
        have hXl := HXL.out
        obtain ⟨g, cap, rfl, -, -⟩ := HGX.out.form (by omega)
        have HOX := Lib.hid (HGX.out.ow (l0 := w.heap.size) (by omega) (by omega))
        clear hG HGX
        go_wp2
        go_ret
        exact ⟨_, rfl, HOX.out, hBw, .inr ⟨g, cap, rfl, by intro e; rw [e] at hXl; simp at hXl⟩⟩
  cases b2
  rotate_left
  · obtain rfl : b3 = false := by rw [H3.out, of_decide_eq_true H2.out.symm]; decide
    obtain ⟨xs, hxs⟩ : ∃ xs, xs = (mer6L ++ halfL).map txt := ⟨_, rfl⟩
    have hl := sz_lits (ls := mer6L ++ halfL) (by decide)
    have h64 := lt64_lits (ls := mer6L ++ halfL) (by decide)
    have XL := Lib.hid (show xs.length = 10 by rw [hxs]; rfl)
    have HX2 := Lib.hid (show X = xs.map fun x => ruleIG x.data.toList by rw [HX.out, hxs, map_map_txt]; rfl)
    have HXL := Lib.hid (show X.length = 10 by rw [HX2.out, List.length_map, XL.out])
    have HS := Lib.hid (show ∀ x ∈ xs, x.size ≤ 64 by rw [hxs]; exact h64.2)
    obtain ⟨W0, hW0⟩ : ∃ W : World, W = (w.alloc (.cells (((gen8L ++ halfL).map txt).map Value.string).toArray 9)).alloc (.cells (xs.map Value.string).toArray 9) := ⟨_, rfl⟩
    have HZ := Lib.hid (show Rd false 0 (w.heap.size + 1 + 1) W0 [.slice (some ⟨w.heap.size + 1, 0, none⟩) 10 10] xs by
      rw [hW0, hxs]
      have h := (Ow.strs_lit0 (w.alloc (.cells (((gen8L ++ halfL).map txt).map Value.string).toArray 9)) 9 _ hl.1 hl.2).rd.weak.mono (Nat.zero_le _) (Nat.le_refl _)
      rw [World.size_alloc] at h
      exact h)
    have SZ0 := Lib.hid (show W0.heap.size = w.heap.size + 1 + 1 by rw [hW0]; simp)
    have hB0 : Below w.heap.size w W0 := by rw [hW0]; exact bwT
    clear hl h64 HX
    go_wp2
    go_loopw [4, 6, 7, 8, 24] (fun s4 _ _ _ s24 wr => ∃ i : Nat, i ≤ 10 ∧ s24 = .int .i64 i ∧ Hid (GL true (w.heap.size + 1 + 1) (w.heap.size + 1 + 1) wr.heap.size wr 37 s4 ((xs.take i).map fun x => ruleIG x.data.toList)) ∧ Below (w.heap.size + 1 + 1) W0 wr) (fun _ _ _ _ s24 _ => 10 - (intOf s24).toNat)
    case atStart => exact ⟨0, Nat.zero_le _, rfl, Lib.hid (GL.start _ _ _ _ _ _), by subst hW0 hxs; exact Below.refl _ _⟩
    case round =>
      obtain ⟨wb, hwb⟩ : ∃ wm : World, wm = wr := ⟨_, rfl⟩
      subst hwb
      obtain ⟨i, hi, rfl, hG, hbb⟩ := hrel
      have sB := hbb.size
      have sK : w.heap.size + 1 + 1 ≤ wb.heap.size := by have := SZ0.out; omega
      have hBw : Below w.heap.size w wb := Below.trans hB0 (hbb.mono (by omega))
      by_cases hlt : i < 10
      · have hI : (i : Int) < 10 := by omega
        obtain ⟨bb, off, x, e0, hxi, hc, -⟩ := (HZ.out.keep (Below.zone hbb 0)).str_at (i := i) hlt
        simp only [Option.some.injEq, Addr.mk.injEq] at e0
        obtain ⟨rfl, rfl, -⟩ := e0
        simp only [Nat.zero_add] at hc
        have hxs := HS.out x (List.mem_of_getElem? hxi.out)
        obtain ⟨O, hO⟩ : ∃ O, O = ruleI x.data.toList := ⟨_, rfl⟩
        have HO := Lib.hid hO
        have HM := Lib.hid (show ((xs.take (i + 1)).map fun x => ruleIG x.data.toList) = ((xs.take i).map fun x => ruleIG x.data.toList) ++ [O.getD rul0] by rw [map_at hxi.out, hO]; rfl)
        have hlm : ((xs.take i).map fun x => ruleIG x.data.toList).length ≤ 64 := by rw [List.length_map, List.length_take]; omega
        obtain ⟨P, hP⟩ : ∃ P, P = (xs.take i).map fun x => ruleIG x.data.toList := ⟨_, rfl⟩
        rw [← hP] at HM hlm hG
        obtain ⟨pao, pcap, rfl, -, -⟩ := hG.out.len
        clear hxi hO hP
        go_wp2_with fail
        refine (parseRuleI_any _ m (oldc hBw hgl hm) (Nat.lt_of_lt_of_le hgl hBw.size) x (by omega) O HO.out).mono ?_
        rintro e1 w1 ⟨v0, v1, v2, v3, v4, rfl, hor, hb1⟩
        have s1 := hb1.size
        obtain ⟨r, hr⟩ : ∃ r, r = O.getD rul0 := ⟨_, rfl⟩
        rw [← hr] at hor HM
        clear hr
        obtain ⟨nm, sx, pl, fr, tw⟩ := r
        obtain ⟨vfr, vtw, e1, -, -, -, hfr, htw⟩ := Rd.dRul hor.rd
        simp only [List.cons.injEq, and_true] at e1
        obtain ⟨rfl, rfl, rfl, rfl, rfl⟩ := e1
        obtain ⟨fao, fn, fcap, rfl, -⟩ := hfr.shape
        obtain ⟨tao, tn, tcap, rfl, -⟩ := htw.shape
        have HOR := Lib.hid hor
        have HG1 := Lib.hid (hG.out.below hb1)
        have hB1 : Below (w.heap.size + 1 + 1) W0 w1 := hbb.trans (hb1.mono sK)
        have hBw1 : Below w.heap.size w w1 := hBw.trans (hb1.mono (by omega))
        clear hfr htw hor hG hb1
        go_wp2_with (at_builtin; refine wpList_push rfl rfl slRule (by show (0 : Nat) < 5; omega) (HG1.out.below ?b1x2) rfl (ad := ⟨w1.heap.size + 1, 0, none⟩) rfl (cs := [.string nm, .int .i64 sx, .int .i64 pl, .slice fao fn fcap, .slice tao tn tcap]) (y := ((nm, sx, pl, fr, tw) : Rul)) (lx := wb.heap.size) (hx' := w1.heap.size) ?c1x2 (HOR.out.below ?b2x2).it sK (.inl (Nat.le_refl _)) (by unfold maxLen; omega) (by omega) ?c2x2 ?_)
        case b1x2 => exact bwT
        case b2x2 => exact bwT
        case c1x2 =>
          intro j c hj
          match j, hj with
          | 0, hj => simp at hj; subst hj; simp [Addr.add, go_sem]
          | 1, hj => simp at hj; subst hj; simp [Addr.add, go_sem]
          | 2, hj => simp at hj; subst hj; simp [Addr.add, go_sem]
          | 3, hj => simp at hj; subst hj; simp [Addr.add, go_sem]
          | 4, hj => simp at hj; subst hj; simp [Addr.add, go_sem]
        case c2x2 => simp; omega
        intro v' w2 hG2 _ hb2
        have HG := Lib.hid (show GL true (w.heap.size + 1 + 1) (w.heap.size + 1 + 1) w2.heap.size w2 37 v' ((xs.take (i + 1)).map fun x => ruleIG x.data.toList) by rw [HM.out]; exact hG2)
        have hB2 : Below (w.heap.size + 1 + 1) W0 w2 := Below.trans (show Below (w.heap.size + 1 + 1) W0 _ from bwT) hb2
        clear HG1 HOR hG2 hb2
        go_wp2
        go_roundw
        case rel => exact ⟨i + 1, by omega, by go_num, HG, hB2⟩
        case measure => simp [intOf]; omega
      · obtain rfl : i = 10 := by omega
        have HGX := Lib.hid (show GL true (w.heap.size + 1 + 1) (w.heap.size + 1 + 1) wb.heap.size wb 37 _ X by rw [HX2.out]; have := hG.out; rwa [List.take_of_length_le (by have := XL.out; omega)] at this)
        have hXl := HXL.out
        obtain ⟨g, cap, rfl, -, -⟩ := HGX.out.form (by omega)
        have HOX := Lib.hid (HGX.out.ow (l0 := w.heap.size) (by omega) (by omega))
        clear hG HGX
        go_wp2
        go_ret
        exact ⟨_, rfl, HOX.out, hBw, .inr ⟨g, cap, rfl, by intro e; rw [e] at hXl; simp at hXl⟩⟩
  cases b3
  rotate_left
  · have ht := sz_lits (ls := two2L) (by decide)
    have hm10 := sz_lits (ls := mer6L ++ halfL) (by decide)
    have HGM := Lib.hid (show GL true (w.heap.size + 1) (w.heap.size + 1) (w.heap.size + 1 + 1) ((w.alloc (.cells (((gen8L ++ halfL).map txt).map Value.string).toArray 9)).alloc (.cells (((mer6L ++ halfL).map txt).map Value.string).toArray 9)) 9 (.slice (some ⟨w.heap.size + 1, 0, none⟩) 10 10) ((mer6L ++ halfL).map txt) by
      have h := GL.strs true (w.heap.size + 1) (w.heap.size + 1) (w.alloc (.cells (((gen8L ++ halfL).map txt).map Value.string).toArray 9)) 9 ((mer6L ++ halfL).map txt) hm10.1 hm10.2 (by simp)
      rw [World.size_alloc] at h
      exact h)
    have HGT := Lib.hid (show GL true (w.heap.size + 1) (w.heap.size + 1) (w.heap.size + 1 + 1) (((w.alloc (.cells (((gen8L ++ halfL).map txt).map Value.string).toArray 9)).alloc (.cells (((mer6L ++ halfL).map txt).map Value.string).toArray 9)).alloc (.cells ((two2L.map txt).map Value.string).toArray 9)) 9 (.slice (some ⟨w.heap.size + 1, 0, none⟩) 10 10) ((mer6L ++ halfL).map txt) from HGM.out.alloc _)
    have HLT := Lib.hid (show Rd true (w.heap.size + 1 + 1) (w.heap.size + 1 + 1 + 1) (((w.alloc (.cells (((gen8L ++ halfL).map txt).map Value.string).toArray 9)).alloc (.cells (((mer6L ++ halfL).map txt).map Value.string).toArray 9)).alloc (.cells ((two2L.map txt).map Value.string).toArray 9)) [.slice (some ⟨w.heap.size + 1 + 1, 0, none⟩) 2 2] (two2L.map txt) by
      have h := (Ow.strs_lit0 ((w.alloc (.cells (((gen8L ++ halfL).map txt).map Value.string).toArray 9)).alloc (.cells (((mer6L ++ halfL).map txt).map Value.string).toArray 9)) 9 (two2L.map txt) ht.1 ht.2).rd
      rw [World.size_alloc, World.size_alloc] at h
      exact h)
    clear ht hm10 HGM
    go_wp2_with (at_builtin; refine wpList_spread_flat (ys := two2L.map txt) rfl rfl slStrP (by show (0 : Nat) < 1; omega) HGT.out rfl (vs := .slice (some ⟨w.heap.size + 1 + 1, 0, none⟩) 2 2) rfl HLT.out (by unfold maxLen; decide) (by decide) ltT ?_)
    intro tv W0 hG0 _ hb0
    obtain ⟨xs, hxs⟩ : ∃ xs, xs = mer6L.map txt ++ (halfL.map txt ++ two2L.map txt) := ⟨_, rfl⟩
    have h64 := lt64_lits (ls := mer6L ++ (halfL ++ two2L)) (by decide)
    rw [List.map_append, List.map_append] at h64
    have XL := Lib.hid (show xs.length = 12 by rw [hxs]; rfl)
    have HX2 := Lib.hid (show X = xs.map fun x => ruleIG x.data.toList by rw [HX.out, hxs, ← List.map_append, ← List.map_append, map_map_txt, ← List.append_assoc]; rfl)
    have HXL := Lib.hid (show X.length = 12 by rw [HX2.out, List.length_map, XL.out])
    have HS := Lib.hid (show ∀ x ∈ xs, x.size ≤ 64 by rw [hxs]; exact h64.2)
    have hG0 : GL true (w.heap.size + 1) (w.heap.size + 1) W0.heap.size W0 9 tv xs := by rw [hxs]; first | exact hG0 | (simpa using hG0)
    obtain ⟨tao, tcap, htv, -, -⟩ := hG0.len
    rw [XL.out] at htv
    subst htv
    have HZ := Lib.hid (hG0.rd (l0 := 0) (Nat.zero_le _) (Nat.zero_le _)).weak
    have hB0 : Below w.heap.size w W0 := Below.trans (show Below w.heap.size w _ from bwT) (hb0.mono (by omega))
    have s0 := hB0.size
    have SZ0 := Lib.hid (Nat.le_refl W0.heap.size)
    clear hG0 hb0 HGT HLT h64 hxs HX
    go_wp2
    go_loopw [4, 6, 7, 8, 24] (fun s4 _ _ _ s24 wr => ∃ i : Nat, i ≤ 12 ∧ s24 = .int .i64 i ∧ Hid (GL true (W0.heap.size) (W0.heap.size) wr.heap.size wr 37 s4 ((xs.take i).map fun x => ruleIG x.data.toList)) ∧ Below (W0.heap.size) W0 wr) (fun _ _ _ _ s24 _ => 12 - (intOf s24).toNat)
    case atStart => exact ⟨0, Nat.zero_le _, rfl, Lib.hid (GL.start _ _ _ _ _ _), Below.refl _ _⟩
    case round =>
      obtain ⟨wb, hwb⟩ : ∃ wm : World, wm = wr := ⟨_, rfl⟩
      subst hwb
      obtain ⟨i, hi, rfl, hG, hbb⟩ := hrel
      have sB := hbb.size
      have sK : W0.heap.size ≤ wb.heap.size := by have := SZ0.out; omega
      have hBw : Below w.heap.size w wb := Below.trans hB0 (hbb.mono (by omega))
      by_cases hlt : i < 12
      · have hI : (i : Int) < 12 := by omega
        obtain ⟨bb, off, x, e0, hxi, hc, -⟩ := (HZ.out.keep (Below.zone hbb 0)).str_at (i := i) hlt
        subst e0
        have hxs := HS.out x (List.mem_of_getElem? hxi.out)
        obtain ⟨O, hO⟩ : ∃ O, O = ruleI x.data.toList := ⟨_, rfl⟩
        have HO := Lib.hid hO
        have HM := Lib.hid (show ((xs.take (i + 1)).map fun x => ruleIG x.data.toList) = ((xs.take i).map fun x => ruleIG x.data.toList) ++ [O.getD rul0] by rw [map_at hxi.out, hO]; rfl)
        have hlm : ((xs.take i).map fun x => ruleIG x.data.toList).length ≤ 64 := by rw [List.length_map, List.length_take]; omega
        obtain ⟨P, hP⟩ : ∃ P, P = (xs.take i).map fun x => ruleIG x.data.toList := ⟨_, rfl⟩
        rw [← hP] at HM hlm hG
        obtain ⟨pao, pcap, rfl, -, -⟩ := hG.out.len
        clear hxi hO hP
        go_wp2_with fail
        refine (parseRuleI_any _ m (oldc hBw hgl hm) (Nat.lt_of_lt_of_le hgl hBw.size) x (by omega) O HO.out).mono ?_
        rintro e1 w1 ⟨v0, v1, v2, v3, v4, rfl, hor, hb1⟩
        have s1 := hb1.size
        obtain ⟨r, hr⟩ : ∃ r, r = O.getD rul0 := ⟨_, rfl⟩
        rw [← hr] at hor HM
        clear hr
        obtain ⟨nm, sx, pl, fr, tw⟩ := r
        obtain ⟨vfr, vtw, e1, -, -, -, hfr, htw⟩ := Rd.dRul hor.rd
        simp only [List.cons.injEq, and_true] at e1
        obtain ⟨rfl, rfl, rfl, rfl, rfl⟩ := e1
        obtain ⟨fao, fn, fcap, rfl, -⟩ := hfr.shape
        obtain ⟨tao, tn, tcap, rfl, -⟩ := htw.shape
        have HOR := Lib.hid hor
        have HG1 := Lib.hid (hG.out.below hb1)
        have hB1 : Below (W0.heap.size) W0 w1 := hbb.trans (hb1.mono sK)
        have hBw1 : Below w.heap.size w w1 := hBw.trans (hb1.mono (by omega))
        clear hfr htw hor hG hb1
        go_wp2_with (at_builtin; refine wpList_push rfl rfl slRule (by show (0 : Nat) < 5; omega) (HG1.out.below ?b1x3) rfl (ad := ⟨w1.heap.size + 1, 0, none⟩) rfl (cs := [.string nm, .int .i64 sx, .int .i64 pl, .slice fao fn fcap, .slice tao tn tcap]) (y := ((nm, sx, pl, fr, tw) : Rul)) (lx := wb.heap.size) (hx' := w1.heap.size) ?c1x3 (HOR.out.below ?b2x3).it sK (.inl (Nat.le_refl _)) (by unfold maxLen; omega) (by omega) ?c2x3 ?_)
        case b1x3 => exact bwT
        case b2x3 => exact bwT
        case c1x3 =>
          intro j c hj
          match j, hj with
          | 0, hj => simp at hj; subst hj; simp [Addr.add, go_sem]
          | 1, hj => simp at hj; subst hj; simp [Addr.add, go_sem]
          | 2, hj => simp at hj; subst hj; simp [Addr.add, go_sem]
          | 3, hj => simp at hj; subst hj; simp [Addr.add, go_sem]
          | 4, hj => simp at hj; subst hj; simp [Addr.add, go_sem]
        case c2x3 => simp; omega
        intro v' w2 hG2 _ hb2
        have HG := Lib.hid (show GL true (W0.heap.size) (W0.heap.size) w2.heap.size w2 37 v' ((xs.take (i + 1)).map fun x => ruleIG x.data.toList) by rw [HM.out]; exact hG2)
        have hB2 : Below (W0.heap.size) W0 w2 := Below.trans (show Below (W0.heap.size) W0 _ from bwT) hb2
        clear HG1 HOR hG2 hb2
        go_wp2
        go_roundw
        case rel => exact ⟨i + 1, by omega, by go_num, HG, hB2⟩
        case measure => simp [intOf]; omega
      · obtain rfl : i = 12 := by omega
        have HGX := Lib.hid (show GL true (W0.heap.size) (W0.heap.size) wb.heap.size wb 37 _ X by rw [HX2.out]; have := hG.out; rwa [List.take_of_length_le (by have := XL.out; omega)] at this)
        have hXl := HXL.out
        obtain ⟨g, cap, rfl, -, -⟩ := HGX.out.form (by omega)
        have HOX := Lib.hid (HGX.out.ow (l0 := w.heap.size) (by omega) (by omega))
        clear hG HGX
        go_wp2
        go_ret
        exact ⟨_, rfl, HOX.out, hBw, .inr ⟨g, cap, rfl, by intro e; rw [e] at hXl; simp at hXl⟩⟩
  · obtain rfl : X = [] := by rw [HX.out]; rfl
    clear HX
    go_wp2
    go_ret
    exact ⟨_, rfl, Ow.nil _ _ _, bwT, .inl ⟨rfl, rfl⟩⟩
theorem sampleI_x (w : World) (m : Int) (hm : w.cell? ⟨0, 0, none⟩ = some (.int .i64 m)) (hgl : 0 < w.heap.size) (s : ByteArray) (X : List Rul) (hX : X = smpX s.data.toList) :
    Calls Try.prog 8 #[.string s] w (PostOw w X) := by
  refine (sampleI_any w m hm hgl s X hX).mono ?_
  rintro e w' ⟨v, rfl, ho, hb, -⟩
  exact ⟨v, rfl, ho, hb⟩
theorem lenBy_cap {α : Type} (f : α → Nat) (k : Nat) : ∀ l : List α, (∀ x ∈ l, f x ≤ k) → lenBy f l ≤ k * l.length
  | [], _ => Nat.zero_le _
  | x :: l, h => by
    have h1 := lenBy_cap f k l fun y hy => h y (by simp [hy])
    have h2 := h x (by simp)
    rw [lenBy, List.length_cons, Nat.mul_succ]
    omega
theorem smpX_cnt (l : Bs) : lenBy cntRul (smpX l) ≤ 20000 := by
  have h1 := lenBy_cap cntRul 19 (smpX l) fun r hr => by
    obtain ⟨nm, sx, pl, fr, tw⟩ := r
    have h := smp_small l _ hr
    dsimp only at h
    unfold cntRul; dsimp only; omega
  have h2 := smpX_len l
  have : 19 * (smpX l).length ≤ 19 * 12 := Nat.mul_le_mul_left _ h2
  omega
end Go.Proofs.Ytlfpnncjdoaelaa
