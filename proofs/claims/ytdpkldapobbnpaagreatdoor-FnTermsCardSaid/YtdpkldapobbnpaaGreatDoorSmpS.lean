/- Contracts: the reference's sample rules. Written by smp_gen.py. -/
import Derived.Test.YtdpkldapobbnpaaGreatDoorSmp
import Derived.Test.YtdpkldapobbnpaaGreatDoorLits
namespace Go.Proofs.YtdpkldapobbnpaaGreatDoor
set_option linter.unusedVariables false
set_option linter.unusedSimpArgs false
open Go.RowKit
theorem GL.strs (nd : Bool) (lo lo' : Nat) (w : World) (E : TypeId) (xs : List ByteArray) (h : ∀ x ∈ xs, x.size ≤ maxLen) (hl : xs.length ≤ maxLen) (hlo : lo ≤ w.heap.size) :
  GL nd lo lo' (w.heap.size + 1) (w.alloc (.cells (xs.map Value.string).toArray E)) E (.slice (some ⟨w.heap.size, 0, none⟩) xs.length xs.length) xs := by
 refine ⟨xs.map fun x => [Value.string x], xs.map fun _ => [], ⟨by rw [flat_lits]; show _ = xs.length * 1; simp, .inr ⟨w.heap.size, xs.length, _, rfl, hlo, heap_alloc_new w _, Nat.le_refl _, hl, by show _ = xs.length * 1; simp, ?_⟩⟩, zip_lits xs h, by rw [nil_lits]; simp, by simp [Value.ownBlock], fun _ => by rw [nil_lits]; exact List.nodup_nil⟩
 rw [flat_lits]
 show List.take (xs.length * 1) _ = _
 rw [Nat.mul_one]
 exact List.take_of_length_le (by simp)
theorem lit_eq (s : ByteArray) (l : Bs) : (s.toList == l) = decide (s.data.toList = l) := by
 rw [ByteArray.toList_eq, Bool.eq_iff_iff]; simp
theorem map_at {α β : Type} {f : α → β} {xs : List α} {i : Nat} {x : α} (h : xs[i]? = some x) : (xs.take (i + 1)).map f = (xs.take i).map f ++ [f x] := by
 rw [take_snoc h, List.map_append]; rfl
def lt64 (xs : List ByteArray) : Prop := xs.length ≤ 64 ∧ ∀ x ∈ xs, x.size ≤ 64
theorem lt64_lits {ls : List Bs} (h : (decide (ls.length ≤ 64) && ls.all fun l => decide (l.length ≤ 64)) = true) : lt64 (ls.map txt) := by
 simp only [Bool.and_eq_true, decide_eq_true_eq, List.all_eq_true] at h
 refine ⟨by rw [List.length_map]; exact h.1, fun x hx => ?_⟩
 obtain ⟨l, hl, rfl⟩ := List.mem_map.1 hx
 rw [size_txt]; exact h.2 l hl
set_option maxRecDepth 20000 in
set_option maxHeartbeats 8000000 in
theorem textsS_any {z : Bool} {lo hi : Nat} (w : World) (v : Value) (xs : List ByteArray) (h : Rd z lo hi w [v] xs) (hx : lt64 xs) (X : List Rul) (hX : X = xs.map fun x => ruleSG x.data.toList) :
  Calls Tryz.prog 128 #[v] w (PostOw w X) := by
 obtain ⟨ao, n, cap, rfl, rfl, hnc, hcm, -⟩ := h.shape
 unfold maxLen at hcm
 have hx64 := hx.1
 have HS := Lib.hid hx.2
 have HZ := Lib.hid h
 have HX := Lib.hid (show X = (xs.take xs.length).map fun x => ruleSG x.data.toList by rw [List.take_length, hX])
 clear h hx hX
 go_enter Tryz.func128, Tryz.ntmps128
 go_wp2
 go_loopw [3, 5, 6, 7, 11] (fun s3 _ _ _ s11 wr => ∃ i : Nat, i ≤ xs.length ∧ s11 = .int .i64 i ∧ Hid (GL true w.heap.size w.heap.size wr.heap.size wr 50 s3 ((xs.take i).map fun x => ruleSG x.data.toList)) ∧ Below w.heap.size w wr) (fun _ _ _ _ s11 _ => xs.length - (intOf s11).toNat)
 case atStart => exact ⟨0, Nat.zero_le _, rfl, Lib.hid (GL.lit0 _ _ _ _ _ (Nat.le_refl _)).top, (Below.refl _ _).alloc (Nat.le_refl _) _⟩
 case round =>
  obtain ⟨wb, hwb⟩ : ∃ wm : World, wm = wr := ⟨_, rfl⟩
  subst hwb
  obtain ⟨i, hi, rfl, hG, hbb⟩ := hrel
  have sB := hbb.size
  by_cases hlt : i < xs.length
  ·have hI : (i : Int) < (xs.length : Int) := by omega
   obtain ⟨b, off, x, rfl, hxi, hc, -⟩ := (HZ.out.below hbb).str_at hlt
   have hxs := HS.out x (List.mem_of_getElem? hxi.out)
   obtain ⟨O, hO⟩ : ∃ O, O = ruleS x.data.toList := ⟨_, rfl⟩
   have HO := Lib.hid hO
   have HM := Lib.hid (show ((xs.take (i + 1)).map fun x => ruleSG x.data.toList) = ((xs.take i).map fun x => ruleSG x.data.toList) ++ [O.getD rul0] by rw [map_at hxi.out, hO]; rfl)
   have hlm : ((xs.take i).map fun x => ruleSG x.data.toList).length ≤ 64 := by rw [List.length_map, List.length_take]; omega
   obtain ⟨P, hP⟩ : ∃ P, P = (xs.take i).map fun x => ruleSG x.data.toList := ⟨_, rfl⟩
   rw [← hP] at HM hlm hG
   obtain ⟨pao, pcap, rfl, -, -⟩ := hG.out.len
   clear hxi hO hP
   go_wp2_with fail
   refine (parseRuleS_any _ x (by omega) O HO.out).mono ?_
   rintro e1 w1 ⟨v0, v1, v2, v3, v4, rfl, hor, hb1⟩
   have s1 := hb1.size
   obtain ⟨r, hr⟩ : ∃ r, r = O.getD rul0 := ⟨_, rfl⟩
   rw [← hr] at hor HM
   clear hr
   obtain ⟨nm, sx, pl, fr, tw⟩ := r
   obtain ⟨vfr, vtw, e1, -, -, -, hfr, htw⟩ := Rd.dRul hor.rd
   simp only [List.cons.injEq, and_true] at e1
   obtain ⟨rfl, rfl, rfl, rfl, rfl⟩ := e1
   obtain ⟨fao, fn, fcap, rfl, -⟩ := hfr.shape
   obtain ⟨tao, tn, tcap, rfl, -⟩ := htw.shape
   have HOR := Lib.hid hor
   have HG1 := Lib.hid (hG.out.below hb1)
   have hB1 : Below w.heap.size w w1 := Below.after hbb hb1 sB
   clear hfr htw hor hG hb1
   go_wp2_with (at_builtin; refine wpList_push rfl rfl slRule (by show (0 : Nat) < 5; omega) (HG1.out.below ?b1) rfl (ad := ⟨w1.heap.size + 1, 0, none⟩) rfl (cs := [.string nm, .int .i64 sx, .int .i64 pl, .slice fao fn fcap, .slice tao tn tcap]) (y := ((nm, sx, pl, fr, tw) : Rul)) (lx := wb.heap.size) (hx' := w1.heap.size) ?c1 (HOR.out.below ?b2).it sB (.inl (Nat.le_refl _)) (by unfold maxLen; omega) (by omega) ?c2 ?_)
   case b1 => exact bwT
   case b2 => exact bwT
   case c1 =>
    intro j c hj
    match j, hj with
    | 0, hj => simp at hj; subst hj; simp [Addr.add, go_sem]
    | 1, hj => simp at hj; subst hj; simp [Addr.add, go_sem]
    | 2, hj => simp at hj; subst hj; simp [Addr.add, go_sem]
    | 3, hj => simp at hj; subst hj; simp [Addr.add, go_sem]
    | 4, hj => simp at hj; subst hj; simp [Addr.add, go_sem]
   case c2 => simp; omega
   intro v' w2 hG2 _ hb2
   have HG := Lib.hid (show GL true w.heap.size w.heap.size w2.heap.size w2 50 v' ((xs.take (i + 1)).map fun x => ruleSG x.data.toList) by rw [HM.out]; exact hG2)
   have hB2 : Below w.heap.size w w2 := Below.trans (show Below w.heap.size w _ from bwT) hb2
   clear HG1 HOR hG2 hb2
   go_wp2
   go_roundw
   case rel => exact ⟨i + 1, by omega, by go_num, HG, hB2⟩
   case measure => simp [intOf]; omega
  ·have HO := Lib.hid (hG.out.ow (l0 := w.heap.size) (Nat.le_refl _) (Nat.le_refl _))
   obtain rfl : i = xs.length := by omega
   clear hG
   go_wp2
   go_ret
   exact ⟨_, rfl, by rw [HX.out]; exact HO.out, hbb⟩
theorem map_map_txt (f : Bs → Rul) (L : List Bs) : ((L.map txt).map fun x => f x.data.toList) = L.map f := by
 rw [List.map_map]
 exact List.map_congr_left fun x _ => by show f (txt x).data.toList = f x; rw [list_txt]
theorem sz_lits {ls : List Bs} (h : (decide (ls.length ≤ 64) && ls.all fun l => decide (l.length ≤ 64)) = true) : (∀ x ∈ ls.map txt, x.size ≤ maxLen) ∧ (ls.map txt).length ≤ maxLen := by
 have h2 := lt64_lits h
 exact ⟨fun x hx => Nat.le_trans (h2.2 x hx) (by unfold maxLen; decide), Nat.le_trans h2.1 (by unfold maxLen; decide)⟩
set_option maxRecDepth 20000 in
set_option maxHeartbeats 8000000 in
theorem sampleS_any (w : World) (s : ByteArray) (X : List Rul) (hX : X = smpX s.data.toList) :
  Calls Tryz.prog 111 #[.string s] w (PostOw w X) := by
 obtain ⟨b1, hlet_b1⟩ : ∃ r, r = decide (s.data.toList = [103, 101, 110, 101, 114, 97, 116, 105, 111, 110]) := ⟨_, rfl⟩
 have H1 := Lib.hid hlet_b1
 clear hlet_b1
 obtain ⟨b2, hlet_b2⟩ : ∃ r, r = decide (s.data.toList = [109, 101, 114, 103, 105, 110, 103]) := ⟨_, rfl⟩
 have H2 := Lib.hid hlet_b2
 clear hlet_b2
 obtain ⟨b3, hlet_b3⟩ : ∃ r, r = decide (s.data.toList = [115, 107, 101, 119, 105, 110, 103]) := ⟨_, rfl⟩
 have H3 := Lib.hid hlet_b3
 clear hlet_b3
 have q1 := lit_eq s [103, 101, 110, 101, 114, 97, 116, 105, 111, 110]
 have q2 := lit_eq s [109, 101, 114, 103, 105, 110, 103]
 have q3 := lit_eq s [115, 107, 101, 119, 105, 110, 103]
 rw [← H1.out] at q1
 rw [← H2.out] at q2
 rw [← H3.out] at q3
 have HX := Lib.hid (show X = (if b1 = true then gen8L ++ halfL else if b2 = true then mer6L ++ halfL else if b3 = true then (mer6L ++ halfL) ++ two2L else []).map ruleSG by
  rw [hX, smpX, smpT, H1.out, H2.out, H3.out]; simp only [decide_eq_true_eq])
 have hh := sz_lits (ls := halfL) (by decide)
 have hm := sz_lits (ls := mer6L) (by decide)
 have HHH := Lib.hid (Ow.strs_lit0 w 9 (halfL.map txt) hh.1 hh.2).rd
 have HGM := Lib.hid (show GL true (w.heap.size + 1) (w.heap.size + 1) (w.heap.size + 1 + 1) ((w.alloc (.cells ((halfL.map txt).map Value.string).toArray 9)).alloc (.cells ((mer6L.map txt).map Value.string).toArray 9)) 9 (.slice (some ⟨w.heap.size + 1, 0, none⟩) 6 6) (mer6L.map txt) by
  have h := GL.strs true (w.heap.size + 1) (w.heap.size + 1) (w.alloc (.cells ((halfL.map txt).map Value.string).toArray 9)) 9 (mer6L.map txt) hm.1 hm.2 (by simp)
  rw [World.size_alloc] at h
  exact h)
 clear hX hh hm
 go_enter Tryz.func111, Tryz.ntmps111
 go_wp2_with (at_builtin; refine wpList_spread_flat (ys := halfL.map txt) rfl rfl slStrP (by show (0 : Nat) < 1; omega) HGM.out rfl (vs := .slice (some ⟨w.heap.size, 0, none⟩) 4 4) rfl (HHH.out.below ?b1) (by unfold maxLen; decide) (by decide) ltT ?_)
 case b1 => exact (Below.refl _ _).alloc (Nat.le_refl _) _
 intro v1 w1 hG1 _ hb1
 have s1 := hb1.size
 simp only [World.size_alloc] at s1
 have HH1 := Lib.hid ((HHH.out.below ((Below.refl _ _).alloc (Nat.le_refl _) _)).keep (Below.zone hb1 _))
 have hB1 : Below w.heap.size w w1 := Below.trans (show Below w.heap.size w _ from bwT) (hb1.mono (by omega))
 have HG1 := Lib.hid hG1
 obtain ⟨ao1, cap1, rfl, -, -⟩ := hG1.len
 clear hG1 hb1 HHH HGM
 cases b1
 rotate_left
 ·have hg := sz_lits (ls := gen8L) (by decide)
  have HG8 := Lib.hid (GL.strs true w1.heap.size w1.heap.size w1 9 (gen8L.map txt) hg.1 hg.2 (Nat.le_refl _))
  have HXT := Lib.hid (show X = (gen8L.map txt ++ halfL.map txt).map fun x => ruleSG x.data.toList by rw [HX.out, if_pos rfl, ← List.map_append, map_map_txt])
  clear hg HX HG1
  go_wp2_with (at_builtin; refine wpList_spread_flat (ys := halfL.map txt) rfl rfl slStrP (by show (0 : Nat) < 1; omega) HG8.out rfl (vs := .slice (some ⟨w.heap.size, 0, none⟩) 4 4) rfl (HH1.out.below ?b2) (by unfold maxLen; decide) (by decide) ltT ?_)
  case b2 => exact (Below.refl _ _).alloc (Nat.le_refl _) _
  intro v2 w2 hG2 _ hb2
  have HG2 := Lib.hid (hG2.rd (l0 := 0) (Nat.zero_le _) (Nat.zero_le _))
  have hB2 : Below w.heap.size w w2 := hB1.trans (Below.trans (show Below w.heap.size w1 _ from bwT) (hb2.mono (by omega)))
  have s2 := hB2.size
  clear hG2 hb2 HG8 HH1
  go_wp2_with fail
  refine (textsS_any _ _ (gen8L.map txt ++ halfL.map txt) HG2.out (by rw [← List.map_append]; exact lt64_lits (by decide)) X HXT.out).mono ?_
  rintro e3 w3 ⟨xv, rfl, hox, hb3⟩
  have HOX := Lib.hid hox
  clear hox HG2
  go_wp2
  go_ret
  exact ⟨_, rfl, HOX.out.mono s2 (Nat.le_refl _), hB2.trans (hb3.mono s2)⟩
 cases b2
 rotate_left
 ·have HXT := Lib.hid (show X = (mer6L.map txt ++ halfL.map txt).map fun x => ruleSG x.data.toList by rw [HX.out, if_neg (by decide), if_pos rfl, ← List.map_append, map_map_txt])
  have HG2 := Lib.hid (HG1.out.rd (l0 := 0) (Nat.zero_le _) (Nat.zero_le _))
  have s2 := hB1.size
  clear HX HG1 HH1
  go_wp2_with fail
  refine (textsS_any _ _ (mer6L.map txt ++ halfL.map txt) HG2.out (by rw [← List.map_append]; exact lt64_lits (by decide)) X HXT.out).mono ?_
  rintro e3 w3 ⟨xv, rfl, hox, hb3⟩
  have HOX := Lib.hid hox
  clear hox HG2
  go_wp2
  go_ret
  exact ⟨_, rfl, HOX.out.mono s2 (Nat.le_refl _), hB1.trans (hb3.mono s2)⟩
 cases b3
 rotate_left
 ·have ht := sz_lits (ls := two2L) (by decide)
  have HLT := Lib.hid (Ow.strs_lit0 w1 9 (two2L.map txt) ht.1 ht.2).rd
  have HXT := Lib.hid (show X = ((mer6L.map txt ++ halfL.map txt) ++ two2L.map txt).map fun x => ruleSG x.data.toList by rw [HX.out, if_neg (by decide), if_neg (by decide), if_pos rfl, ← List.map_append, ← List.map_append, map_map_txt])
  have HG1A := Lib.hid (HG1.out.alloc (.cells ((two2L.map txt).map Value.string).toArray 9)).top
  clear ht HX HG1 HH1
  go_wp2_with (at_builtin; refine wpList_spread_flat (ys := two2L.map txt) rfl rfl slStrP (by show (0 : Nat) < 1; omega) HG1A.out rfl (vs := .slice (some ⟨w1.heap.size, 0, none⟩) 2 2) rfl HLT.out (by unfold maxLen; decide) (by decide) ltT ?_)
  intro v2 w2 hG2 _ hb2
  have HG2 := Lib.hid (hG2.rd (l0 := 0) (Nat.zero_le _) (Nat.zero_le _))
  have hB2 : Below w.heap.size w w2 := hB1.trans (Below.trans (show Below w.heap.size w1 _ from bwT) (hb2.mono (by omega)))
  have s2 := hB2.size
  clear hG2 hb2 HG1A HLT
  go_wp2_with fail
  refine (textsS_any _ _ ((mer6L.map txt ++ halfL.map txt) ++ two2L.map txt) HG2.out (by rw [← List.map_append, ← List.map_append]; exact lt64_lits (by decide)) X HXT.out).mono ?_
  rintro e3 w3 ⟨xv, rfl, hox, hb3⟩
  have HOX := Lib.hid hox
  clear hox HG2
  go_wp2
  go_ret
  exact ⟨_, rfl, HOX.out.mono s2 (Nat.le_refl _), hB2.trans (hb3.mono s2)⟩
 ·obtain rfl : X = [] := by rw [HX.out]; rfl
  clear HX HG1 HH1
  go_wp2
  go_ret
  exact ⟨_, rfl, Ow.nil _ _ _, hB1⟩
end Go.Proofs.YtdpkldapobbnpaaGreatDoor
