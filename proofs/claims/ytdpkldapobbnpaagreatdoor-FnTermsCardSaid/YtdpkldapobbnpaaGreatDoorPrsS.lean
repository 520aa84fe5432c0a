/- Contracts: how the reference splits texts and reads types and rules. -/
import Derived.Test.YtdpkldapobbnpaaGreatDoorFrmW
import Derived.Test.YtdpkldapobbnpaaGreatDoorPrs
namespace Go.Proofs.YtdpkldapobbnpaaGreatDoor
set_option linter.unusedVariables false
set_option linter.unusedSimpArgs false
open Go.RowKit
theorem txt_sub (s : ByteArray) (a b : Nat) : s.extract a b = txt ((s.data.toList.drop a).take (b - a)) := by
 rw [← Lib.extract_toList, ByteArray.toList_eq]
 exact (txt_list _).symm
theorem byte_at (s : ByteArray) {k : Nat} (h : k < s.size) : s.data.toList[k]? = some (s[k]'h) := by
 have h' : k < s.data.toList.length := by simpa using h
 rw [List.getElem?_eq_getElem h']
 simp
 rfl
theorem take_grow {l : Bs} {f i : Nat} {c : UInt8} (h : l[i]? = some c) (hf : f ≤ i) : (l.drop f).take (i + 1 - f) = (l.drop f).take (i - f) ++ [c] := by
 have e : i + 1 - f = (i - f) + 1 := by omega
 rw [e]
 refine take_snoc ?_
 rw [List.getElem?_drop]
 rw [show f + (i - f) = i by omega]
 exact h
theorem slStrP : SlTy Tryz.prog 47 9 (.string ByteArray.empty) 1 16 := SlTy.of Tryz.underlying47 (by kernel_rfl) rfl
set_option maxRecDepth 20000 in
set_option maxHeartbeats 4000000 in
theorem splitS_any (w : World) (s : ByteArray) (hs : s.size ≤ 1099511627776) (b : UInt8) (bi : Int) (hb : bi = (b.toNat : Int)) (X : List ByteArray) (hX : X = (spl b s.data.toList).map txt) :
  Calls Tryz.prog 19 #[.string s, .int .u8 bi] w (PostOw w X) := by
 have HX := Lib.hid (show [] ++ (addHd ((s.data.toList.drop 0).take (0 - 0)) (spl b (s.data.toList.drop 0))).map txt = X by rw [hX]; simp [addHd_nil])
 have HB := Lib.hid hb
 clear hX hb
 go_enter Tryz.func19, Tryz.ntmps19
 go_wp2
 go_loopw [5, 6, 7] (fun s5 s6 s7 wr => ∃ (i f : Nat) (O : List ByteArray), i ≤ s.size ∧ f ≤ i ∧ O.length ≤ i ∧ s7 = .int .i64 i ∧ s6 = .int .i64 f ∧ Hid (O ++ (addHd ((s.data.toList.drop f).take (i - f)) (spl b (s.data.toList.drop i))).map txt = X) ∧ Hid (GL true w.heap.size w.heap.size wr.heap.size wr 9 s5 O) ∧ Below w.heap.size w wr) (fun _ _ s7 _ => s.size - (intOf s7).toNat)
 case atStart => exact ⟨0, 0, [], Nat.zero_le _, Nat.le_refl _, Nat.le_refl _, rfl, rfl, HX, Lib.hid (GL.lit0 _ _ _ _ _ (Nat.le_refl _)).top, (Below.refl _ _).alloc (Nat.le_refl _) _⟩
 case round =>
  obtain ⟨wb, hwb⟩ : ∃ wm : World, wm = wr := ⟨_, rfl⟩
  subst hwb
  obtain ⟨i, f, O, hi, hf, hO, rfl, rfl, hT, hG, hbb⟩ := hrel
  have sB := hbb.size
  obtain ⟨oao, ocap, rfl, -, -⟩ := hG.out.len
  by_cases hlt : i < s.size
  ·have hI : (i : Int) < (s.size : Int) := by omega
   have hc := byte_at s hlt
   by_cases hE : s[i]'hlt = b
   ·have hE1 : ((s[i]'hlt).toNat : Int) = bi := by rw [HB.out, hE]
    have HT2 := Lib.hid (show (O ++ [s.extract f i]) ++ (addHd ((s.data.toList.drop (i + 1)).take (i + 1 - (i + 1))) (spl b (s.data.toList.drop (i + 1)))).map txt = X by
     rw [← hT.out, spl_hit (hc.trans (by rw [hE])), Nat.sub_self, List.take_zero, addHd_nil, txt_sub, List.append_assoc]
     rfl)
    obtain ⟨q, hq⟩ : ∃ q, q = s.extract f i := ⟨_, rfl⟩
    rw [← hq] at HT2
    have HQS := Lib.hid (show q.size ≤ maxLen by rw [hq, ByteArray.size_extract]; unfold maxLen; omega)
    have HQ := Lib.hid hq.symm
    clear hc hT hE hq
    go_wp2_with (at_builtin; rw [HQ.out]; refine wpList_push rfl rfl slStrP (by show (0 : Nat) < 1; omega) (hG.out.alloc _) rfl (ad := ⟨wb.heap.size, 0, none⟩) rfl (cs := [.string q]) (y := q) (lx := wb.heap.size) (hx' := wb.heap.size) ?c1 (It.flat (z := true) (w0 := wb) (fp := []) ⟨rfl, HQS.out, rfl⟩) sB (.inl (Nat.le_refl _)) (by unfold maxLen; omega) (by omega) ?c2 ?_)
    case c1 =>
     intro j c hj
     match j, hj with
     | 0, hj => simp at hj; subst hj; simp [Addr.add]
    case c2 => simp; omega
    intro v' w1 hG1 _ hb1
    have HG := Lib.hid hG1
    have hB1 : Below w.heap.size w w1 := Below.trans (hbb.alloc sB _) hb1
    have hOl : (O ++ [q]).length ≤ i + 1 := by simp; omega
    clear hG hG1 hb1
    go_wp2
    go_roundw
    case rel => exact ⟨i + 1, i + 1, O ++ [q], by omega, by omega, hOl, by go_num, by go_num, HT2, HG, hB1⟩
    case measure => simp [intOf]; omega
   ·have hE1 : ¬ ((s[i]'hlt).toNat : Int) = bi := by
     rw [HB.out]; intro e; exact hE (UInt8.toNat.inj (by omega))
    have HT2 := Lib.hid (show O ++ (addHd ((s.data.toList.drop f).take (i + 1 - f)) (spl b (s.data.toList.drop (i + 1)))).map txt = X by
     rw [← hT.out, spl_miss hc hE, take_grow hc hf])
    clear hc hT hE
    go_wp2
    go_roundw
    case rel => exact ⟨i + 1, f, O, by omega, by omega, by omega, by go_num, rfl, HT2, hG, hbb⟩
    case measure => simp [intOf]; omega
  ·have hI : ¬ (i : Int) < (s.size : Int) := by omega
   have HT2 := Lib.hid (show O ++ [s.extract f s.size] = X by
    obtain rfl : i = s.size := by omega
    rw [← hT.out, show s.data.toList.drop s.size = [] from List.drop_eq_nil_of_le (Nat.le_of_eq (Lib.size_eq s).symm), spl_end, txt_sub]
    rfl)
   obtain ⟨q, hq⟩ : ∃ q, q = s.extract f s.size := ⟨_, rfl⟩
   rw [← hq] at HT2
   have HQS := Lib.hid (show q.size ≤ maxLen by rw [hq, ByteArray.size_extract]; unfold maxLen; omega)
   have HQ := Lib.hid hq.symm
   clear hT hq
   go_wp2_with (at_builtin; rw [HQ.out]; refine wpList_push rfl rfl slStrP (by show (0 : Nat) < 1; omega) (hG.out.alloc _) rfl (ad := ⟨wb.heap.size, 0, none⟩) rfl (cs := [.string q]) (y := q) (lx := wb.heap.size) (hx' := wb.heap.size) ?d1 (It.flat (z := true) (w0 := wb) (fp := []) ⟨rfl, HQS.out, rfl⟩) sB (.inl (Nat.le_refl _)) (by unfold maxLen; omega) (by omega) ?d2 ?_)
   case d2 => omega
   intro v' w1 hG1 _ hb1
   have HG := Lib.hid (show Ow w.heap.size w1.heap.size w1 [v'] X by rw [← HT2.out]; exact hG1.ow (Nat.le_refl _) (Nat.le_refl _))
   have hB1 : Below w.heap.size w w1 := Below.trans (hbb.alloc sB _) hb1
   clear hG hG1 hb1
   go_wp2
   go_ret
   exact ⟨_, rfl, HG.out, hB1⟩
theorem pre2 (s : ByteArray) (h : 1 < s.size) (a b : UInt8) : ((s.extract 0 2).toList == [a, b]) = Lib.hasPrefix s.data.toList [a, b] := by
 rw [Lib.extract_toList]
 obtain ⟨⟨l⟩⟩ := s
 match l, h with
 | x :: y :: r, _ =>
   rw [Bool.eq_iff_iff]
   simp only [Lib.hasPrefix, List.isPrefixOf, Bool.and_eq_true, beq_iff_eq, and_true]
   simp
   constructor <;> (rintro ⟨rfl, rfl⟩; exact ⟨rfl, rfl⟩)
 | [x], h => simp [ByteArray.size] at h
 | [], h => simp [ByteArray.size] at h
theorem pre2_no (s : ByteArray) (h : ¬ 1 < s.size) (a b : UInt8) : Lib.hasPrefix s.data.toList [a, b] = false := by
 obtain ⟨⟨l⟩⟩ := s
 match l, h with
 | x :: y :: r, h => simp [ByteArray.size] at h
 | [x], h => simp [Lib.hasPrefix, List.isPrefixOf]
 | [], h => simp [Lib.hasPrefix, List.isPrefixOf]
theorem sub_from (s : ByteArray) (a : Nat) : s.extract a s.size = txt (s.data.toList.drop a) := by
 rw [txt_sub, List.take_of_length_le (by rw [List.length_drop, ← Lib.size_eq]; omega)]
set_option maxRecDepth 20000 in
set_option maxHeartbeats 4000000 in
theorem cutS_any (w : World) (s : ByteArray) (hs : s.size ≤ maxLen) (e : Int) (r : ByteArray) (he : e = (cutE s.data.toList).1) (hr : r = txt (cutE s.data.toList).2) :
  Calls Tryz.prog 53 #[.string s] w (PostV w (.tuple #[.int .i64 e, .string r])) := by
 unfold maxLen at hs
 by_cases h1 : 1 < s.size
 ·have hI : (1 : Int) < (s.size : Int) := by omega
  have p1 := pre2 s h1 109 58
  have p2 := pre2 s h1 119 58
  have e1 := sub_from s 2
  have h2 : (2 : Int) ≤ (s.size : Int) := by omega
  rcases Bool.eq_false_or_eq_true (Lib.hasPrefix s.data.toList [109, 58]) with c1 | c1
  ·obtain rfl : e = 1 := by rw [he, cutE, if_pos c1]
   obtain rfl : r = txt (s.data.toList.drop 2) := by rw [hr, cutE, if_pos c1]
   rw [← e1]
   rw [c1] at p1
   clear he hr p2 c1 e1
   go_enter Tryz.func53, Tryz.ntmps53
   go_upto_region 2 with fail
   refine wp_region_held_drew (S := (fun w' => True)) (by kernel_rfl) ?_ (fun hHeld => ?_)
   ·first | exact trivial | ((try dsimp only); go_keep)
   refine tkA 0 ?_
   try simp only [Act.put, cA, cB, cC]
   refine tkA 2 ?_
   try simp only [Act.put, cA, cB, cC]
   refine tkA 1 ?_
   try simp only [Act.put, cA, cB, cC]
   refine tkA 3 ?_
   try simp only [Act.put, cA, cB, cC]
   refine wpAnyH_done (by kernel_rfl) ?_ _
   go_wp2
   go_ret2
   exact ⟨rfl, bwT⟩
  rcases Bool.eq_false_or_eq_true (Lib.hasPrefix s.data.toList [119, 58]) with c2 | c2
  ·obtain rfl : e = 2 := by rw [he, cutE, if_neg (by rw [c1]; decide), if_pos c2]
   obtain rfl : r = txt (s.data.toList.drop 2) := by rw [hr, cutE, if_neg (by rw [c1]; decide), if_pos c2]
   rw [← e1]
   rw [c1] at p1
   rw [c2] at p2
   clear he hr c1 c2 e1
   go_enter Tryz.func53, Tryz.ntmps53
   go_upto_region 4 with fail
   refine wp_region_held_drew (S := (fun w' => True)) (by kernel_rfl) ?_ (fun hHeld => ?_)
   ·first | exact trivial | ((try dsimp only); go_keep)
   refine tkA 0 ?_
   try simp only [Act.put, cA, cB, cC]
   refine tkA 2 ?_
   try simp only [Act.put, cA, cB, cC]
   refine tkA 1 ?_
   try simp only [Act.put, cA, cB, cC]
   refine tkA 3 ?_
   try simp only [Act.put, cA, cB, cC]
   refine wpAnyH_done (by kernel_rfl) ?_ _
   go_wp2
   go_ret2
   exact ⟨rfl, bwT⟩
  ·obtain rfl : e = 0 := by rw [he, cutE, if_neg (by rw [c1]; decide), if_neg (by rw [c2]; decide)]
   obtain rfl : r = s := by rw [hr, cutE, if_neg (by rw [c1]; decide), if_neg (by rw [c2]; decide)]; exact txt_list _
   rw [c1] at p1
   rw [c2] at p2
   clear he hr c1 c2 e1
   go_enter Tryz.func53, Tryz.ntmps53
   go_wp2
   go_ret2
   exact ⟨rfl, bwT⟩
 ·have hI : ¬ (1 : Int) < (s.size : Int) := by omega
  have c1 := pre2_no s h1 109 58
  have c2 := pre2_no s h1 119 58
  obtain rfl : e = 0 := by rw [he, cutE, if_neg (by rw [c1]; decide), if_neg (by rw [c2]; decide)]
  obtain rfl : r = s := by rw [hr, cutE, if_neg (by rw [c1]; decide), if_neg (by rw [c2]; decide)]; exact txt_list _
  clear he hr c1 c2
  go_enter Tryz.func53, Tryz.ntmps53
  go_wp2
  go_ret2
  exact ⟨rfl, bwT⟩
def kndK (c : UInt8) : Nat → Int
 | 0 => 0
 | k + 1 => if lts[k]? = some c then (k : Int) + 1 else kndK c k
theorem kndK_all (c : UInt8) : kndK c 8 = knd c := by
 have h : ∀ n : Fin 256, kndK ⟨⟨n⟩⟩ 8 = knd ⟨⟨n⟩⟩ := by decide +kernel
 obtain ⟨⟨n⟩⟩ := c
 exact h n
theorem lettersS_x (w : World) (L : ByteArray) (hL : L = ⟨#[70, 77, 66, 90, 83, 68, 72, 87]⟩) : Calls Tryz.prog 96 #[] w (PostV w (.string L)) := by
 subst hL
 exact lettersS_any w
theorem dot_eq (s : ByteArray) : (s.toList == [46]) = decide (s.data.toList = [46]) := by
 rw [ByteArray.toList_eq, Bool.eq_iff_iff]; simp
theorem readG_step {l : Bs} {i : Nat} {c : UInt8} (h : l[i]? = some c) {a : Int} {o : List Stp} (ho : o.length < 20) : readG (l.drop i) a o = if c = 101 then readG (l.drop (i + 1)) 1 o else if c = 121 then readG (l.drop (i + 1)) 2 o else readG (l.drop (i + 1)) 0 (o ++ [(knd c, a)]) := by
 obtain ⟨hi, e⟩ := List.getElem?_eq_some_iff.1 h
 rw [List.drop_eq_getElem_cons hi, e, readG, if_pos ho]
set_option maxRecDepth 20000 in
set_option maxHeartbeats 16000000 in
theorem readS_any (w : World) (s : ByteArray) (hs : s.size ≤ maxLen) (X : List Stp) (hX : X = readS s.data.toList) :
  Calls Tryz.prog 52 #[.string s] w (PostOw w X) := by
 unfold maxLen at hs
 have hd := dot_eq s
 by_cases h46 : s.data.toList = [46]
 ·obtain rfl : X = [] := by rw [hX, readS, if_pos h46]
  rw [decide_eq_true h46] at hd
  clear hX
  go_enter Tryz.func52, Tryz.ntmps52
  go_wp2
  go_ret
  exact ⟨_, rfl, (GL.lit0 (α := Stp) true _ _ _ _ (Nat.le_refl _)).top.ow (Nat.le_refl _) (Nat.le_refl _), bwT⟩
 rw [decide_eq_false h46] at hd
 have HX := Lib.hid (show readG (s.data.toList.drop 0) 0 [] = X by rw [hX, readS, if_neg h46]; rfl)
 obtain ⟨L, hL⟩ : ∃ L : ByteArray, L = ⟨#[70, 77, 66, 90, 83, 68, 72, 87]⟩ := ⟨_, rfl⟩
 have hLs : L.size = 8 := by rw [hL]; rfl
 have HL := Lib.hid hL
 have HLT := Lib.hid (show L.data.toList = lts by rw [hL]; rfl)
 clear hX hL h46
 go_enter Tryz.func52, Tryz.ntmps52
 go_wp2
 go_loopw [3, 4, 5, 6, 7] (fun s3 s4 s5 _ _ wr => ∃ (i : Nat) (age : Int) (O : List Stp), i ≤ s.size ∧ O.length ≤ i ∧ O.length ≤ 20 ∧ (0 ≤ age ∧ age ≤ 2) ∧ s5 = .int .i64 i ∧ s4 = .int .i64 age ∧ Hid (readG (s.data.toList.drop i) age O = X) ∧ Hid (GL true w.heap.size w.heap.size wr.heap.size wr 106 s3 O) ∧ Below w.heap.size w wr) (fun _ _ s5 _ _ _ => s.size - (intOf s5).toNat)
 case atStart => exact ⟨0, 0, [], Nat.zero_le _, Nat.le_refl _, by simp, by omega, rfl, rfl, HX, Lib.hid (GL.lit0 _ _ _ _ _ (Nat.le_refl _)).top, (Below.refl _ _).alloc (Nat.le_refl _) _⟩
 case round =>
  obtain ⟨wb, hwb⟩ : ∃ wm : World, wm = wr := ⟨_, rfl⟩
  subst hwb
  obtain ⟨i, age, O, hi, hO, hO2, hag, rfl, rfl, hT, hG, hbb⟩ := hrel
  have sB := hbb.size
  obtain ⟨oao, ocap, rfl, -, -⟩ := hG.out.len
  by_cases hlt : i < s.size
  rotate_left
  ·have hI : ¬ (i : Int) < (s.size : Int) := by omega
   have HF := Lib.hid (show O = X by
    rw [← hT.out, show s.data.toList.drop i = [] from List.drop_eq_nil_of_le (by rw [← Lib.size_eq]; omega)]; rfl)
   have HO := Lib.hid (hG.out.ow (l0 := w.heap.size) (Nat.le_refl _) (Nat.le_refl _))
   clear hT hG
   go_wp2
   go_ret
   exact ⟨_, rfl, by rw [← HF.out]; exact HO.out, hbb⟩
  have hI : (i : Int) < (s.size : Int) := by omega
  by_cases h20 : O.length < 20
  rotate_left
  ·have h20I : ¬ (O.length : Int) < 20 := by omega
   have HF := Lib.hid (show O = X by rw [← hT.out, readG_out _ _ _ (by omega)])
   have HO := Lib.hid (hG.out.ow (l0 := w.heap.size) (Nat.le_refl _) (Nat.le_refl _))
   clear hT hG
   go_wp2
   go_ret
   exact ⟨_, rfl, by rw [← HF.out]; exact HO.out, hbb⟩
  have h20I : (O.length : Int) < 20 := by omega
  have hc := byte_at s hlt
  have HS := Lib.hid (readG_step hc (a := age) h20)
  obtain ⟨c, hcc⟩ : ∃ c, c = s[i]'hlt := ⟨_, rfl⟩
  rw [← hcc] at HS hc
  by_cases c1 : c = 101
  ·have k1 : (((s[i]'hlt).toNat : Int) == 101) = true := by rw [← hcc, c1]; rfl
   have HT2 := Lib.hid (show readG (s.data.toList.drop (i + 1)) 1 O = X by rw [← hT.out, HS.out, if_pos c1])
   clear HS hT hc hcc c1
   go_wp2
   go_roundw
   case rel => exact ⟨i + 1, 1, O, by omega, by omega, hO2, by omega, by go_num, rfl, HT2, hG, hbb⟩
   case measure => simp [intOf]; omega
  have k1 : (((s[i]'hlt).toNat : Int) == 101) = false := by rw [← hcc, beq_eq_false_iff_ne]; intro e; exact c1 (UInt8.toNat.inj (by have : (101 : UInt8).toNat = 101 := rfl; omega))
  by_cases c2 : c = 121
  ·have k2 : (((s[i]'hlt).toNat : Int) == 121) = true := by rw [← hcc, c2]; rfl
   have HT2 := Lib.hid (show readG (s.data.toList.drop (i + 1)) 2 O = X by rw [← hT.out, HS.out, if_neg c1, if_pos c2])
   clear HS hT hc hcc c1 c2 k1
   go_wp2
   go_roundw
   case rel => exact ⟨i + 1, 2, O, by omega, by omega, hO2, by omega, by go_num, rfl, HT2, hG, hbb⟩
   case measure => simp [intOf]; omega
  have k2 : (((s[i]'hlt).toNat : Int) == 121) = false := by rw [← hcc, beq_eq_false_iff_ne]; intro e; exact c2 (UInt8.toNat.inj (by have : (121 : UInt8).toNat = 121 := rfl; omega))
  have HT2 := Lib.hid (show readG (s.data.toList.drop (i + 1)) 0 (O ++ [(kndK c 8, age)]) = X by rw [← hT.out, HS.out, if_neg c1, if_neg c2, kndK_all])
  have HKR := Lib.hid (show 0 ≤ kndK c 8 ∧ kndK c 8 ≤ 8 by rw [kndK_all]; exact knd_range c)
  have HCC := Lib.hid hcc
  clear HS hT hc hcc c1 c2
  go_wp2
  go_loopw [6, 7] (fun s6 s7 wk => ∃ k : Nat, k ≤ 8 ∧ s7 = .int .i64 k ∧ s6 = .int .i64 (kndK c k) ∧ Below wb.heap.size wb wk) (fun _ s7 _ => 8 - (intOf s7).toNat)
  case atStart => exact ⟨0, Nat.zero_le _, rfl, rfl, Below.refl _ _⟩
  case round =>
   obtain ⟨wk, hwk⟩ : ∃ wm : World, wm = wr := ⟨_, rfl⟩
   subst hwk
   obtain ⟨k, hk, rfl, rfl, hbk⟩ := hrel
   have sK := hbk.size
   by_cases hk8 : k < 8
   ·have hkI : (k : Int) < 8 := by omega
    have hkL : k < L.size := by omega
    have hkLI : (k : Int) < (L.size : Int) := by omega
    have hLk := byte_at L hkL
    by_cases e : L[k]'hkL = s[i]'hlt
    ·have e1 : (((L[k]'hkL).toNat : Int) == ((s[i]'hlt).toNat : Int)) = true := by rw [e]; exact beq_self_eq_true _
     have HN := Lib.hid (show kndK c (k + 1) = (k : Int) + 1 by rw [kndK, if_pos (by rw [← HLT.out, hLk, e, HCC.out])])
     clear hLk e
     go_upto_region 17 with fail
     refine wp_region_held_drew (S := (fun w' => True)) (by kernel_rfl) ?_ (fun hHeld => ?_)
     ·first | exact trivial | ((try dsimp only); go_keep)
     refine tkA 1 ?_
     try simp only [Act.put, cA, cB, cC]
     refine tkA 3 ?_
     try simp only [Act.put, cA, cB, cC]
     refine tkA 4 ?_
     try simp only [Act.put, cA, cB, cC]
     refine tkA 5 ?_
     try simp only [Act.put, cA, cB, cC]
     refine wpAnyH_ready (rs := [0]) (by kernel_rfl) (by simp) ?_
     refine rdR (fun K hK => ?_) ?_
     ·go_simp
      refine (lettersS_x _ L HL.out).mono ?_
      rintro e2 w2 ⟨rfl, hb2⟩
      have hp2 : Below wb.heap.size wb w2 := Below.trans hbk (Below.trans (show Below wb.heap.size wk _ from bwT) (hb2.mono szT))
      have hS2 : True := trivial
      clear hb2
      refine hK.out _ _ ?_ (fun hHeld => ?_)
      ·exact kpT
      clear hK K
      try simp only [Act.put, cA, cB, cC]
      refine tkA 2 ?_
      try simp only [Act.put, cA, cB, cC]
      refine tkA 6 ?_
      try simp only [Act.put, cA, cB, cC]
      refine wpAnyH_done (by kernel_rfl) ?_ _
      go_wp2
      go_roundw
      case rel => exact ⟨k + 1, by omega, by go_num, by rw [HN.out], hp2⟩
      case measure => simp [intOf]; omega
     exact AllReadyH.nil
    ·have e1 : (((L[k]'hkL).toNat : Int) == ((s[i]'hlt).toNat : Int)) = false := by
      rw [beq_eq_false_iff_ne]; intro h; exact e (UInt8.toNat.inj (by omega))
     have HN := Lib.hid (show kndK c (k + 1) = kndK c k by rw [kndK, if_neg (by rw [← HLT.out, hLk, HCC.out]; intro h; exact e (Option.some.inj h))])
     clear hLk e
     go_upto_region 17 with fail
     refine wp_region_held_drew (S := (fun w' => True)) (by kernel_rfl) ?_ (fun hHeld => ?_)
     ·first | exact trivial | ((try dsimp only); go_keep)
     refine tkA 1 ?_
     try simp only [Act.put, cA, cB, cC]
     refine tkA 3 ?_
     try simp only [Act.put, cA, cB, cC]
     refine tkA 4 ?_
     try simp only [Act.put, cA, cB, cC]
     refine tkA 5 ?_
     try simp only [Act.put, cA, cB, cC]
     refine wpAnyH_ready (rs := [0]) (by kernel_rfl) (by simp) ?_
     refine rdR (fun K hK => ?_) ?_
     ·go_simp
      refine (lettersS_x _ L HL.out).mono ?_
      rintro e2 w2 ⟨rfl, hb2⟩
      have hp2 : Below wb.heap.size wb w2 := Below.trans hbk (Below.trans (show Below wb.heap.size wk _ from bwT) (hb2.mono szT))
      have hS2 : True := trivial
      clear hb2
      refine hK.out _ _ ?_ (fun hHeld => ?_)
      ·exact kpT
      clear hK K
      try simp only [Act.put, cA, cB, cC]
      refine tkA 2 ?_
      try simp only [Act.put, cA, cB, cC]
      refine tkA 6 ?_
      try simp only [Act.put, cA, cB, cC]
      refine wpAnyH_done (by kernel_rfl) ?_ _
      go_wp2
      go_roundw
      case rel => exact ⟨k + 1, by omega, by go_num, by rw [HN.out], hp2⟩
      case measure => simp [intOf]; omega
     exact AllReadyH.nil
   ·obtain rfl : k = 8 := by omega
    obtain ⟨q, hq⟩ : ∃ q, q = kndK c 8 := ⟨_, rfl⟩
    rw [← hq] at HT2 HKR
    have HQ := Lib.hid hq.symm
    have hqr := HKR.out
    have HG2 := Lib.hid (hG.out.below hbk)
    have hBk : Below w.heap.size w wk := hbb.trans (hbk.mono sB)
    have sBk := hBk.size
    clear hq hG
    rw [HQ.out]
    go_wp2_with (at_builtin; refine wpList_push rfl rfl slStep (by show (0 : Nat) < 2; omega) (HG2.out.top.alloc _) rfl (ad := ⟨wk.heap.size, 0, none⟩) rfl (cs := [.int .i64 q, .int .i64 age]) (y := (q, age)) (lx := wk.heap.size) (hx' := wk.heap.size) ?c1 (It.flat (z := true) (w0 := wk) (fp := []) ?c3) sBk (.inl (Nat.le_refl _)) (by unfold maxLen; omega) (by omega) ?c2 ?_)
    case c1 =>
     intro j c hj
     match j, hj with
     | 0, hj => simp at hj; subst hj; simp [Addr.add]
     | 1, hj => simp at hj; subst hj; simp [Addr.add]
    case c2 => simp; omega
    case c3 => exact repStp_mk (by unfold I64; omega) (by unfold I64; omega)
    intro v' w1 hG1 _ hb1
    have HG := Lib.hid hG1
    have hB1 : Below w.heap.size w w1 := Below.trans (hBk.alloc sBk _) hb1
    have hOl : (O ++ [(q, age)]).length ≤ i + 1 := by simp; omega
    have hOl2 : (O ++ [(q, age)]).length ≤ 20 := by simp; omega
    clear HG2 hG1 hb1
    go_wp2
    go_roundw
    case rel => exact ⟨i + 1, 0, O ++ [(q, age)], by omega, hOl, hOl2, by omega, by go_num, rfl, HT2, HG, hB1⟩
    case measure => simp [intOf]; omega
end Go.Proofs.YtdpkldapobbnpaaGreatDoor
