/- Texts laid one behind the other (merge.py): Prs, PrsS, PrsS2, PrsS3. -/
import Derived.Test.YtcbhdmmohdnjbaaGreatFrmM
import Derived.Lib.Walk
import Derived.Lib.Strings
import Derived.Lib.IndexMore
import Derived.Lib.Bytealg
namespace Go.Proofs.YtcbhdmmohdnjbaaGreat
set_option linter.unusedVariables false
set_option linter.unusedSimpArgs false
open Go.RowKit
set_option maxHeartbeats 100000000
section
abbrev Bs := List UInt8
def txt (l : Bs) : ByteArray := ⟨l.toArray⟩
theorem txt_list (s : ByteArray) : txt s.data.toList = s := by cases s; rfl
theorem list_txt (l : Bs) : (txt l).data.toList = l := by simp [txt]
theorem size_txt (l : Bs) : (txt l).size = l.length := by simp [txt, ByteArray.size]
def lts : Bs := [70, 77, 66, 90, 83, 68, 72, 87]
def knd (c : UInt8) : Int := Lib.indexByte lts c + 1
def cutE (l : Bs) : Int × Bs := if Lib.hasPrefix l [109, 58] then (1, l.drop 2) else if Lib.hasPrefix l [119, 58] then (2, l.drop 2) else (0, l)
def readI : Bs → Option (List Stp)
 | [] => some []
 | [c] => if c = 101 ∨ c = 121 then none else if knd c = 0 then none else some [(knd c, 0)]
 | c :: d :: r => if c = 101 ∨ c = 121 then (if knd d = 0 then none else (readI r).map ((knd d, if c = 101 then 1 else 2) :: ·)) else if knd c = 0 then none else (readI (d :: r)).map ((knd c, 0) :: ·)
def typeI (l : Bs) : Option Kin :=
 if (cutE l).2 = [46] then some ((cutE l).1, []) else (readI (cutE l).2).bind fun st => if st ≠ [] ∧ isKin ((cutE l).1, st) = true then some ((cutE l).1, st) else none
def readG : Bs → Int → List Stp → List Stp
 | [], _, out => out
 | c :: r, age, out => if out.length < 20 then (if c = 101 then readG r 1 out else if c = 121 then readG r 2 out else readG r 0 (out ++ [(knd c, age)])) else out
def readS (l : Bs) : List Stp := if l = [46] then [] else readG l 0 []
def typeS (l : Bs) : Option Kin := if isKin ((cutE l).1, readS (cutE l).2) = true ∧ kinTxt ((cutE l).1, readS (cutE l).2) = txt l then some ((cutE l).1, readS (cutE l).2) else none
def addHd (p : Bs) : List Bs → List Bs
 | [] => [p]
 | x :: xs => (p ++ x) :: xs
def spl (b : UInt8) : Bs → List Bs
 | [] => [[]]
 | c :: r => if c = b then [] :: spl b r else addHd [c] (spl b r)
def ruleS1 (w : Bs) : Int × Bs := if w.head? = some 94 then (1, w.drop 1) else if w.getLast? = some 36 then (2, w.dropLast) else (0, w)
def ruleS4 (l a b d : Bs) : Option Rul :=
 let r : Rul := (txt a.dropLast, (cutE b).1, (ruleS1 (cutE b).2).1, readS (ruleS1 (cutE b).2).2, readS d)
 if 2 ≤ a.length ∧ 1 ≤ b.length ∧ isRule r = true ∧ ruleTxt r = txt l then some r else none
def ruleS (l : Bs) : Option Rul :=
 match spl 32 l with
 | [a, b, _, d] => ruleS4 l a b d
 | _ => none
def ruleI1 (w : Bs) : Option (Int × Bs) :=
 if Lib.hasPrefix w [94] then (if Lib.hasSuffix (w.drop 1) [36] then none else some (1, w.drop 1)) else if Lib.hasSuffix w [36] then some (2, w.dropLast) else some (0, w)
def ruleI3 (l nm fr tw : Bs) : Option Rul :=
 (ruleI1 (cutE fr).2).bind fun p => (readI p.2).bind fun f => (if tw = [46] then some [] else readI tw).bind fun t =>
  let r : Rul := (txt nm, (cutE fr).1, p.1, f, t)
  if isRule r = true ∧ ruleTxt r = txt l then some r else none
def ruleI (l : Bs) : Option Rul :=
 let a := Lib.cut l [58, 32]
 let b := Lib.cut a.2.1 [32, 45, 62, 32]
 if a.2.2 = true ∧ b.2.2 = true then ruleI3 l a.1 b.1 b.2.1 else none
theorem addHd_nil (b : UInt8) (l : Bs) : addHd [] (spl b l) = spl b l := by
 cases h : spl b l with
 | nil => cases l with
   | nil => simp [spl] at h
   | cons c r =>
     simp only [spl] at h
     split at h
     ·cases h
     ·cases h2 : spl b r <;> simp [h2, addHd] at h
 | cons x xs => rfl
theorem addHd_app (p q : Bs) : ∀ l, addHd p (addHd q l) = addHd (p ++ q) l
 | [] => rfl
 | x :: xs => by simp [addHd]
theorem spl_hit {b : UInt8} {l : Bs} {i : Nat} (h : l[i]? = some b) (p : Bs) : addHd p (spl b (l.drop i)) = p :: spl b (l.drop (i + 1)) := by
 obtain ⟨hi, e⟩ := List.getElem?_eq_some_iff.1 h
 rw [List.drop_eq_getElem_cons hi, e]
 simp [spl, addHd]
theorem spl_miss {b c : UInt8} {l : Bs} {i : Nat} (h : l[i]? = some c) (hc : c ≠ b) (p : Bs) : addHd p (spl b (l.drop i)) = addHd (p ++ [c]) (spl b (l.drop (i + 1))) := by
 obtain ⟨hi, e⟩ := List.getElem?_eq_some_iff.1 h
 rw [List.drop_eq_getElem_cons hi, e]
 simp only [spl, if_neg hc]
 rw [addHd_app]
theorem spl_end (b : UInt8) (p : Bs) : addHd p (spl b []) = [p] := by simp [spl, addHd]
theorem readG_out : ∀ (l : Bs) (a : Int) (o : List Stp), 20 ≤ o.length → readG l a o = o
 | [], _, _, _ => rfl
 | c :: r, a, o, h => by rw [readG, if_neg omT]
theorem ib_lt : ∀ (l : Bs) (c : UInt8), Lib.indexByte l c < l.length
 | [], _ => by simp [Lib.indexByte]
 | b :: l, c => by
   have := ib_lt l c
   unfold Lib.indexByte
   rw [List.length_cons]
   split
   ·omega
   ·split
    ·omega
    ·omega
theorem knd_range (c : UInt8) : 0 ≤ knd c ∧ knd c ≤ 8 := by
 have h1 := Lib.indexByte_ge lts c
 have h2 := ib_lt lts c
 have h3 : (lts.length : Int) = 8 := rfl
 unfold knd
 omega
end
section
theorem txt_sub (s : ByteArray) (a b : Nat) : s.extract a b = txt ((s.data.toList.drop a).take (b - a)) := by
 rw [← Lib.extract_toList, ByteArray.toList_eq]
 exact (txt_list _).symm
theorem byte_at (s : ByteArray) {k : Nat} (h : k < s.size) : s.data.toList[k]? = some (s[k]'h) := by
 have h' : k < s.data.toList.length := by simpa using h
 rw [List.getElem?_eq_getElem h']
 simp
 rfl
theorem take_grow {l : Bs} {f i : Nat} {c : UInt8} (h : l[i]? = some c) (hf : f ≤ i) : (l.drop f).take (i + 1 - f) = (l.drop f).take (i - f) ++ [c] := by
 have e : i + 1 - f = (i - f) + 1 := by omega
 rw [e]
 refine take_snoc ?_
 rw [List.getElem?_drop]
 rw [show f + (i - f) = i by omega]
 exact h
theorem slStrP : SlTy Tryz.prog 47 9 (.string ByteArray.empty) 1 16 := SlTy.of Tryz.underlying47 krT rfl
set_option maxRecDepth 20000 in
theorem splitS_any (w : World) (s : ByteArray) (hs : s.size ≤ 1099511627776) (b : UInt8) (bi : Int) (hb : bi = (b.toNat : Int)) (X : List ByteArray) (hX : X = (spl b s.data.toList).map txt) :
  Calls Tryz.prog 183 #[.string s, .int .u8 bi] w (PostOw w X) := by
 have HX := Hd (show [] ++ (addHd ((s.data.toList.drop 0).take (0 - 0)) (spl b (s.data.toList.drop 0))).map txt = X by rw [hX]; simp [addHd_nil])
 have HB := Hd hb
 clear hX hb
 go_enter Tryz.func183, Tryz.ntmps183
 go_wp2
 go_loopw [5, 6, 7] (fun s5 s6 s7 wr => ∃ (i f : Nat) (O : List ByteArray), i ≤ s.size ∧ f ≤ i ∧ O.length ≤ i ∧ s7 = .int .i64 i ∧ s6 = .int .i64 f ∧ Hid (O ++ (addHd ((s.data.toList.drop f).take (i - f)) (spl b (s.data.toList.drop i))).map txt = X) ∧ Hid (GL true w.heap.size w.heap.size wr.heap.size wr 9 s5 O) ∧ Below w.heap.size w wr) (fun _ _ s7 _ => s.size - (intOf s7).toNat)
 case atStart => exact ⟨0, 0, [], Nat.zero_le _, Nat.le_refl _, Nat.le_refl _, rfl, rfl, HX, Hd (GL.lit0 _ _ _ _ _ (Nat.le_refl _)).top, (Below.refl _ _).alloc (Nat.le_refl _) _⟩
 case round =>
  obtain ⟨wb, hwb⟩ : ∃ wm : World, wm = wr := ⟨_, rfl⟩
  subst hwb
  obtain ⟨i, f, O, hi, hf, hO, rfl, rfl, hT, hG, hbb⟩ := hrel
  have sB := hbb.size
  obtain ⟨oao, ocap, rfl, -, -⟩ := hG.out.len
  by_cases hlt : i < s.size
  ·have hI : (i : Int) < (s.size : Int) := by omega
   have hc := byte_at s hlt
   by_cases hE : s[i]'hlt = b
   ·have hE1 : ((s[i]'hlt).toNat : Int) = bi := by rw [HB.out, hE]
    have HT2 := Hd (show (O ++ [s.extract f i]) ++ (addHd ((s.data.toList.drop (i + 1)).take (i + 1 - (i + 1))) (spl b (s.data.toList.drop (i + 1)))).map txt = X by
     rw [← hT.out, spl_hit (hc.trans (by rw [hE])), Nat.sub_self, List.take_zero, addHd_nil, txt_sub, List.append_assoc]
     rfl)
    obtain ⟨q, hq⟩ : ∃ q, q = s.extract f i := ⟨_, rfl⟩
    rw [← hq] at HT2
    have HQS := Hd (show q.size ≤ maxLen by rw [hq, ByteArray.size_extract]; unfold maxLen; omega)
    have HQ := Hd hq.symm
    clear hc hT hE hq
    go_wp2_with (at_builtin; rw [HQ.out]; refine wpList_push rfl rfl slStrP (by show (0 : Nat) < 1; omega) (hG.out.alloc _) rfl (ad := ⟨wb.heap.size, 0, none⟩) rfl (cs := [.string q]) (y := q) (lx := wb.heap.size) (hx' := wb.heap.size) ?c1 (It.flat (z := true) (w0 := wb) (fp := []) ⟨rfl, HQS.out, rfl⟩) sB (.inl (Nat.le_refl _)) mxT omT ?c2 ?_)
    case c1 =>
     intro j c hj
     match j, hj with
     | 0, hj => simp at hj; subst hj; simp [Addr.add]
    case c2 => simp; omega
    intro v' w1 hG1 _ hb1
    have HG := Hd hG1
    have hB1 : Below w.heap.size w w1 := Below.trans (hbb.alloc sB _) hb1
    have hOl : (O ++ [q]).length ≤ i + 1 := by simp; omega
    clear hG hG1 hb1
    go_wp2
    go_roundw
    case rel => exact ⟨i + 1, i + 1, O ++ [q], by omega, by omega, hOl, by go_num, by go_num, HT2, HG, hB1⟩
    case measure => simp [intOf]; omega
   ·have hE1 : ¬ ((s[i]'hlt).toNat : Int) = bi := by
     rw [HB.out]; intro e; exact hE (UInt8.toNat.inj omT)
    have HT2 := Hd (show O ++ (addHd ((s.data.toList.drop f).take (i + 1 - f)) (spl b (s.data.toList.drop (i + 1)))).map txt = X by
     rw [← hT.out, spl_miss hc hE, take_grow hc hf])
    clear hc hT hE
    go_wp2
    go_roundw
    case rel => exact ⟨i + 1, f, O, by omega, by omega, by omega, by go_num, rfl, HT2, hG, hbb⟩
    case measure => simp [intOf]; omega
  ·have hI : ¬ (i : Int) < (s.size : Int) := by omega
   have HT2 := Hd (show O ++ [s.extract f s.size] = X by
    obtain rfl : i = s.size := by omega
    rw [← hT.out, show s.data.toList.drop s.size = [] from List.drop_eq_nil_of_le (Nat.le_of_eq (Lib.size_eq s).symm), spl_end, txt_sub]
    rfl)
   obtain ⟨q, hq⟩ : ∃ q, q = s.extract f s.size := ⟨_, rfl⟩
   rw [← hq] at HT2
   have HQS := Hd (show q.size ≤ maxLen by rw [hq, ByteArray.size_extract]; unfold maxLen; omega)
   have HQ := Hd hq.symm
   clear hT hq
   go_wp2_with (at_builtin; rw [HQ.out]; refine wpList_push rfl rfl slStrP (by show (0 : Nat) < 1; omega) (hG.out.alloc _) rfl (ad := ⟨wb.heap.size, 0, none⟩) rfl (cs := [.string q]) (y := q) (lx := wb.heap.size) (hx' := wb.heap.size) ?d1 (It.flat (z := true) (w0 := wb) (fp := []) ⟨rfl, HQS.out, rfl⟩) sB (.inl (Nat.le_refl _)) mxT omT ?d2 ?_)
   case d2 => omega
   intro v' w1 hG1 _ hb1
   have HG := Hd (show Ow w.heap.size w1.heap.size w1 [v'] X by rw [← HT2.out]; exact hG1.ow (Nat.le_refl _) (Nat.le_refl _))
   have hB1 : Below w.heap.size w w1 := Below.trans (hbb.alloc sB _) hb1
   clear hG hG1 hb1
   go_wp2
   go_ret
   exact ⟨_, rfl, HG.out, hB1⟩
theorem pre2 (s : ByteArray) (h : 1 < s.size) (a b : UInt8) : ((s.extract 0 2).toList == [a, b]) = Lib.hasPrefix s.data.toList [a, b] := by
 rw [Lib.extract_toList]
 obtain ⟨⟨l⟩⟩ := s
 match l, h with
 | x :: y :: r, _ =>
   rw [Bool.eq_iff_iff]
   simp only [Lib.hasPrefix, List.isPrefixOf, Bool.and_eq_true, beq_iff_eq, and_true]
   simp
   constructor <;> (rintro ⟨rfl, rfl⟩; exact ⟨rfl, rfl⟩)
 | [x], h => simp [ByteArray.size] at h
 | [], h => simp [ByteArray.size] at h
theorem pre2_no (s : ByteArray) (h : ¬ 1 < s.size) (a b : UInt8) : Lib.hasPrefix s.data.toList [a, b] = false := by
 obtain ⟨⟨l⟩⟩ := s
 match l, h with
 | x :: y :: r, h => simp [ByteArray.size] at h
 | [x], h => simp [Lib.hasPrefix, List.isPrefixOf]
 | [], h => simp [Lib.hasPrefix, List.isPrefixOf]
theorem sub_from (s : ByteArray) (a : Nat) : s.extract a s.size = txt (s.data.toList.drop a) := by
 rw [txt_sub, List.take_of_length_le (by rw [List.length_drop, ← Lib.size_eq]; omega)]
set_option maxRecDepth 20000 in
theorem cutS_any (w : World) (s : ByteArray) (hs : s.size ≤ maxLen) (e : Int) (r : ByteArray) (he : e = (cutE s.data.toList).1) (hr : r = txt (cutE s.data.toList).2) :
  Calls Tryz.prog 174 #[.string s] w (PostV w (.tuple #[.int .i64 e, .string r])) := by
 unfold maxLen at hs
 by_cases h1 : 1 < s.size
 ·have hI : (1 : Int) < (s.size : Int) := by omega
  have p1 := pre2 s h1 109 58
  have p2 := pre2 s h1 119 58
  have e1 := sub_from s 2
  have h2 : (2 : Int) ≤ (s.size : Int) := by omega
  rcases Bool.eq_false_or_eq_true (Lib.hasPrefix s.data.toList [109, 58]) with c1 | c1
  ·obtain rfl : e = 1 := by rw [he, cutE, if_pos c1]
   obtain rfl : r = txt (s.data.toList.drop 2) := by rw [hr, cutE, if_pos c1]
   rw [← e1]
   rw [c1] at p1
   clear he hr p2 c1 e1
   go_enter Tryz.func174, Tryz.ntmps174
   go_upto_region 2 with fail
   refine wp_region_held_drew (S := (fun w' => True)) krT ?_ (fun hHeld => ?_)
   ·exact kpT
   refine tkA 0 ?_
   try simp only [cD]
   refine tkA 2 ?_
   try simp only [cD]
   refine tkA 1 ?_
   try simp only [cD]
   refine tkA 3 ?_
   try simp only [cD]
   refine wdT ?_
   go_wp2
   go_ret2
   exact ⟨rfl, bwT⟩
  rcases Bool.eq_false_or_eq_true (Lib.hasPrefix s.data.toList [119, 58]) with c2 | c2
  ·obtain rfl : e = 2 := by rw [he, cutE, if_neg (by rw [c1]; decide), if_pos c2]
   obtain rfl : r = txt (s.data.toList.drop 2) := by rw [hr, cutE, if_neg (by rw [c1]; decide), if_pos c2]
   rw [← e1]
   rw [c1] at p1
   rw [c2] at p2
   clear he hr c1 c2 e1
   go_enter Tryz.func174, Tryz.ntmps174
   go_upto_region 4 with fail
   refine wp_region_held_drew (S := (fun w' => True)) krT ?_ (fun hHeld => ?_)
   ·exact kpT
   refine tkA 0 ?_
   try simp only [cD]
   refine tkA 2 ?_
   try simp only [cD]
   refine tkA 1 ?_
   try simp only [cD]
   refine tkA 3 ?_
   try simp only [cD]
   refine wdT ?_
   go_wp2
   go_ret2
   exact ⟨rfl, bwT⟩
  ·obtain rfl : e = 0 := by rw [he, cutE, if_neg (by rw [c1]; decide), if_neg (by rw [c2]; decide)]
   obtain rfl : r = s := by rw [hr, cutE, if_neg (by rw [c1]; decide), if_neg (by rw [c2]; decide)]; exact txt_list _
   rw [c1] at p1
   rw [c2] at p2
   clear he hr c1 c2 e1
   go_enter Tryz.func174, Tryz.ntmps174
   go_wp2
   go_ret2
   exact ⟨rfl, bwT⟩
 ·have hI : ¬ (1 : Int) < (s.size : Int) := by omega
  have c1 := pre2_no s h1 109 58
  have c2 := pre2_no s h1 119 58
  obtain rfl : e = 0 := by rw [he, cutE, if_neg (by rw [c1]; decide), if_neg (by rw [c2]; decide)]
  obtain rfl : r = s := by rw [hr, cutE, if_neg (by rw [c1]; decide), if_neg (by rw [c2]; decide)]; exact txt_list _
  clear he hr c1 c2
  go_enter Tryz.func174, Tryz.ntmps174
  go_wp2
  go_ret2
  exact ⟨rfl, bwT⟩
def kndK (c : UInt8) : Nat → Int
 | 0 => 0
 | k + 1 => if lts[k]? = some c then (k : Int) + 1 else kndK c k
theorem kndK_all (c : UInt8) : kndK c 8 = knd c := by
 have h : ∀ n : Fin 256, kndK ⟨⟨n⟩⟩ 8 = knd ⟨⟨n⟩⟩ := by decide +kernel
 obtain ⟨⟨n⟩⟩ := c
 exact h n
theorem lettersS_x (w : World) (L : ByteArray) (hL : L = ⟨#[70, 77, 66, 90, 83, 68, 72, 87]⟩) : Calls Tryz.prog 180 #[] w (PostV w (.string L)) := by
 subst hL
 exact lettersS_any w
theorem dot_eq (s : ByteArray) : (s.toList == [46]) = decide (s.data.toList = [46]) := by
 rw [ByteArray.toList_eq, Bool.eq_iff_iff]; simp
theorem readG_step {l : Bs} {i : Nat} {c : UInt8} (h : l[i]? = some c) {a : Int} {o : List Stp} (ho : o.length < 20) : readG (l.drop i) a o = if c = 101 then readG (l.drop (i + 1)) 1 o else if c = 121 then readG (l.drop (i + 1)) 2 o else readG (l.drop (i + 1)) 0 (o ++ [(knd c, a)]) := by
 obtain ⟨hi, e⟩ := List.getElem?_eq_some_iff.1 h
 rw [List.drop_eq_getElem_cons hi, e, readG, if_pos ho]
set_option maxRecDepth 20000 in
theorem readS_any (w : World) (s : ByteArray) (hs : s.size ≤ maxLen) (X : List Stp) (hX : X = readS s.data.toList) :
  Calls Tryz.prog 175 #[.string s] w (PostOw w X) := by
 unfold maxLen at hs
 have hd := dot_eq s
 by_cases h46 : s.data.toList = [46]
 ·obtain rfl : X = [] := by rw [hX, readS, if_pos h46]
  rw [decide_eq_true h46] at hd
  clear hX
  go_enter Tryz.func175, Tryz.ntmps175
  go_wp2
  go_ret
  exact ⟨_, rfl, (GL.lit0 (α := Stp) true _ _ _ _ (Nat.le_refl _)).top.ow (Nat.le_refl _) (Nat.le_refl _), bwT⟩
 rw [decide_eq_false h46] at hd
 have HX := Hd (show readG (s.data.toList.drop 0) 0 [] = X by rw [hX, readS, if_neg h46]; rfl)
 obtain ⟨L, hL⟩ : ∃ L : ByteArray, L = ⟨#[70, 77, 66, 90, 83, 68, 72, 87]⟩ := ⟨_, rfl⟩
 have hLs : L.size = 8 := by rw [hL]; rfl
 have HL := Hd hL
 have HLT := Hd (show L.data.toList = lts by rw [hL]; rfl)
 clear hX hL h46
 go_enter Tryz.func175, Tryz.ntmps175
 go_wp2
 go_loopw [3, 4, 5, 6, 7] (fun s3 s4 s5 _ _ wr => ∃ (i : Nat) (age : Int) (O : List Stp), i ≤ s.size ∧ O.length ≤ i ∧ O.length ≤ 20 ∧ (0 ≤ age ∧ age ≤ 2) ∧ s5 = .int .i64 i ∧ s4 = .int .i64 age ∧ Hid (readG (s.data.toList.drop i) age O = X) ∧ Hid (GL true w.heap.size w.heap.size wr.heap.size wr 126 s3 O) ∧ Below w.heap.size w wr) (fun _ _ s5 _ _ _ => s.size - (intOf s5).toNat)
 case atStart => exact ⟨0, 0, [], Nat.zero_le _, Nat.le_refl _, by simp, by omega, rfl, rfl, HX, Hd (GL.lit0 _ _ _ _ _ (Nat.le_refl _)).top, (Below.refl _ _).alloc (Nat.le_refl _) _⟩
 case round =>
  obtain ⟨wb, hwb⟩ : ∃ wm : World, wm = wr := ⟨_, rfl⟩
  subst hwb
  obtain ⟨i, age, O, hi, hO, hO2, hag, rfl, rfl, hT, hG, hbb⟩ := hrel
  have sB := hbb.size
  obtain ⟨oao, ocap, rfl, -, -⟩ := hG.out.len
  by_cases hlt : i < s.size
  rotate_left
  ·have hI : ¬ (i : Int) < (s.size : Int) := by omega
   have HF := Hd (show O = X by
    rw [← hT.out, show s.data.toList.drop i = [] from List.drop_eq_nil_of_le (by rw [← Lib.size_eq]; omega)]; rfl)
   have HO := Hd (hG.out.ow (l0 := w.heap.size) (Nat.le_refl _) (Nat.le_refl _))
   clear hT hG
   go_wp2
   go_ret
   exact ⟨_, rfl, by rw [← HF.out]; exact HO.out, hbb⟩
  have hI : (i : Int) < (s.size : Int) := by omega
  by_cases h20 : O.length < 20
  rotate_left
  ·have h20I : ¬ (O.length : Int) < 20 := by omega
   have HF := Hd (show O = X by rw [← hT.out, readG_out _ _ _ omT])
   have HO := Hd (hG.out.ow (l0 := w.heap.size) (Nat.le_refl _) (Nat.le_refl _))
   clear hT hG
   go_wp2
   go_ret
   exact ⟨_, rfl, by rw [← HF.out]; exact HO.out, hbb⟩
  have h20I : (O.length : Int) < 20 := by omega
  have hc := byte_at s hlt
  have HS := Hd (readG_step hc (a := age) h20)
  obtain ⟨c, hcc⟩ : ∃ c, c = s[i]'hlt := ⟨_, rfl⟩
  rw [← hcc] at HS hc
  by_cases c1 : c = 101
  ·have k1 : (((s[i]'hlt).toNat : Int) == 101) = true := by rw [← hcc, c1]; rfl
   have HT2 := Hd (show readG (s.data.toList.drop (i + 1)) 1 O = X by rw [← hT.out, HS.out, if_pos c1])
   clear HS hT hc hcc c1
   go_wp2
   go_roundw
   case rel => exact ⟨i + 1, 1, O, by omega, by omega, hO2, by omega, by go_num, rfl, HT2, hG, hbb⟩
   case measure => simp [intOf]; omega
  have k1 : (((s[i]'hlt).toNat : Int) == 101) = false := by rw [← hcc, beq_eq_false_iff_ne]; intro e; exact c1 (UInt8.toNat.inj (by have : (101 : UInt8).toNat = 101 := rfl; omega))
  by_cases c2 : c = 121
  ·have k2 : (((s[i]'hlt).toNat : Int) == 121) = true := by rw [← hcc, c2]; rfl
   have HT2 := Hd (show readG (s.data.toList.drop (i + 1)) 2 O = X by rw [← hT.out, HS.out, if_neg c1, if_pos c2])
   clear HS hT hc hcc c1 c2 k1
   go_wp2
   go_roundw
   case rel => exact ⟨i + 1, 2, O, by omega, by omega, hO2, by omega, by go_num, rfl, HT2, hG, hbb⟩
   case measure => simp [intOf]; omega
  have k2 : (((s[i]'hlt).toNat : Int) == 121) = false := by rw [← hcc, beq_eq_false_iff_ne]; intro e; exact c2 (UInt8.toNat.inj (by have : (121 : UInt8).toNat = 121 := rfl; omega))
  have HT2 := Hd (show readG (s.data.toList.drop (i + 1)) 0 (O ++ [(kndK c 8, age)]) = X by rw [← hT.out, HS.out, if_neg c1, if_neg c2, kndK_all])
  have HKR := Hd (show 0 ≤ kndK c 8 ∧ kndK c 8 ≤ 8 by rw [kndK_all]; exact knd_range c)
  have HCC := Hd hcc
  clear HS hT hc hcc c1 c2
  go_wp2
  go_loopw [6, 7] (fun s6 s7 wk => ∃ k : Nat, k ≤ 8 ∧ s7 = .int .i64 k ∧ s6 = .int .i64 (kndK c k) ∧ Below wb.heap.size wb wk) (fun _ s7 _ => 8 - (intOf s7).toNat)
  case atStart => exact ⟨0, Nat.zero_le _, rfl, rfl, Below.refl _ _⟩
  case round =>
   obtain ⟨wk, hwk⟩ : ∃ wm : World, wm = wr := ⟨_, rfl⟩
   subst hwk
   obtain ⟨k, hk, rfl, rfl, hbk⟩ := hrel
   have sK := hbk.size
   by_cases hk8 : k < 8
   ·have hkI : (k : Int) < 8 := by omega
    have hkL : k < L.size := by omega
    have hkLI : (k : Int) < (L.size : Int) := by omega
    have hLk := byte_at L hkL
    by_cases e : L[k]'hkL = s[i]'hlt
    ·have e1 : (((L[k]'hkL).toNat : Int) == ((s[i]'hlt).toNat : Int)) = true := by rw [e]; exact beq_self_eq_true _
     have HN := Hd (show kndK c (k + 1) = (k : Int) + 1 by rw [kndK, if_pos (by rw [← HLT.out, hLk, e, HCC.out])])
     clear hLk e
     go_upto_region 17 with fail
     refine wp_region_held_drew (S := (fun w' => True)) krT ?_ (fun hHeld => ?_)
     ·exact kpT
     refine tkA 1 ?_
     try simp only [cD]
     refine tkA 3 ?_
     try simp only [cD]
     refine tkA 4 ?_
     try simp only [cD]
     refine tkA 5 ?_
     try simp only [cD]
     refine rd1 0 fun K hK => ?_
     go_simp
     refine (lettersS_x _ L HL.out).mono ?_
     rintro e2 w2 ⟨rfl, hb2⟩
     have hp2 : Below wb.heap.size wb w2 := Below.trans hbk (Below.trans (show Below wb.heap.size wk _ from bwT) (hb2.mono szT))
     have hS2 : True := trivial
     clear hb2
     refine hK.out _ _ kpT fun hHeld => ?_
     clear hK K
     try simp only [cD]
     refine tkA 2 ?_
     try simp only [cD]
     refine tkA 6 ?_
     try simp only [cD]
     refine wdT ?_
     go_wp2
     go_roundw
     case rel => exact ⟨k + 1, by omega, by go_num, by rw [HN.out], hp2⟩
     case measure => simp [intOf]; omega
    ·have e1 : (((L[k]'hkL).toNat : Int) == ((s[i]'hlt).toNat : Int)) = false := by
      rw [beq_eq_false_iff_ne]; intro h; exact e (UInt8.toNat.inj omT)
     have HN := Hd (show kndK c (k + 1) = kndK c k by rw [kndK, if_neg (by rw [← HLT.out, hLk, HCC.out]; intro h; exact e (Option.some.inj h))])
     clear hLk e
     go_upto_region 17 with fail
     refine wp_region_held_drew (S := (fun w' => True)) krT ?_ (fun hHeld => ?_)
     ·exact kpT
     refine tkA 1 ?_
     try simp only [cD]
     refine tkA 3 ?_
     try simp only [cD]
     refine tkA 4 ?_
     try simp only [cD]
     refine tkA 5 ?_
     try simp only [cD]
     refine rd1 0 fun K hK => ?_
     go_simp
     refine (lettersS_x _ L HL.out).mono ?_
     rintro e2 w2 ⟨rfl, hb2⟩
     have hp2 : Below wb.heap.size wb w2 := Below.trans hbk (Below.trans (show Below wb.heap.size wk _ from bwT) (hb2.mono szT))
     have hS2 : True := trivial
     clear hb2
     refine hK.out _ _ kpT fun hHeld => ?_
     clear hK K
     try simp only [cD]
     refine tkA 2 ?_
     try simp only [cD]
     refine tkA 6 ?_
     try simp only [cD]
     refine wdT ?_
     go_wp2
     go_roundw
     case rel => exact ⟨k + 1, by omega, by go_num, by rw [HN.out], hp2⟩
     case measure => simp [intOf]; omega
   ·obtain rfl : k = 8 := by omega
    obtain ⟨q, hq⟩ : ∃ q, q = kndK c 8 := ⟨_, rfl⟩
    rw [← hq] at HT2 HKR
    have HQ := Hd hq.symm
    have hqr := HKR.out
    have HG2 := Hd (hG.out.below hbk)
    have hBk : Below w.heap.size w wk := hbb.trans (hbk.mono sB)
    have sBk := hBk.size
    clear hq hG
    rw [HQ.out]
    go_wp2_with (at_builtin; refine wpList_push rfl rfl slStep (by show (0 : Nat) < 2; omega) (HG2.out.top.alloc _) rfl (ad := ⟨wk.heap.size, 0, none⟩) rfl (cs := [.int .i64 q, .int .i64 age]) (y := (q, age)) (lx := wk.heap.size) (hx' := wk.heap.size) ?c1 (It.flat (z := true) (w0 := wk) (fp := []) ?c3) sBk (.inl (Nat.le_refl _)) mxT omT ?c2 ?_)
    case c1 =>
     intro j c hj
     match j, hj with
     | 0, hj => simp at hj; subst hj; simp [Addr.add]
     | 1, hj => simp at hj; subst hj; simp [Addr.add]
    case c2 => simp; omega
    case c3 => exact repStp_mk (by unfold I64; omega) (by unfold I64; omega)
    intro v' w1 hG1 _ hb1
    have HG := Hd hG1
    have hB1 : Below w.heap.size w w1 := Below.trans (hBk.alloc sBk _) hb1
    have hOl : (O ++ [(q, age)]).length ≤ i + 1 := by simp; omega
    have hOl2 : (O ++ [(q, age)]).length ≤ 20 := by simp; omega
    clear HG2 hG1 hb1
    go_wp2
    go_roundw
    case rel => exact ⟨i + 1, 0, O ++ [(q, age)], by omega, hOl, hOl2, by omega, by go_num, rfl, HT2, HG, hB1⟩
    case measure => simp [intOf]; omega
end
section
theorem cutE_len (l : Bs) : (cutE l).2.length ≤ l.length := by
 unfold cutE
 split
 ·simp
 ·split
  ·simp
  ·exact Nat.le_refl _
theorem cutE_rng (l : Bs) : 0 ≤ (cutE l).1 ∧ (cutE l).1 ≤ 2 := by
 unfold cutE
 split
 ·simp
 ·split
  ·simp
  ·simp
theorem nil_kin (lo hi : Nat) (w : World) : Ow lo hi w [.int .i64 0, .slice none 0 0] ((0, []) : Kin) := Ow.kin_mk (by unfold I64; omega) (Ow.nil _ _ _)
theorem formatS_x {z : Bool} {lo hi : Nat} (w : World) (a b : Value) (t : Kin) (h : Rd z lo hi w [a, b] t) (K : ByteArray) (hK : K = kinTxt t) : Calls Tryz.prog 176 #[.agg #[a, b]] w (PostV w (.string K)) := by
 subst hK
 exact formatS_any w a b t h
set_option maxRecDepth 20000 in
theorem parseTypeS_any (w : World) (s : ByteArray) (hs : s.size ≤ maxLen) (O : Option Kin) (hO : O = typeS s.data.toList) :
  Calls Tryz.prog 154 #[.string s] w (PostOw2B w (O.getD (0, [])) O.isSome) := by
 obtain ⟨e, he⟩ : ∃ e, e = (cutE s.data.toList).1 := ⟨_, rfl⟩
 obtain ⟨r, hr⟩ : ∃ r, r = txt (cutE s.data.toList).2 := ⟨_, rfl⟩
 have hrs : r.size ≤ maxLen := by rw [hr, size_txt]; have := cutE_len s.data.toList; rw [← Lib.size_eq] at this; omega
 have her := cutE_rng s.data.toList
 rw [← he] at her
 obtain ⟨X, hX⟩ : ∃ X, X = readS r.data.toList := ⟨_, rfl⟩
 have hX2 : X = readS (cutE s.data.toList).2 := by rw [hX, hr, list_txt]
 obtain ⟨r1, hlet_r1⟩ : ∃ r, r = isKin (e, X) := ⟨_, rfl⟩
 have H1 := Hd hlet_r1
 clear hlet_r1
 obtain ⟨K, hK⟩ : ∃ K, K = kinTxt (e, X) := ⟨_, rfl⟩
 have HO := Hd (show O = if r1 = true ∧ K = s then some (e, X) else none by rw [hO, typeS, ← hX2, ← he, ← H1.out, ← hK, txt_list])
 have HE := Hd he
 have HR := Hd hr
 have HX := Hd hX
 have HK := Hd hK
 clear hO hX2 he hr hX hK
 have HI := Hd (show I64 e by unfold I64; omega)
 go_enter Tryz.func154, Tryz.ntmps154
 go_wp2_with fail
 refine (cutS_any _ s hs e r HE.out HR.out).mono ?_
 rintro e1 w1 ⟨rfl, hbw1⟩
 have hpw1 : Below w.heap.size w w1 := Below.after bwT hbw1 szT
 have sw1 := hpw1.size
 have hBw1 : Below w.heap.size w w1 := hpw1
 have l_r : w.heap.size < w1.heap.size := by have := hbw1.size; simp at this; omega
 have q_r0 : w1.cell? ⟨w.heap.size, 0, none⟩ = some (.int .i64 0) := oldc hbw1 ltT sgT
 have q_r1 : w1.cell? ⟨w.heap.size, 1, none⟩ = some (.slice none 0 0) := oldc hbw1 ltT sgT
 have f_r : ∀ o, w1.frozen? ⟨w.heap.size, o, none⟩ = false := fun o => (hbw1.frozen (p := ⟨w.heap.size, o, none⟩) ltT).trans sgT
 clear hbw1 hpw1
 have hl1 : w.heap.size < (w1).heap.size := l_r
 go_wp2_with fail
 refine (readS_any _ r hrs X HX.out).mono ?_
 rintro e2 w2 ⟨xv, rfl, hox, hbw2⟩
 have hpw2 : Below w1.heap.size w1 w2 := Below.after bwT hbw2 szT
 have sw2 := hpw2.size
 have hBw2 : Below w.heap.size w w2 := Below.trans hBw1 (Below.mono hpw2 hBw1.size)
 replace q_r0 := oldc hpw2 l_r q_r0
 replace q_r1 := oldc hpw2 l_r q_r1
 replace f_r : ∀ o, w2.frozen? ⟨w.heap.size, o, none⟩ = false := fun o => (hpw2.frozen (p := ⟨w.heap.size, o, none⟩) l_r).trans (f_r o)
 replace l_r := ltL l_r sw2
 clear hbw2 hpw2
 obtain ⟨xao, xn, xcap, rfl, hxn, -⟩ := hox.rd.shape
 subst hxn
 go_wp2_with fail
 refine (isTypeS_b _ _ _ (e, X) (Rd.kin_mk HI.out (hox.rd.below bwT)) r1 H1.out).mono ?_
 rintro e3 w3 ⟨rfl, hbw3⟩
 have hpw3 : Below w2.heap.size w2 w3 := Below.after bwT hbw3 szT
 have sw3 := hpw3.size
 have hBw3 : Below w.heap.size w w3 := Below.trans hBw2 (Below.mono hpw3 hBw2.size)
 replace q_r0 := oldc hpw3 l_r q_r0
 replace q_r1 := oldc hpw3 l_r q_r1
 replace f_r : ∀ o, w3.frozen? ⟨w.heap.size, o, none⟩ = false := fun o => (hpw3.frozen (p := ⟨w.heap.size, o, none⟩) l_r).trans (f_r o)
 replace l_r := ltL l_r sw3
 have l_t : w2.heap.size < w3.heap.size := by have := hbw3.size; simp at this; omega
 have q_t0 : w3.cell? ⟨w2.heap.size, 0, none⟩ = some (.int .i64 e) := oldc hbw3 ltT sgT
 have q_t1 : w3.cell? ⟨w2.heap.size, 1, none⟩ = some (.slice xao X.length xcap) := oldc hbw3 ltT sgT
 replace hox := Ow.below hox hpw3
 clear hbw3 hpw3
 cases r1
 ·obtain rfl : O = none := HO.out
  clear HO
  go_wp2
  exact bodyPost_ret (v := .tuple #[.agg #[.int .i64 0, .slice none 0 0], .bool false]) (by simp [results, go_sem, *]) rfl ⟨_, _, rfl, nil_kin _ _ _, bwT⟩
 go_wp2_with fail
 refine (formatS_x _ _ _ (e, X) (Rd.kin_mk HI.out (hox.rd.below bwT)) K HK.out).mono ?_
 rintro e4 w4 ⟨rfl, hbw4⟩
 have hpw4 : Below w3.heap.size w3 w4 := Below.after bwT hbw4 szT
 have sw4 := hpw4.size
 have hBw4 : Below w.heap.size w w4 := Below.trans hBw3 (Below.mono hpw4 hBw3.size)
 replace q_r0 := oldc hpw4 l_r q_r0
 replace q_r1 := oldc hpw4 l_r q_r1
 replace q_t0 := oldc hpw4 l_t q_t0
 replace q_t1 := oldc hpw4 l_t q_t1
 replace f_r : ∀ o, w4.frozen? ⟨w.heap.size, o, none⟩ = false := fun o => (hpw4.frozen (p := ⟨w.heap.size, o, none⟩) l_r).trans (f_r o)
 replace l_r := ltL l_r sw4
 replace l_t := ltL l_t sw4
 replace hox := Ow.below hox hpw4
 clear hbw4 hpw4
 by_cases hks : K = s
 ·subst hks
  obtain rfl : O = some (e, X) := by have := HO.out; rw [this]; simp
  have q0 : (K.toList == K.toList) = true := by simp
  have HOX := Hd (Ow.kin_mk HI.out hox)
  clear HO
  go_wp2
  exact bodyPost_ret (v := .tuple #[.agg #[.int .i64 e, .slice xao X.length xcap], .bool true]) (by simp [results, go_sem, *]) rfl ⟨_, _, rfl, (HOX.out.keep zmT).mono omT soT, bwT⟩
 ·obtain rfl : O = none := by have := HO.out; rw [this]; exact if_neg (fun h => hks h.2)
  have q0 : (K.toList == s.toList) = false := by rw [text_eq, decide_eq_false hks]
  clear HO hks
  go_wp2
  exact bodyPost_ret (v := .tuple #[.agg #[.int .i64 0, .slice none 0 0], .bool false]) (by simp [results, go_sem, *]) rfl ⟨_, _, rfl, nil_kin _ _ _, bwT⟩
end
section
def rul0 : Rul := (⟨#[]⟩, 0, 0, [], [])
def PostRB (w : World) (O : Option Rul) (e : Ending) (w' : World) : Prop := ∃ u0 u1 u2 u3 u4, e = .returned (.tuple #[.agg #[u0, u1, u2, u3, u4], .bool O.isSome]) ∧ Ow w.heap.size w'.heap.size w' [u0, u1, u2, u3, u4] (O.getD rul0) ∧ Below w.heap.size w w'
theorem ruleS_no {l : Bs} (h : (spl 32 l).length ≠ 4) : ruleS l = none := by
 unfold ruleS
 split
 ·rename_i e; rw [e] at h; exact absurd rfl h
 ·rfl
theorem ruleS_four {l a b c d : Bs} (h : spl 32 l = [a, b, c, d]) : ruleS l = ruleS4 l a b d := by
 unfold ruleS
 rw [h]
theorem four_of {α : Type} {l : List α} (h : l.length = 4) : ∃ a b c d, l = [a, b, c, d] := by
 match l, h with
 | [a, b, c, d], _ => exact ⟨a, b, c, d, rfl⟩
theorem map_txt {l : List Bs} {xs : List ByteArray} (h : l.map txt = xs) : l = xs.map (fun x => x.data.toList) := by
 subst h
 rw [List.map_map]
 conv => lhs; rw [← List.map_id l]
 exact List.map_congr_left fun x _ => (list_txt x).symm
theorem txt_init (s : ByteArray) : s.extract 0 (s.size - 1) = txt s.data.toList.dropLast := by
 rw [txt_sub, List.dropLast_eq_take, ← Lib.size_eq]; rfl
theorem ruleS1_nil {u : ByteArray} (h : u.size = 0) : ruleS1 u.data.toList = (0, u.data.toList) := by
 have : u.data.toList = [] := List.eq_nil_of_length_eq_zero (by rw [← Lib.size_eq]; exact h)
 rw [this]; rfl
theorem head_eq {u : ByteArray} (h : 0 < u.size) : u.data.toList.head? = some (u[0]'h) := by
 rw [List.head?_eq_getElem?]; exact byte_at u h
theorem last_eq {u : ByteArray} (h : u.size - 1 < u.size) : u.data.toList.getLast? = some (u[u.size - 1]'h) := by
 rw [List.getLast?_eq_getElem?, ← Lib.size_eq]; exact byte_at u h
theorem ruleS1_one {u : ByteArray} (h : 0 < u.size) (e : u[0]'h = 94) : ruleS1 u.data.toList = (1, (u.extract 1 u.size).data.toList) := by
 rw [ruleS1, head_eq h, e, if_pos rfl, sub_from, list_txt]
theorem ruleS1_two {u : ByteArray} (h : 0 < u.size) (e : ¬ u[0]'h = 94) (h1 : u.size - 1 < u.size) (e1 : u[u.size - 1]'h1 = 36) : ruleS1 u.data.toList = (2, (u.extract 0 (u.size - 1)).data.toList) := by
 rw [ruleS1, head_eq h, if_neg (by intro x; exact e (Option.some.inj x)), last_eq h1, e1, if_pos rfl, txt_init, list_txt]
theorem ruleS1_zero {u : ByteArray} (h : 0 < u.size) (e : ¬ u[0]'h = 94) (h1 : u.size - 1 < u.size) (e1 : ¬ u[u.size - 1]'h1 = 36) : ruleS1 u.data.toList = (0, u.data.toList) := by
 rw [ruleS1, head_eq h, if_neg (by intro x; exact e (Option.some.inj x)), last_eq h1, if_neg (by intro x; exact e1 (Option.some.inj x))]
theorem Ow.rul_mk {lo hi lo' hi' l h : Nat} {w : World} {nm : ByteArray} {sx pl : Int} {fr tw : List Stp} {vfr vtw : Value} (hnm : nm.size ≤ maxLen) (hsx : I64 sx) (hpl : I64 pl) (h1 : Ow lo hi w [vfr] fr) (h2 : Ow lo' hi' w [vtw] tw) (hd : hi ≤ lo' ∨ hi' ≤ lo) (l1 : l ≤ lo) (l2 : l ≤ lo') (u1 : hi ≤ h) (u2 : hi' ≤ h) : Ow l h w [.string nm, .int .i64 sx, .int .i64 pl, vfr, vtw] ((nm, sx, pl, fr, tw) : Rul) := by
 obtain ⟨f1, a1, b1, n1⟩ := h1
 obtain ⟨f2, a2, b2, n2⟩ := h2
 refine ⟨f1 ++ f2, dRul_mk hnm hsx hpl a1 a2, fun b hb => ?_, ?_⟩
 ·rcases List.mem_append.1 hb with hb | hb
  ·have := b1 b hb; omega
  ·have := b2 b hb; omega
 ·rw [List.nodup_append]
  refine ⟨n1, n2, fun i hi j hj e => ?_⟩
  have := b1 i hi
  have := b2 j hj
  omega
theorem nil_rul (lo hi : Nat) (w : World) : Ow lo hi w [.string ⟨#[]⟩, .int .i64 0, .int .i64 0, .slice none 0 0, .slice none 0 0] rul0 :=
 ⟨[], dRul_zero w, fun _ h => (by cases h), List.nodup_nil⟩
theorem Rd.strs {z : Bool} {lo hi : Nat} {w : World} {xs : List ByteArray} {ao : Option Addr} {n cap : Nat} (h : Rd z lo hi w [.slice ao n cap] xs) (hn : 0 < n) :
  ∃ b off, ao = some ⟨b, off, none⟩ ∧ b < w.heap.size ∧ ∀ i x, xs[i]? = some x → w.cell? ⟨b, off + i, none⟩ = some (.string x) ∧ x.size ≤ maxLen := by
 obtain ⟨b, off, x, rfl, -, -, -, -, -, hb, -⟩ := h.str_at hn
 refine ⟨b, off, rfl, hb, fun i x hx => ?_⟩
 obtain ⟨_, _, _, e, e2, -⟩ := h.shape
 simp only [Value.slice.injEq] at e
 obtain ⟨-, rfl, -⟩ := e
 have hi : i < xs.length := (List.getElem?_eq_some_iff.1 hx).1
 obtain ⟨b', off', x', e, h1, h2, h3, -⟩ := h.str_at (i := i) omT
 simp only [Option.some.injEq, Addr.mk.injEq] at e
 obtain ⟨rfl, rfl, -⟩ := e
 obtain rfl : x' = x := Option.some.inj (h1.out.symm.trans hx)
 exact ⟨h2, h3⟩
theorem formatRuleS_x {z : Bool} {lo hi : Nat} (w : World) (u0 u1 u2 u3 u4 : Value) (r : Rul) (h : Rd z lo hi w [u0, u1, u2, u3, u4] r) (R : ByteArray) (hR : R = ruleTxt r) : Calls Tryz.prog 184 #[.agg #[u0, u1, u2, u3, u4]] w (PostV w (.string R)) := formatRuleS_any w u0 u1 u2 u3 u4 r h R hR
set_option maxRecDepth 20000 in
theorem parseRuleS_any (w : World) (s : ByteArray) (hs : s.size ≤ 1099511627776) (O : Option Rul) (hO : O = ruleS s.data.toList) :
  Calls Tryz.prog 177 #[.string s] w (PostRB w O) := by
 obtain ⟨P, hP⟩ : ∃ P, P = (spl 32 s.data.toList).map txt := ⟨_, rfl⟩
 have HP := Hd hP
 have HO := Hd hO
 clear hP hO
 go_enter Tryz.func177, Tryz.ntmps177
 go_wp2_with fail
 refine (splitS_any _ s hs 32 32 rfl P HP.out).mono ?_
 rintro e5 w5 ⟨pv, rfl, hop, hbw5⟩
 have hpw5 : Below w.heap.size w w5 := Below.after bwT hbw5 szT
 have sw5 := hpw5.size
 have hBw5 : Below w.heap.size w w5 := hpw5
 have l_r : w.heap.size < w5.heap.size := by have := hbw5.size; simp at this; omega
 have q_r0 : w5.cell? ⟨w.heap.size, 0, none⟩ = some (.string ⟨#[]⟩) := oldc hbw5 ltT sgT
 have q_r1 : w5.cell? ⟨w.heap.size, 1, none⟩ = some (.int .i64 0) := oldc hbw5 ltT sgT
 have q_r2 : w5.cell? ⟨w.heap.size, 2, none⟩ = some (.int .i64 0) := oldc hbw5 ltT sgT
 have q_r3 : w5.cell? ⟨w.heap.size, 3, none⟩ = some (.slice none 0 0) := oldc hbw5 ltT sgT
 have q_r4 : w5.cell? ⟨w.heap.size, 4, none⟩ = some (.slice none 0 0) := oldc hbw5 ltT sgT
 have f_r : ∀ o, w5.frozen? ⟨w.heap.size, o, none⟩ = false := fun o => (hbw5.frozen (p := ⟨w.heap.size, o, none⟩) ltT).trans sgT
 clear hbw5 hpw5
 have hl1 := l_r
 obtain ⟨pao, pn, pcap, rfl, hpn, -⟩ := hop.rd.shape
 by_cases h4 : pn = 4
 rotate_left
 ·obtain rfl : O = none := by rw [HO.out]; exact ruleS_no (by have := congrArg List.length HP.out; rw [List.length_map] at this; omega)
  have h4I : ((pn : Int) == 4) = false := by rw [beq_eq_false_iff_ne]; omega
  clear HO HP hop
  go_wp2
  exact bodyPost_ret (v := .tuple #[.agg #[.string ⟨#[]⟩, .int .i64 0, .int .i64 0, .slice none 0 0, .slice none 0 0], .bool false]) (by simp [results, go_sem, *]) rfl ⟨_, _, _, _, _, rfl, nil_rul _ _ _, bwT⟩
 subst h4
 obtain ⟨A, B, C, D, rfl⟩ := four_of hpn
 obtain ⟨pb, po, rfl, lp, hcs⟩ := hop.rd.strs (by decide)
 obtain ⟨pA, hAs⟩ := hcs 0 A rfl
 obtain ⟨pB, hBs⟩ := hcs 1 B rfl
 obtain ⟨pD, hDs⟩ := hcs 3 D rfl
 have HR4 := Hd (show O = ruleS4 s.data.toList A.data.toList B.data.toList D.data.toList by rw [HO.out]; exact ruleS_four (map_txt HP.out.symm))
 clear HO HP hop hcs hpn
 unfold maxLen at hAs hBs hDs
 simp only [Nat.add_zero] at pA
 by_cases hA2 : 2 ≤ A.size
 rotate_left
 ·obtain rfl : O = none := by rw [HR4.out, ruleS4, if_neg]; intro h; have := h.1; rw [← Lib.size_eq] at this; omega
  have hI : (A.size : Int) < 2 := by omega
  clear HR4
  go_wp2
  exact bodyPost_ret (v := .tuple #[.agg #[.string ⟨#[]⟩, .int .i64 0, .int .i64 0, .slice none 0 0, .slice none 0 0], .bool false]) (by simp [results, go_sem, *]) rfl ⟨_, _, _, _, _, rfl, nil_rul _ _ _, bwT⟩
 have hA2I : ¬ (A.size : Int) < 2 := by omega
 by_cases hB1 : 1 ≤ B.size
 rotate_left
 ·obtain rfl : O = none := by rw [HR4.out, ruleS4, if_neg]; intro h; have := h.2.1; rw [← Lib.size_eq] at this; omega
  have hI : (B.size : Int) < 1 := by omega
  clear HR4
  go_wp2
  exact bodyPost_ret (v := .tuple #[.agg #[.string ⟨#[]⟩, .int .i64 0, .int .i64 0, .slice none 0 0, .slice none 0 0], .bool false]) (by simp [results, go_sem, *]) rfl ⟨_, _, _, _, _, rfl, nil_rul _ _ _, bwT⟩
 have hB1I : ¬ (B.size : Int) < 1 := by omega
 obtain ⟨W4, hW4⟩ : ∃ W : World, W = w5 := ⟨_, rfl⟩
 subst hW4
 have hB4 : Below w.heap.size w W4 := hBw5
 obtain ⟨nm, hnm⟩ : ∃ nm, nm = A.extract 0 (A.size - 1) := ⟨_, rfl⟩
 have HNM := Hd hnm.symm
 have hnms : nm.size ≤ 9223372036854775807 := by rw [hnm, ByteArray.size_extract]; omega
 have HNT := Hd (show nm = txt A.data.toList.dropLast by rw [hnm, txt_init])
 obtain ⟨XD, hXD⟩ : ∃ X, X = readS D.data.toList := ⟨_, rfl⟩
 have HXD := Hd hXD
 clear hnm hXD
 have hw : IntKind.i64.wrap ((A.size : Int) - 1) = (A.size : Int) - 1 := IntWalk.i64_in _ omT
 have hA3 : (1 : Int) ≤ (A.size : Int) := by omega
 have hA0 : (0 : Int) ≤ (A.size : Int) - 1 := by omega
 have hA1 : (A.size : Int) - 1 ≤ (A.size : Int) := by omega
 go_upto_region 4 with fail
 go_cut [5] (fun s5 wx => ∃ (g : Nat) (dv : Value), s5 = .pointer (some ⟨g, 0, none⟩) ∧ wx.cell? ⟨g, 0, none⟩ = some (.string nm) ∧ wx.cell? ⟨g, 1, none⟩ = some (.int .i64 0) ∧ wx.cell? ⟨g, 2, none⟩ = some (.int .i64 0) ∧ wx.cell? ⟨g, 3, none⟩ = some (.slice none 0 0) ∧ wx.cell? ⟨g, 4, none⟩ = some dv ∧ (∀ o, wx.frozen? ⟨g, o, none⟩ = false) ∧ W4.heap.size ≤ g ∧ g < wx.heap.size ∧ Hid (∃ lo hi, Ow lo hi wx [dv] XD ∧ W4.heap.size ≤ lo ∧ hi ≤ wx.heap.size ∧ (g < lo ∨ hi ≤ g)) ∧ Below W4.heap.size W4 wx)
 case first =>
  refine wp_region_held_drew (S := (fun w' => w'.cell? ⟨pb, po, none⟩ = some (.string A) ∧ w'.cell? ⟨pb, po + 3, none⟩ = some (.string D))) krT ?_ (fun hHeld => ?_)
  ·exact kpT
  refine tkA 0 ?_
  try simp only [cD]
  refine tkA 3 ?_
  try simp only [cD]
  refine tkA 9 ?_
  try simp only [cD]
  refine tkA 1 ?_
  try simp only [cD]
  refine tkA 4 ?_
  try simp only [cD]
  refine tkA 10 ?_
  try simp only [cD]
  refine tkA 2 ?_
  try simp only [cD]
  refine tkA 5 ?_
  try simp only [cD]
  refine tkA 11 ?_
  try simp only [cD]
  refine tkA 6 ?_
  try simp only [cD]
  refine tkA 7 ?_
  try simp only [cD]
  refine tkA 8 ?_
  try simp only [cD]
  refine rdy [12, 14] ?_
  refine rdR (fun K hK => ?_) ?_
  ·go_simp
   refine (readS_any _ D hDs XD HXD.out).mono ?_
   rintro e2 w2 ⟨dv, rfl, hod, hb2⟩
   have hp2 : Below W4.heap.size W4 w2 := Below.trans (show Below W4.heap.size W4 _ from bwT) (hb2.mono szT)
   have s2 := hp2.size
   have hS2 := aI (oldc hp2 lp pA) (oldc hp2 lp pD)
   obtain ⟨dao, dn, dcap, rfl, -⟩ := hod.rd.shape
   have HOD := Hd hod
   clear hb2 hod
   refine hK.out _ _ kpT fun hHeld => ?_
   clear hK K
   try simp only [cD]
   refine tkA 13 ?_
   try simp only [cD]
   refine rd1 14 fun K hK => ?_
   go_simp
   refine hK.out _ _ kpT fun hHeld => ?_
   clear hK K
   try simp only [cD]
   refine rd1 15 fun K hK => ?_
   go_simp
   refine hK.out _ _ kpT fun hHeld => ?_
   clear hK K
   try simp only [cD]
   refine wdT ?_
   have HA := HNM.out
   go_wp2_with fail
   go_meet
   exact ⟨w2.heap.size, _, rfl, (by rw [← HA]; simp [go_sem, *]), saT, saT, saT, saT, (fun o => by simp [go_sem, *]), s2, spT, Hd ⟨_, _, HOD.out.keep zmT, spT, spT, spT⟩, bwT⟩
  refine rdR (fun K hK => ?_) ?_
  ·go_simp
   refine hK.out _ _ kpT fun hHeld => ?_
   clear hK K
   try simp only [cD]
   refine rd1 12 fun K hK => ?_
   go_simp
   refine (readS_any _ D hDs XD HXD.out).mono ?_
   rintro e2 w2 ⟨dv, rfl, hod, hb2⟩
   have hp2 : Below W4.heap.size W4 w2 := Below.trans (show Below W4.heap.size W4 _ from bwT) (hb2.mono szT)
   have s2 := hp2.size
   have hS2 := aI (oldc hp2 lp pA) (oldc hp2 lp pD)
   obtain ⟨dao, dn, dcap, rfl, -⟩ := hod.rd.shape
   have y0 : w2.cell? ⟨W4.heap.size, 0, none⟩ = some (.string ⟨#[]⟩) := oldc hb2 spT sgT
   have y1 : w2.cell? ⟨W4.heap.size, 1, none⟩ = some (.int .i64 0) := oldc hb2 spT sgT
   have y2 : w2.cell? ⟨W4.heap.size, 2, none⟩ = some (.int .i64 0) := oldc hb2 spT sgT
   have y3 : w2.cell? ⟨W4.heap.size, 3, none⟩ = some (.slice none 0 0) := oldc hb2 spT sgT
   have y4 : w2.cell? ⟨W4.heap.size, 4, none⟩ = some (.slice none 0 0) := oldc hb2 spT sgT
   have yf : ∀ o, w2.frozen? ⟨W4.heap.size, o, none⟩ = false := (fun o => (hb2.frozen (p := ⟨W4.heap.size, o, none⟩) spT).trans sgT)
   have yl : W4.heap.size < w2.heap.size := (by have := hb2.size; simp at this; omega)
   have HOD := Hd hod
   clear hb2 hod
   refine hK.out _ _ kpT fun hHeld => ?_
   clear hK K
   try simp only [cD]
   refine tkA 13 ?_
   try simp only [cD]
   refine rd1 15 fun K hK => ?_
   go_simp
   refine hK.out _ _ kpT fun hHeld => ?_
   clear hK K
   try simp only [cD]
   refine wdT ?_
   have HA := HNM.out
   go_wp2_with fail
   go_meet
   exact ⟨W4.heap.size, _, rfl, (by rw [← HA]; simp [go_sem, *]), saT, saT, saT, saT, (fun o => by simp [go_sem, *]), Nat.le_refl _, soT, Hd ⟨_, _, HOD.out.keep zmT, spT, spT, spT⟩, bwT⟩
  exact AllReadyH.nil
 case rest =>
  obtain ⟨g, dv, rfl, y0, y1, y2, y3, y4, yf, hg4, lg, HOD, hbx⟩ := hcut
  obtain ⟨W5, hW5⟩ : ∃ W : World, W = wc := ⟨_, rfl⟩
  subst hW5
  have s45 := hbx.size
  have hB5 : Below w.heap.size w W5 := hB4.trans (hbx.mono hB4.size)
  have q_r0 := oldc hbx l_r q_r0
  have q_r1 := oldc hbx l_r q_r1
  have q_r2 := oldc hbx l_r q_r2
  have q_r3 := oldc hbx l_r q_r3
  have q_r4 := oldc hbx l_r q_r4
  have f_r : ∀ o, W5.frozen? ⟨w.heap.size, o, none⟩ = false := fun o => (hbx.frozen (p := ⟨w.heap.size, o, none⟩) l_r).trans (f_r o)
  have l_r5 : w.heap.size < W5.heap.size := by omega
  have pB := oldc hbx lp pB
  obtain ⟨e, he⟩ : ∃ e, e = (cutE B.data.toList).1 := ⟨_, rfl⟩
  obtain ⟨u, hu⟩ : ∃ u, u = txt (cutE B.data.toList).2 := ⟨_, rfl⟩
  have hus : u.size ≤ 9223372036854775807 := by rw [hu, size_txt]; have := cutE_len B.data.toList; rw [← Lib.size_eq] at this; omega
  have hul : u.data.toList = (cutE B.data.toList).2 := by rw [hu, list_txt]
  have her := cutE_rng B.data.toList
  rw [← he] at her
  have HI := Hd (show I64 e by unfold I64; omega)
  have HR5 := Hd (show ∀ (p : Int) (v : ByteArray) (XF : List Stp) (r1 : Bool) (K : ByteArray), ruleS1 u.data.toList = (p, v.data.toList) → XF = readS v.data.toList → r1 = isRule (nm, e, p, XF, XD) → K = ruleTxt (nm, e, p, XF, XD) → O = if r1 = true ∧ K = s then some (nm, e, p, XF, XD) else none by
   intro p v XF r1 K h1 h2 h3 h4
   rw [HR4.out, ruleS4]
   rw [← hul, h1, ← he]
   dsimp only
   rw [← h2, ← HXD.out, ← HNT.out, ← h3, ← h4, txt_list, ← Lib.size_eq, ← Lib.size_eq]
   by_cases hh : r1 = true ∧ K = s
   ·rw [if_pos ⟨hA2, hB1, hh⟩, if_pos hh]
   ·rw [if_neg (fun h => hh h.2.2), if_neg hh])
  have HE := Hd he
  have HU := Hd hu
  clear he hu hul hbx pA pD hA2I hB1I HR4 HXD HNT HNM hA3 hA0 hA1 hw
  go_wp2_with fail
  refine (cutS_any _ B mxT e u HE.out HU.out).mono ?_
  rintro e6 w6 ⟨rfl, hb6⟩
  have s56 := hb6.size
  have hB6 : Below w.heap.size w w6 := Below.after hB5 hb6 hB5.size
  have q_r0 := oldc hb6 l_r5 q_r0
  have q_r1 := oldc hb6 l_r5 q_r1
  have q_r2 := oldc hb6 l_r5 q_r2
  have q_r3 := oldc hb6 l_r5 q_r3
  have q_r4 := oldc hb6 l_r5 q_r4
  have f_r : ∀ o, w6.frozen? ⟨w.heap.size, o, none⟩ = false := fun o => (hb6.frozen (p := ⟨w.heap.size, o, none⟩) l_r5).trans (f_r o)
  have y0 := oldc hb6 lg y0
  have y1 := oldc hb6 lg y1
  have y2 := oldc hb6 lg y2
  have y3 := oldc hb6 lg y3
  have y4 := oldc hb6 lg y4
  have yf : ∀ o, w6.frozen? ⟨g, o, none⟩ = false := fun o => (hb6.frozen (p := ⟨g, o, none⟩) lg).trans (yf o)
  have l_g6 : g < w6.heap.size := by omega
  have l_r6 : w.heap.size < w6.heap.size := by omega
  have hgr : ¬ g = w.heap.size := by omega
  have hgr2 : ¬ w.heap.size = g := by omega
  obtain ⟨dlo, dhi, hod, hd1, hd2, hd3⟩ := HOD.out
  obtain ⟨dao, dn, dcap, rfl, -⟩ := hod.rd.shape
  have HOD6 := Hd (hod.below hb6)
  clear hod hb6 HOD HE HU pB
  by_cases h0 : u.size = 0
  ·have h0I : ¬ (0 : Int) < (u.size : Int) := by omega
   have HS1 := Hd (show ruleS1 u.data.toList = (0, u.data.toList) by rw [ruleS1_nil h0])
   have hvs : (u).size ≤ 9223372036854775807 := by omega
   obtain ⟨v, hv⟩ : ∃ v, v = u := ⟨_, rfl⟩
   subst hv
   obtain ⟨XF, hXF⟩ : ∃ X, X = readS v.data.toList := ⟨_, rfl⟩
   obtain ⟨r1, hr1⟩ : ∃ r, r = isRule (nm, e, 0, XF, XD) := ⟨_, rfl⟩
   obtain ⟨K, hK⟩ : ∃ K, K = ruleTxt (nm, e, 0, XF, XD) := ⟨_, rfl⟩
   have HO6 := Hd (HR5.out _ _ _ _ _ HS1.out hXF hr1 hK)
   have HXF := Hd hXF
   have H1 := Hd hr1
   have HK := Hd hK
   clear hXF hr1 hK HR5 HS1
   go_wp2_with fail
   refine (readS_any _ v mxT XF HXF.out).mono ?_
   rintro e7 w7 ⟨fv, rfl, hof, hb7⟩
   have hp7 : Below W4.heap.size w6 w7 := Below.trans (show Below W4.heap.size w6 _ from bwT) (hb7.mono soT)
   have s67 := hb7.size
   simp only [World.size_setCell] at s67 hof
   obtain ⟨fao, fn, fcap, rfl, -⟩ := hof.rd.shape
   replace q_r0 := oldc hp7 l_r q_r0
   replace q_r1 := oldc hp7 l_r q_r1
   replace q_r2 := oldc hp7 l_r q_r2
   replace q_r3 := oldc hp7 l_r q_r3
   replace q_r4 := oldc hp7 l_r q_r4
   replace f_r : ∀ o, w7.frozen? ⟨w.heap.size, o, none⟩ = false := fun o => (hp7.frozen (p := ⟨w.heap.size, o, none⟩) l_r).trans (f_r o)
   have z0 : w7.cell? ⟨g, 0, none⟩ = some (.string nm) := oldc hb7 ltT saT
   have z1 : w7.cell? ⟨g, 1, none⟩ = some (.int .i64 e) := oldc hb7 ltT saT
   have z2 : w7.cell? ⟨g, 2, none⟩ = some (.int .i64 0) := oldc hb7 ltT saT
   have z3 : w7.cell? ⟨g, 3, none⟩ = some (.slice none 0 0) := oldc hb7 ltT saT
   have z4 : w7.cell? ⟨g, 4, none⟩ = some (.slice dao dn dcap) := oldc hb7 ltT saT
   have zf : ∀ o, w7.frozen? ⟨g, o, none⟩ = false := fun o => (hb7.frozen (p := ⟨g, o, none⟩) ltT).trans saT
   have hB7 : Below w.heap.size w w7 := hB6.trans (hp7.mono hB4.size)
   have l_g7 : g < w7.heap.size := by omega
   have HRU := Hd (show Ow W4.heap.size w7.heap.size (w7.setCell ⟨g, 3, none⟩ (.slice fao fn fcap)) [.string nm, .int .i64 e, .int .i64 0, .slice fao fn fcap, .slice dao dn dcap] ((nm, e, 0, XF, XD) : Rul) from
    Ow.rul_mk mxT HI.out (by unfold I64; omega) (hof.keep zmT) (((HOD6.out.keep ((Zone.refl dlo dhi w6).setCell (p := ⟨g, 1, none⟩) hd3 _)).below hb7).keep ((Zone.refl dlo dhi w7).setCell (p := ⟨g, 3, none⟩) hd3 _)) omT omT hd1 (Nat.le_refl _) omT)
   clear hb7 hof hp7 y0 y1 y2 y3 y4 yf HOD6
   go_wp2_with fail
   refine (isRuleS_b _ _ _ _ _ _ (nm, e, 0, XF, XD) HRU.out.rd r1 H1.out).mono ?_
   rintro e8 w8 ⟨rfl, hb8⟩
   have s78 := hb8.size
   simp only [World.size_setCell] at s78
   have hB8 : Below w.heap.size w w8 := Below.trans (show Below w.heap.size w (w7.setCell ⟨g, 3, none⟩ (.slice fao fn fcap)) from bwT) (hb8.mono soT)
   replace q_r0 : w8.cell? ⟨w.heap.size, 0, none⟩ = some (.string ⟨#[]⟩) := oldc hb8 ltT saT
   replace q_r1 : w8.cell? ⟨w.heap.size, 1, none⟩ = some (.int .i64 0) := oldc hb8 ltT saT
   replace q_r2 : w8.cell? ⟨w.heap.size, 2, none⟩ = some (.int .i64 0) := oldc hb8 ltT saT
   replace q_r3 : w8.cell? ⟨w.heap.size, 3, none⟩ = some (.slice none 0 0) := oldc hb8 ltT saT
   replace q_r4 : w8.cell? ⟨w.heap.size, 4, none⟩ = some (.slice none 0 0) := oldc hb8 ltT saT
   replace f_r : ∀ o, w8.frozen? ⟨w.heap.size, o, none⟩ = false := fun o => (hb8.frozen (p := ⟨w.heap.size, o, none⟩) ltT).trans saT
   replace z0 : w8.cell? ⟨g, 0, none⟩ = some (.string nm) := oldc hb8 ltT saT
   replace z1 : w8.cell? ⟨g, 1, none⟩ = some (.int .i64 e) := oldc hb8 ltT saT
   replace z2 : w8.cell? ⟨g, 2, none⟩ = some (.int .i64 0) := oldc hb8 ltT saT
   replace z3 : w8.cell? ⟨g, 3, none⟩ = some (.slice fao fn fcap) := oldc hb8 ltT saT
   replace z4 : w8.cell? ⟨g, 4, none⟩ = some (.slice dao dn dcap) := oldc hb8 ltT saT
   have HRU8 := Hd (HRU.out.below (hb8.mono spT))
   clear hb8 HRU
   cases r1
   ·obtain rfl : O = none := by have := HO6.out; rw [this]; simp
    clear HO6 HRU8
    go_wp2
    exact bodyPost_ret (v := .tuple #[.agg #[.string ⟨#[]⟩, .int .i64 0, .int .i64 0, .slice none 0 0, .slice none 0 0], .bool false]) (by simp [results, go_sem, *]) rfl ⟨_, _, _, _, _, rfl, nil_rul _ _ _, bwT⟩
   go_wp2_with fail
   refine (formatRuleS_x _ _ _ _ _ _ (nm, e, 0, XF, XD) HRU8.out.rd K HK.out).mono ?_
   rintro e9 w9 ⟨rfl, hb9⟩
   have s89 := hb9.size
   have hB9 : Below w.heap.size w w9 := hB8.trans (hb9.mono hB8.size)
   replace q_r0 : w9.cell? ⟨w.heap.size, 0, none⟩ = some (.string ⟨#[]⟩) := oldc hb9 ltT saT
   replace q_r1 : w9.cell? ⟨w.heap.size, 1, none⟩ = some (.int .i64 0) := oldc hb9 ltT saT
   replace q_r2 : w9.cell? ⟨w.heap.size, 2, none⟩ = some (.int .i64 0) := oldc hb9 ltT saT
   replace q_r3 : w9.cell? ⟨w.heap.size, 3, none⟩ = some (.slice none 0 0) := oldc hb9 ltT saT
   replace q_r4 : w9.cell? ⟨w.heap.size, 4, none⟩ = some (.slice none 0 0) := oldc hb9 ltT saT
   replace f_r : ∀ o, w9.frozen? ⟨w.heap.size, o, none⟩ = false := fun o => (hb9.frozen (p := ⟨w.heap.size, o, none⟩) ltT).trans saT
   replace z0 : w9.cell? ⟨g, 0, none⟩ = some (.string nm) := oldc hb9 ltT saT
   replace z1 : w9.cell? ⟨g, 1, none⟩ = some (.int .i64 e) := oldc hb9 ltT saT
   replace z2 : w9.cell? ⟨g, 2, none⟩ = some (.int .i64 0) := oldc hb9 ltT saT
   replace z3 : w9.cell? ⟨g, 3, none⟩ = some (.slice fao fn fcap) := oldc hb9 ltT saT
   replace z4 : w9.cell? ⟨g, 4, none⟩ = some (.slice dao dn dcap) := oldc hb9 ltT saT
   have HRU9 := Hd (HRU8.out.below hb9)
   clear hb9 HRU8
   by_cases hks : K = s
   ·subst hks
    obtain rfl : O = some (nm, e, 0, XF, XD) := by have := HO6.out; rw [this]; simp
    have q0 : (K.toList == K.toList) = true := by simp
    clear HO6
    go_wp2
    exact bodyPost_ret (v := .tuple #[.agg #[.string nm, .int .i64 e, .int .i64 0, .slice fao fn fcap, .slice dao dn dcap], .bool true]) (by simp [results, go_sem, *]) rfl ⟨_, _, _, _, _, rfl, (HRU9.out.keep zmT).mono omT soT, bwT⟩
   ·obtain rfl : O = none := by have := HO6.out; rw [this]; exact if_neg (fun h => hks h.2)
    have q0 : (K.toList == s.toList) = false := by rw [text_eq, decide_eq_false hks]
    clear HO6 hks HRU9
    go_wp2
    exact bodyPost_ret (v := .tuple #[.agg #[.string ⟨#[]⟩, .int .i64 0, .int .i64 0, .slice none 0 0, .slice none 0 0], .bool false]) (by simp [results, go_sem, *]) rfl ⟨_, _, _, _, _, rfl, nil_rul _ _ _, bwT⟩
  have hu0 : 0 < u.size := by omega
  have hu1 : u.size - 1 < u.size := by omega
  have h0I : (0 : Int) < (u.size : Int) := by omega
  by_cases e94 : u[0]'hu0 = 94
  ·have h94 : (((u[0]'hu0).toNat : Int) == 94) = true := by rw [e94]; rfl
   have h1I : (1 : Int) ≤ (u.size : Int) := by omega
   have HS1 := Hd (show ruleS1 u.data.toList = (1, (u.extract 1 u.size).data.toList) by rw [ruleS1_one hu0 e94])
   clear e94
   have hvs : (u.extract 1 u.size).size ≤ 9223372036854775807 := by rw [ByteArray.size_extract]; omega
   obtain ⟨v, hv⟩ : ∃ v, v = u.extract 1 u.size := ⟨_, rfl⟩
   rw [← hv] at HS1 hvs
   have HV := Hd hv.symm
   obtain ⟨XF, hXF⟩ : ∃ X, X = readS v.data.toList := ⟨_, rfl⟩
   obtain ⟨r1, hr1⟩ : ∃ r, r = isRule (nm, e, 1, XF, XD) := ⟨_, rfl⟩
   obtain ⟨K, hK⟩ : ∃ K, K = ruleTxt (nm, e, 1, XF, XD) := ⟨_, rfl⟩
   have HO6 := Hd (HR5.out _ _ _ _ _ HS1.out hXF hr1 hK)
   have HXF := Hd hXF
   have H1 := Hd hr1
   have HK := Hd hK
   clear hXF hr1 hK HR5 HS1
   clear hv
   go_wp2_with fail
   rw [HV.out]
   refine (readS_any _ v mxT XF HXF.out).mono ?_
   rintro e7 w7 ⟨fv, rfl, hof, hb7⟩
   have hp7 : Below W4.heap.size w6 w7 := Below.trans (show Below W4.heap.size w6 _ from bwT) (hb7.mono soT)
   have s67 := hb7.size
   simp only [World.size_setCell] at s67 hof
   obtain ⟨fao, fn, fcap, rfl, -⟩ := hof.rd.shape
   replace q_r0 := oldc hp7 l_r q_r0
   replace q_r1 := oldc hp7 l_r q_r1
   replace q_r2 := oldc hp7 l_r q_r2
   replace q_r3 := oldc hp7 l_r q_r3
   replace q_r4 := oldc hp7 l_r q_r4
   replace f_r : ∀ o, w7.frozen? ⟨w.heap.size, o, none⟩ = false := fun o => (hp7.frozen (p := ⟨w.heap.size, o, none⟩) l_r).trans (f_r o)
   have z0 : w7.cell? ⟨g, 0, none⟩ = some (.string nm) := oldc hb7 ltT saT
   have z1 : w7.cell? ⟨g, 1, none⟩ = some (.int .i64 e) := oldc hb7 ltT saT
   have z2 : w7.cell? ⟨g, 2, none⟩ = some (.int .i64 1) := oldc hb7 ltT saT
   have z3 : w7.cell? ⟨g, 3, none⟩ = some (.slice none 0 0) := oldc hb7 ltT saT
   have z4 : w7.cell? ⟨g, 4, none⟩ = some (.slice dao dn dcap) := oldc hb7 ltT saT
   have zf : ∀ o, w7.frozen? ⟨g, o, none⟩ = false := fun o => (hb7.frozen (p := ⟨g, o, none⟩) ltT).trans saT
   have hB7 : Below w.heap.size w w7 := hB6.trans (hp7.mono hB4.size)
   have l_g7 : g < w7.heap.size := by omega
   have HRU := Hd (show Ow W4.heap.size w7.heap.size (w7.setCell ⟨g, 3, none⟩ (.slice fao fn fcap)) [.string nm, .int .i64 e, .int .i64 1, .slice fao fn fcap, .slice dao dn dcap] ((nm, e, 1, XF, XD) : Rul) from
    Ow.rul_mk mxT HI.out (by unfold I64; omega) (hof.keep zmT) (((HOD6.out.keep (((Zone.refl dlo dhi w6).setCell (p := ⟨g, 1, none⟩) hd3 _).setCell (p := ⟨g, 2, none⟩) hd3 _)).below hb7).keep ((Zone.refl dlo dhi w7).setCell (p := ⟨g, 3, none⟩) hd3 _)) omT omT hd1 (Nat.le_refl _) omT)
   clear hb7 hof hp7 y0 y1 y2 y3 y4 yf HOD6
   go_wp2_with fail
   refine (isRuleS_b _ _ _ _ _ _ (nm, e, 1, XF, XD) HRU.out.rd r1 H1.out).mono ?_
   rintro e8 w8 ⟨rfl, hb8⟩
   have s78 := hb8.size
   simp only [World.size_setCell] at s78
   have hB8 : Below w.heap.size w w8 := Below.trans (show Below w.heap.size w (w7.setCell ⟨g, 3, none⟩ (.slice fao fn fcap)) from bwT) (hb8.mono soT)
   replace q_r0 : w8.cell? ⟨w.heap.size, 0, none⟩ = some (.string ⟨#[]⟩) := oldc hb8 ltT saT
   replace q_r1 : w8.cell? ⟨w.heap.size, 1, none⟩ = some (.int .i64 0) := oldc hb8 ltT saT
   replace q_r2 : w8.cell? ⟨w.heap.size, 2, none⟩ = some (.int .i64 0) := oldc hb8 ltT saT
   replace q_r3 : w8.cell? ⟨w.heap.size, 3, none⟩ = some (.slice none 0 0) := oldc hb8 ltT saT
   replace q_r4 : w8.cell? ⟨w.heap.size, 4, none⟩ = some (.slice none 0 0) := oldc hb8 ltT saT
   replace f_r : ∀ o, w8.frozen? ⟨w.heap.size, o, none⟩ = false := fun o => (hb8.frozen (p := ⟨w.heap.size, o, none⟩) ltT).trans saT
   replace z0 : w8.cell? ⟨g, 0, none⟩ = some (.string nm) := oldc hb8 ltT saT
   replace z1 : w8.cell? ⟨g, 1, none⟩ = some (.int .i64 e) := oldc hb8 ltT saT
   replace z2 : w8.cell? ⟨g, 2, none⟩ = some (.int .i64 1) := oldc hb8 ltT saT
   replace z3 : w8.cell? ⟨g, 3, none⟩ = some (.slice fao fn fcap) := oldc hb8 ltT saT
   replace z4 : w8.cell? ⟨g, 4, none⟩ = some (.slice dao dn dcap) := oldc hb8 ltT saT
   have HRU8 := Hd (HRU.out.below (hb8.mono spT))
   clear hb8 HRU
   cases r1
   ·obtain rfl : O = none := by have := HO6.out; rw [this]; simp
    clear HO6 HRU8
    go_wp2
    exact bodyPost_ret (v := .tuple #[.agg #[.string ⟨#[]⟩, .int .i64 0, .int .i64 0, .slice none 0 0, .slice none 0 0], .bool false]) (by simp [results, go_sem, *]) rfl ⟨_, _, _, _, _, rfl, nil_rul _ _ _, bwT⟩
   go_wp2_with fail
   refine (formatRuleS_x _ _ _ _ _ _ (nm, e, 1, XF, XD) HRU8.out.rd K HK.out).mono ?_
   rintro e9 w9 ⟨rfl, hb9⟩
   have s89 := hb9.size
   have hB9 : Below w.heap.size w w9 := hB8.trans (hb9.mono hB8.size)
   replace q_r0 : w9.cell? ⟨w.heap.size, 0, none⟩ = some (.string ⟨#[]⟩) := oldc hb9 ltT saT
   replace q_r1 : w9.cell? ⟨w.heap.size, 1, none⟩ = some (.int .i64 0) := oldc hb9 ltT saT
   replace q_r2 : w9.cell? ⟨w.heap.size, 2, none⟩ = some (.int .i64 0) := oldc hb9 ltT saT
   replace q_r3 : w9.cell? ⟨w.heap.size, 3, none⟩ = some (.slice none 0 0) := oldc hb9 ltT saT
   replace q_r4 : w9.cell? ⟨w.heap.size, 4, none⟩ = some (.slice none 0 0) := oldc hb9 ltT saT
   replace f_r : ∀ o, w9.frozen? ⟨w.heap.size, o, none⟩ = false := fun o => (hb9.frozen (p := ⟨w.heap.size, o, none⟩) ltT).trans saT
   replace z0 : w9.cell? ⟨g, 0, none⟩ = some (.string nm) := oldc hb9 ltT saT
   replace z1 : w9.cell? ⟨g, 1, none⟩ = some (.int .i64 e) := oldc hb9 ltT saT
   replace z2 : w9.cell? ⟨g, 2, none⟩ = some (.int .i64 1) := oldc hb9 ltT saT
   replace z3 : w9.cell? ⟨g, 3, none⟩ = some (.slice fao fn fcap) := oldc hb9 ltT saT
   replace z4 : w9.cell? ⟨g, 4, none⟩ = some (.slice dao dn dcap) := oldc hb9 ltT saT
   have HRU9 := Hd (HRU8.out.below hb9)
   clear hb9 HRU8
   by_cases hks : K = s
   ·subst hks
    obtain rfl : O = some (nm, e, 1, XF, XD) := by have := HO6.out; rw [this]; simp
    have q0 : (K.toList == K.toList) = true := by simp
    clear HO6
    go_wp2
    exact bodyPost_ret (v := .tuple #[.agg #[.string nm, .int .i64 e, .int .i64 1, .slice fao fn fcap, .slice dao dn dcap], .bool true]) (by simp [results, go_sem, *]) rfl ⟨_, _, _, _, _, rfl, (HRU9.out.keep zmT).mono omT soT, bwT⟩
   ·obtain rfl : O = none := by have := HO6.out; rw [this]; exact if_neg (fun h => hks h.2)
    have q0 : (K.toList == s.toList) = false := by rw [text_eq, decide_eq_false hks]
    clear HO6 hks HRU9
    go_wp2
    exact bodyPost_ret (v := .tuple #[.agg #[.string ⟨#[]⟩, .int .i64 0, .int .i64 0, .slice none 0 0, .slice none 0 0], .bool false]) (by simp [results, go_sem, *]) rfl ⟨_, _, _, _, _, rfl, nil_rul _ _ _, bwT⟩
  have h94 : (((u[0]'hu0).toNat : Int) == 94) = false := by rw [beq_eq_false_iff_ne]; intro h; exact e94 (UInt8.toNat.inj (by have : (94 : UInt8).toNat = 94 := rfl; omega))
  have hm0 : (0 : Int) ≤ (u.size : Int) - 1 := by omega
  have hm1 : (u.size : Int) - 1 < (u.size : Int) := by omega
  have hm2 : (u.size : Int) - 1 ≤ (u.size : Int) := by omega
  have hm3 : (1 : Int) ≤ (u.size : Int) := by omega
  by_cases e36 : u[u.size - 1]'hu1 = 36
  ·have h36 : (((u[u.size - 1]'hu1).toNat : Int) == 36) = true := by rw [e36]; rfl
   have HS1 := Hd (show ruleS1 u.data.toList = (2, (u.extract 0 (u.size - 1)).data.toList) by rw [ruleS1_two hu0 e94 hu1 e36])
   clear e94 e36
   have hvs : (u.extract 0 (u.size - 1)).size ≤ 9223372036854775807 := by rw [ByteArray.size_extract]; omega
   obtain ⟨v, hv⟩ : ∃ v, v = u.extract 0 (u.size - 1) := ⟨_, rfl⟩
   rw [← hv] at HS1 hvs
   have HV := Hd hv.symm
   obtain ⟨XF, hXF⟩ : ∃ X, X = readS v.data.toList := ⟨_, rfl⟩
   obtain ⟨r1, hr1⟩ : ∃ r, r = isRule (nm, e, 2, XF, XD) := ⟨_, rfl⟩
   obtain ⟨K, hK⟩ : ∃ K, K = ruleTxt (nm, e, 2, XF, XD) := ⟨_, rfl⟩
   have HO6 := Hd (HR5.out _ _ _ _ _ HS1.out hXF hr1 hK)
   have HXF := Hd hXF
   have H1 := Hd hr1
   have HK := Hd hK
   clear hXF hr1 hK HR5 HS1
   clear hv
   go_wp2_with fail
   rw [HV.out]
   refine (readS_any _ v mxT XF HXF.out).mono ?_
   rintro e7 w7 ⟨fv, rfl, hof, hb7⟩
   have hp7 : Below W4.heap.size w6 w7 := Below.trans (show Below W4.heap.size w6 _ from bwT) (hb7.mono soT)
   have s67 := hb7.size
   simp only [World.size_setCell] at s67 hof
   obtain ⟨fao, fn, fcap, rfl, -⟩ := hof.rd.shape
   replace q_r0 := oldc hp7 l_r q_r0
   replace q_r1 := oldc hp7 l_r q_r1
   replace q_r2 := oldc hp7 l_r q_r2
   replace q_r3 := oldc hp7 l_r q_r3
   replace q_r4 := oldc hp7 l_r q_r4
   replace f_r : ∀ o, w7.frozen? ⟨w.heap.size, o, none⟩ = false := fun o => (hp7.frozen (p := ⟨w.heap.size, o, none⟩) l_r).trans (f_r o)
   have z0 : w7.cell? ⟨g, 0, none⟩ = some (.string nm) := oldc hb7 ltT saT
   have z1 : w7.cell? ⟨g, 1, none⟩ = some (.int .i64 e) := oldc hb7 ltT saT
   have z2 : w7.cell? ⟨g, 2, none⟩ = some (.int .i64 2) := oldc hb7 ltT saT
   have z3 : w7.cell? ⟨g, 3, none⟩ = some (.slice none 0 0) := oldc hb7 ltT saT
   have z4 : w7.cell? ⟨g, 4, none⟩ = some (.slice dao dn dcap) := oldc hb7 ltT saT
   have zf : ∀ o, w7.frozen? ⟨g, o, none⟩ = false := fun o => (hb7.frozen (p := ⟨g, o, none⟩) ltT).trans saT
   have hB7 : Below w.heap.size w w7 := hB6.trans (hp7.mono hB4.size)
   have l_g7 : g < w7.heap.size := by omega
   have HRU := Hd (show Ow W4.heap.size w7.heap.size (w7.setCell ⟨g, 3, none⟩ (.slice fao fn fcap)) [.string nm, .int .i64 e, .int .i64 2, .slice fao fn fcap, .slice dao dn dcap] ((nm, e, 2, XF, XD) : Rul) from
    Ow.rul_mk mxT HI.out (by unfold I64; omega) (hof.keep zmT) (((HOD6.out.keep (((Zone.refl dlo dhi w6).setCell (p := ⟨g, 1, none⟩) hd3 _).setCell (p := ⟨g, 2, none⟩) hd3 _)).below hb7).keep ((Zone.refl dlo dhi w7).setCell (p := ⟨g, 3, none⟩) hd3 _)) omT omT hd1 (Nat.le_refl _) omT)
   clear hb7 hof hp7 y0 y1 y2 y3 y4 yf HOD6
   go_wp2_with fail
   refine (isRuleS_b _ _ _ _ _ _ (nm, e, 2, XF, XD) HRU.out.rd r1 H1.out).mono ?_
   rintro e8 w8 ⟨rfl, hb8⟩
   have s78 := hb8.size
   simp only [World.size_setCell] at s78
   have hB8 : Below w.heap.size w w8 := Below.trans (show Below w.heap.size w (w7.setCell ⟨g, 3, none⟩ (.slice fao fn fcap)) from bwT) (hb8.mono soT)
   replace q_r0 : w8.cell? ⟨w.heap.size, 0, none⟩ = some (.string ⟨#[]⟩) := oldc hb8 ltT saT
   replace q_r1 : w8.cell? ⟨w.heap.size, 1, none⟩ = some (.int .i64 0) := oldc hb8 ltT saT
   replace q_r2 : w8.cell? ⟨w.heap.size, 2, none⟩ = some (.int .i64 0) := oldc hb8 ltT saT
   replace q_r3 : w8.cell? ⟨w.heap.size, 3, none⟩ = some (.slice none 0 0) := oldc hb8 ltT saT
   replace q_r4 : w8.cell? ⟨w.heap.size, 4, none⟩ = some (.slice none 0 0) := oldc hb8 ltT saT
   replace f_r : ∀ o, w8.frozen? ⟨w.heap.size, o, none⟩ = false := fun o => (hb8.frozen (p := ⟨w.heap.size, o, none⟩) ltT).trans saT
   replace z0 : w8.cell? ⟨g, 0, none⟩ = some (.string nm) := oldc hb8 ltT saT
   replace z1 : w8.cell? ⟨g, 1, none⟩ = some (.int .i64 e) := oldc hb8 ltT saT
   replace z2 : w8.cell? ⟨g, 2, none⟩ = some (.int .i64 2) := oldc hb8 ltT saT
   replace z3 : w8.cell? ⟨g, 3, none⟩ = some (.slice fao fn fcap) := oldc hb8 ltT saT
   replace z4 : w8.cell? ⟨g, 4, none⟩ = some (.slice dao dn dcap) := oldc hb8 ltT saT
   have HRU8 := Hd (HRU.out.below (hb8.mono spT))
   clear hb8 HRU
   cases r1
   ·obtain rfl : O = none := by have := HO6.out; rw [this]; simp
    clear HO6 HRU8
    go_wp2
    exact bodyPost_ret (v := .tuple #[.agg #[.string ⟨#[]⟩, .int .i64 0, .int .i64 0, .slice none 0 0, .slice none 0 0], .bool false]) (by simp [results, go_sem, *]) rfl ⟨_, _, _, _, _, rfl, nil_rul _ _ _, bwT⟩
   go_wp2_with fail
   refine (formatRuleS_x _ _ _ _ _ _ (nm, e, 2, XF, XD) HRU8.out.rd K HK.out).mono ?_
   rintro e9 w9 ⟨rfl, hb9⟩
   have s89 := hb9.size
   have hB9 : Below w.heap.size w w9 := hB8.trans (hb9.mono hB8.size)
   replace q_r0 : w9.cell? ⟨w.heap.size, 0, none⟩ = some (.string ⟨#[]⟩) := oldc hb9 ltT saT
   replace q_r1 : w9.cell? ⟨w.heap.size, 1, none⟩ = some (.int .i64 0) := oldc hb9 ltT saT
   replace q_r2 : w9.cell? ⟨w.heap.size, 2, none⟩ = some (.int .i64 0) := oldc hb9 ltT saT
   replace q_r3 : w9.cell? ⟨w.heap.size, 3, none⟩ = some (.slice none 0 0) := oldc hb9 ltT saT
   replace q_r4 : w9.cell? ⟨w.heap.size, 4, none⟩ = some (.slice none 0 0) := oldc hb9 ltT saT
   replace f_r : ∀ o, w9.frozen? ⟨w.heap.size, o, none⟩ = false := fun o => (hb9.frozen (p := ⟨w.heap.size, o, none⟩) ltT).trans saT
   replace z0 : w9.cell? ⟨g, 0, none⟩ = some (.string nm) := oldc hb9 ltT saT
   replace z1 : w9.cell? ⟨g, 1, none⟩ = some (.int .i64 e) := oldc hb9 ltT saT
   replace z2 : w9.cell? ⟨g, 2, none⟩ = some (.int .i64 2) := oldc hb9 ltT saT
   replace z3 : w9.cell? ⟨g, 3, none⟩ = some (.slice fao fn fcap) := oldc hb9 ltT saT
   replace z4 : w9.cell? ⟨g, 4, none⟩ = some (.slice dao dn dcap) := oldc hb9 ltT saT
   have HRU9 := Hd (HRU8.out.below hb9)
   clear hb9 HRU8
   by_cases hks : K = s
   ·subst hks
    obtain rfl : O = some (nm, e, 2, XF, XD) := by have := HO6.out; rw [this]; simp
    have q0 : (K.toList == K.toList) = true := by simp
    clear HO6
    go_wp2
    exact bodyPost_ret (v := .tuple #[.agg #[.string nm, .int .i64 e, .int .i64 2, .slice fao fn fcap, .slice dao dn dcap], .bool true]) (by simp [results, go_sem, *]) rfl ⟨_, _, _, _, _, rfl, (HRU9.out.keep zmT).mono omT soT, bwT⟩
   ·obtain rfl : O = none := by have := HO6.out; rw [this]; exact if_neg (fun h => hks h.2)
    have q0 : (K.toList == s.toList) = false := by rw [text_eq, decide_eq_false hks]
    clear HO6 hks HRU9
    go_wp2
    exact bodyPost_ret (v := .tuple #[.agg #[.string ⟨#[]⟩, .int .i64 0, .int .i64 0, .slice none 0 0, .slice none 0 0], .bool false]) (by simp [results, go_sem, *]) rfl ⟨_, _, _, _, _, rfl, nil_rul _ _ _, bwT⟩
  ·have h36 : (((u[u.size - 1]'hu1).toNat : Int) == 36) = false := by rw [beq_eq_false_iff_ne]; intro h; exact e36 (UInt8.toNat.inj (by have : (36 : UInt8).toNat = 36 := rfl; omega))
   have HS1 := Hd (show ruleS1 u.data.toList = (0, u.data.toList) by rw [ruleS1_zero hu0 e94 hu1 e36])
   clear e94 e36
   have hvs : (u).size ≤ 9223372036854775807 := by omega
   obtain ⟨v, hv⟩ : ∃ v, v = u := ⟨_, rfl⟩
   subst hv
   obtain ⟨XF, hXF⟩ : ∃ X, X = readS v.data.toList := ⟨_, rfl⟩
   obtain ⟨r1, hr1⟩ : ∃ r, r = isRule (nm, e, 0, XF, XD) := ⟨_, rfl⟩
   obtain ⟨K, hK⟩ : ∃ K, K = ruleTxt (nm, e, 0, XF, XD) := ⟨_, rfl⟩
   have HO6 := Hd (HR5.out _ _ _ _ _ HS1.out hXF hr1 hK)
   have HXF := Hd hXF
   have H1 := Hd hr1
   have HK := Hd hK
   clear hXF hr1 hK HR5 HS1
   go_wp2_with fail
   refine (readS_any _ v mxT XF HXF.out).mono ?_
   rintro e7 w7 ⟨fv, rfl, hof, hb7⟩
   have hp7 : Below W4.heap.size w6 w7 := Below.trans (show Below W4.heap.size w6 _ from bwT) (hb7.mono soT)
   have s67 := hb7.size
   simp only [World.size_setCell] at s67 hof
   obtain ⟨fao, fn, fcap, rfl, -⟩ := hof.rd.shape
   replace q_r0 := oldc hp7 l_r q_r0
   replace q_r1 := oldc hp7 l_r q_r1
   replace q_r2 := oldc hp7 l_r q_r2
   replace q_r3 := oldc hp7 l_r q_r3
   replace q_r4 := oldc hp7 l_r q_r4
   replace f_r : ∀ o, w7.frozen? ⟨w.heap.size, o, none⟩ = false := fun o => (hp7.frozen (p := ⟨w.heap.size, o, none⟩) l_r).trans (f_r o)
   have z0 : w7.cell? ⟨g, 0, none⟩ = some (.string nm) := oldc hb7 ltT saT
   have z1 : w7.cell? ⟨g, 1, none⟩ = some (.int .i64 e) := oldc hb7 ltT saT
   have z2 : w7.cell? ⟨g, 2, none⟩ = some (.int .i64 0) := oldc hb7 ltT saT
   have z3 : w7.cell? ⟨g, 3, none⟩ = some (.slice none 0 0) := oldc hb7 ltT saT
   have z4 : w7.cell? ⟨g, 4, none⟩ = some (.slice dao dn dcap) := oldc hb7 ltT saT
   have zf : ∀ o, w7.frozen? ⟨g, o, none⟩ = false := fun o => (hb7.frozen (p := ⟨g, o, none⟩) ltT).trans saT
   have hB7 : Below w.heap.size w w7 := hB6.trans (hp7.mono hB4.size)
   have l_g7 : g < w7.heap.size := by omega
   have HRU := Hd (show Ow W4.heap.size w7.heap.size (w7.setCell ⟨g, 3, none⟩ (.slice fao fn fcap)) [.string nm, .int .i64 e, .int .i64 0, .slice fao fn fcap, .slice dao dn dcap] ((nm, e, 0, XF, XD) : Rul) from
    Ow.rul_mk mxT HI.out (by unfold I64; omega) (hof.keep zmT) (((HOD6.out.keep ((Zone.refl dlo dhi w6).setCell (p := ⟨g, 1, none⟩) hd3 _)).below hb7).keep ((Zone.refl dlo dhi w7).setCell (p := ⟨g, 3, none⟩) hd3 _)) omT omT hd1 (Nat.le_refl _) omT)
   clear hb7 hof hp7 y0 y1 y2 y3 y4 yf HOD6
   go_wp2_with fail
   refine (isRuleS_b _ _ _ _ _ _ (nm, e, 0, XF, XD) HRU.out.rd r1 H1.out).mono ?_
   rintro e8 w8 ⟨rfl, hb8⟩
   have s78 := hb8.size
   simp only [World.size_setCell] at s78
   have hB8 : Below w.heap.size w w8 := Below.trans (show Below w.heap.size w (w7.setCell ⟨g, 3, none⟩ (.slice fao fn fcap)) from bwT) (hb8.mono soT)
   replace q_r0 : w8.cell? ⟨w.heap.size, 0, none⟩ = some (.string ⟨#[]⟩) := oldc hb8 ltT saT
   replace q_r1 : w8.cell? ⟨w.heap.size, 1, none⟩ = some (.int .i64 0) := oldc hb8 ltT saT
   replace q_r2 : w8.cell? ⟨w.heap.size, 2, none⟩ = some (.int .i64 0) := oldc hb8 ltT saT
   replace q_r3 : w8.cell? ⟨w.heap.size, 3, none⟩ = some (.slice none 0 0) := oldc hb8 ltT saT
   replace q_r4 : w8.cell? ⟨w.heap.size, 4, none⟩ = some (.slice none 0 0) := oldc hb8 ltT saT
   replace f_r : ∀ o, w8.frozen? ⟨w.heap.size, o, none⟩ = false := fun o => (hb8.frozen (p := ⟨w.heap.size, o, none⟩) ltT).trans saT
   replace z0 : w8.cell? ⟨g, 0, none⟩ = some (.string nm) := oldc hb8 ltT saT
   replace z1 : w8.cell? ⟨g, 1, none⟩ = some (.int .i64 e) := oldc hb8 ltT saT
   replace z2 : w8.cell? ⟨g, 2, none⟩ = some (.int .i64 0) := oldc hb8 ltT saT
   replace z3 : w8.cell? ⟨g, 3, none⟩ = some (.slice fao fn fcap) := oldc hb8 ltT saT
   replace z4 : w8.cell? ⟨g, 4, none⟩ = some (.slice dao dn dcap) := oldc hb8 ltT saT
   have HRU8 := Hd (HRU.out.below (hb8.mono spT))
   clear hb8 HRU
   cases r1
   ·obtain rfl : O = none := by have := HO6.out; rw [this]; simp
    clear HO6 HRU8
    go_wp2
    exact bodyPost_ret (v := .tuple #[.agg #[.string ⟨#[]⟩, .int .i64 0, .int .i64 0, .slice none 0 0, .slice none 0 0], .bool false]) (by simp [results, go_sem, *]) rfl ⟨_, _, _, _, _, rfl, nil_rul _ _ _, bwT⟩
   go_wp2_with fail
   refine (formatRuleS_x _ _ _ _ _ _ (nm, e, 0, XF, XD) HRU8.out.rd K HK.out).mono ?_
   rintro e9 w9 ⟨rfl, hb9⟩
   have s89 := hb9.size
   have hB9 : Below w.heap.size w w9 := hB8.trans (hb9.mono hB8.size)
   replace q_r0 : w9.cell? ⟨w.heap.size, 0, none⟩ = some (.string ⟨#[]⟩) := oldc hb9 ltT saT
   replace q_r1 : w9.cell? ⟨w.heap.size, 1, none⟩ = some (.int .i64 0) := oldc hb9 ltT saT
   replace q_r2 : w9.cell? ⟨w.heap.size, 2, none⟩ = some (.int .i64 0) := oldc hb9 ltT saT
   replace q_r3 : w9.cell? ⟨w.heap.size, 3, none⟩ = some (.slice none 0 0) := oldc hb9 ltT saT
   replace q_r4 : w9.cell? ⟨w.heap.size, 4, none⟩ = some (.slice none 0 0) := oldc hb9 ltT saT
   replace f_r : ∀ o, w9.frozen? ⟨w.heap.size, o, none⟩ = false := fun o => (hb9.frozen (p := ⟨w.heap.size, o, none⟩) ltT).trans saT
   replace z0 : w9.cell? ⟨g, 0, none⟩ = some (.string nm) := oldc hb9 ltT saT
   replace z1 : w9.cell? ⟨g, 1, none⟩ = some (.int .i64 e) := oldc hb9 ltT saT
   replace z2 : w9.cell? ⟨g, 2, none⟩ = some (.int .i64 0) := oldc hb9 ltT saT
   replace z3 : w9.cell? ⟨g, 3, none⟩ = some (.slice fao fn fcap) := oldc hb9 ltT saT
   replace z4 : w9.cell? ⟨g, 4, none⟩ = some (.slice dao dn dcap) := oldc hb9 ltT saT
   have HRU9 := Hd (HRU8.out.below hb9)
   clear hb9 HRU8
   by_cases hks : K = s
   ·subst hks
    obtain rfl : O = some (nm, e, 0, XF, XD) := by have := HO6.out; rw [this]; simp
    have q0 : (K.toList == K.toList) = true := by simp
    clear HO6
    go_wp2
    exact bodyPost_ret (v := .tuple #[.agg #[.string nm, .int .i64 e, .int .i64 0, .slice fao fn fcap, .slice dao dn dcap], .bool true]) (by simp [results, go_sem, *]) rfl ⟨_, _, _, _, _, rfl, (HRU9.out.keep zmT).mono omT soT, bwT⟩
   ·obtain rfl : O = none := by have := HO6.out; rw [this]; exact if_neg (fun h => hks h.2)
    have q0 : (K.toList == s.toList) = false := by rw [text_eq, decide_eq_false hks]
    clear HO6 hks HRU9
    go_wp2
    exact bodyPost_ret (v := .tuple #[.agg #[.string ⟨#[]⟩, .int .i64 0, .int .i64 0, .slice none 0 0, .slice none 0 0], .bool false]) (by simp [results, go_sem, *]) rfl ⟨_, _, _, _, _, rfl, nil_rul _ _ _, bwT⟩
end
end Go.Proofs.YtcbhdmmohdnjbaaGreat
