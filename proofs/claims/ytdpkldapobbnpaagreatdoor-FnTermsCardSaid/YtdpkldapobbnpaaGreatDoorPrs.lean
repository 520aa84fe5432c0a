/- Plain: how types and rules are read from texts (by both programs). -/
import Derived.Test.YtdpkldapobbnpaaGreatDoorFrm
import Derived.Lib.Walk
import Derived.Lib.Strings
import Derived.Lib.IndexMore
import Derived.Lib.Bytealg
namespace Go.Proofs.YtdpkldapobbnpaaGreatDoor
set_option linter.unusedVariables false
set_option linter.unusedSimpArgs false
open Go.RowKit
abbrev Bs := List UInt8
def txt (l : Bs) : ByteArray := ⟨l.toArray⟩
theorem txt_list (s : ByteArray) : txt s.data.toList = s := by cases s; rfl
theorem list_txt (l : Bs) : (txt l).data.toList = l := by simp [txt]
theorem size_txt (l : Bs) : (txt l).size = l.length := by simp [txt, ByteArray.size]
def lts : Bs := [70, 77, 66, 90, 83, 68, 72, 87]
def knd (c : UInt8) : Int := Lib.indexByte lts c + 1
def cutE (l : Bs) : Int × Bs := if Lib.hasPrefix l [109, 58] then (1, l.drop 2) else if Lib.hasPrefix l [119, 58] then (2, l.drop 2) else (0, l)
def readI : Bs → Option (List Stp)
 | [] => some []
 | [c] => if c = 101 ∨ c = 121 then none else if knd c = 0 then none else some [(knd c, 0)]
 | c :: d :: r => if c = 101 ∨ c = 121 then (if knd d = 0 then none else (readI r).map ((knd d, if c = 101 then 1 else 2) :: ·)) else if knd c = 0 then none else (readI (d :: r)).map ((knd c, 0) :: ·)
def typeI (l : Bs) : Option Kin :=
 if (cutE l).2 = [46] then some ((cutE l).1, []) else (readI (cutE l).2).bind fun st => if st ≠ [] ∧ isKin ((cutE l).1, st) = true then some ((cutE l).1, st) else none
def readG : Bs → Int → List Stp → List Stp
 | [], _, out => out
 | c :: r, age, out => if out.length < 20 then (if c = 101 then readG r 1 out else if c = 121 then readG r 2 out else readG r 0 (out ++ [(knd c, age)])) else out
def readS (l : Bs) : List Stp := if l = [46] then [] else readG l 0 []
def typeS (l : Bs) : Option Kin := if isKin ((cutE l).1, readS (cutE l).2) = true ∧ kinTxt ((cutE l).1, readS (cutE l).2) = txt l then some ((cutE l).1, readS (cutE l).2) else none
def addHd (p : Bs) : List Bs → List Bs
 | [] => [p]
 | x :: xs => (p ++ x) :: xs
def spl (b : UInt8) : Bs → List Bs
 | [] => [[]]
 | c :: r => if c = b then [] :: spl b r else addHd [c] (spl b r)
def ruleS1 (w : Bs) : Int × Bs := if w.head? = some 94 then (1, w.drop 1) else if w.getLast? = some 36 then (2, w.dropLast) else (0, w)
def ruleS4 (l a b d : Bs) : Option Rul :=
 let r : Rul := (txt a.dropLast, (cutE b).1, (ruleS1 (cutE b).2).1, readS (ruleS1 (cutE b).2).2, readS d)
 if 2 ≤ a.length ∧ 1 ≤ b.length ∧ isRule r = true ∧ ruleTxt r = txt l then some r else none
def ruleS (l : Bs) : Option Rul :=
 match spl 32 l with
 | [a, b, _, d] => ruleS4 l a b d
 | _ => none
def ruleI1 (w : Bs) : Option (Int × Bs) :=
 if Lib.hasPrefix w [94] then (if Lib.hasSuffix (w.drop 1) [36] then none else some (1, w.drop 1)) else if Lib.hasSuffix w [36] then some (2, w.dropLast) else some (0, w)
def ruleI3 (l nm fr tw : Bs) : Option Rul :=
 (ruleI1 (cutE fr).2).bind fun p => (readI p.2).bind fun f => (if tw = [46] then some [] else readI tw).bind fun t =>
  let r : Rul := (txt nm, (cutE fr).1, p.1, f, t)
  if isRule r = true ∧ ruleTxt r = txt l then some r else none
def ruleI (l : Bs) : Option Rul :=
 let a := Lib.cut l [58, 32]
 let b := Lib.cut a.2.1 [32, 45, 62, 32]
 if a.2.2 = true ∧ b.2.2 = true then ruleI3 l a.1 b.1 b.2.1 else none
theorem addHd_nil (b : UInt8) (l : Bs) : addHd [] (spl b l) = spl b l := by
 cases h : spl b l with
 | nil => cases l with
   | nil => simp [spl] at h
   | cons c r =>
     simp only [spl] at h
     split at h
     ·cases h
     ·cases h2 : spl b r <;> simp [h2, addHd] at h
 | cons x xs => rfl
theorem addHd_app (p q : Bs) : ∀ l, addHd p (addHd q l) = addHd (p ++ q) l
 | [] => rfl
 | x :: xs => by simp [addHd]
theorem spl_hit {b : UInt8} {l : Bs} {i : Nat} (h : l[i]? = some b) (p : Bs) : addHd p (spl b (l.drop i)) = p :: spl b (l.drop (i + 1)) := by
 obtain ⟨hi, e⟩ := List.getElem?_eq_some_iff.1 h
 rw [List.drop_eq_getElem_cons hi, e]
 simp [spl, addHd]
theorem spl_miss {b c : UInt8} {l : Bs} {i : Nat} (h : l[i]? = some c) (hc : c ≠ b) (p : Bs) : addHd p (spl b (l.drop i)) = addHd (p ++ [c]) (spl b (l.drop (i + 1))) := by
 obtain ⟨hi, e⟩ := List.getElem?_eq_some_iff.1 h
 rw [List.drop_eq_getElem_cons hi, e]
 simp only [spl, if_neg hc]
 rw [addHd_app]
theorem spl_end (b : UInt8) (p : Bs) : addHd p (spl b []) = [p] := by simp [spl, addHd]
theorem readG_out : ∀ (l : Bs) (a : Int) (o : List Stp), 20 ≤ o.length → readG l a o = o
 | [], _, _, _ => rfl
 | c :: r, a, o, h => by rw [readG, if_neg (by omega)]
theorem ib_lt : ∀ (l : Bs) (c : UInt8), Lib.indexByte l c < l.length
 | [], _ => by simp [Lib.indexByte]
 | b :: l, c => by
   have := ib_lt l c
   unfold Lib.indexByte
   rw [List.length_cons]
   split
   ·omega
   ·split
    ·omega
    ·omega
theorem knd_range (c : UInt8) : 0 ≤ knd c ∧ knd c ≤ 8 := by
 have h1 := Lib.indexByte_ge lts c
 have h2 := ib_lt lts c
 have h3 : (lts.length : Int) = 8 := rfl
 unfold knd
 omega
end Go.Proofs.YtdpkldapobbnpaaGreatDoor
