/- Plain: the lines of a family. -/
import Derived.Test.YtiingmngeiakgaaFnd2
import Derived.Test.YtiingmngeiakgaaGrow3
namespace Go.Proofs.Ytiingmngeiakgaa
set_option linter.unusedVariables false
set_option linter.unusedSimpArgs false
open Go.RowKit

def lineTo (ps : List Per) (sex : Int) (q k : Nat) : List Int := ((List.range k).filter fun p => fo ps sex p == q).map fun (p : Nat) => (p : Int)
def linesTo (ps : List Per) (sex : Int) (m : Nat) : List (List Int) := ((List.range m).map fun q => lineTo ps sex q ps.length).filter fun l => decide (0 < l.length)
def linesV (f : Fam) (sex : Int) : List (List Int) := if (famB f && sexB sex) = true then linesTo f.1 sex f.1.length else []

theorem lineTo_in {ps : List Per} {sex : Int} {q k : Nat} (h : fo ps sex k = q) : lineTo ps sex q (k + 1) = lineTo ps sex q k ++ [(k : Int)] := by
  unfold lineTo; rw [List.range_succ, List.filter_append, List.map_append]; simp [h]
theorem lineTo_out {ps : List Per} {sex : Int} {q k : Nat} (h : ¬ fo ps sex k = q) : lineTo ps sex q (k + 1) = lineTo ps sex q k := by
  unfold lineTo; rw [List.range_succ, List.filter_append, List.map_append]; simp [h]
theorem lineTo_len (ps : List Per) (sex : Int) (q k : Nat) : (lineTo ps sex q k).length ≤ k := by
  unfold lineTo; rw [List.length_map]
  have := List.length_filter_le (fun p => fo ps sex p == q) (List.range k)
  simpa using this
theorem linesTo_in {ps : List Per} {sex : Int} {m : Nat} (h : 0 < (lineTo ps sex m ps.length).length) : linesTo ps sex (m + 1) = linesTo ps sex m ++ [lineTo ps sex m ps.length] := by
  unfold linesTo; rw [List.range_succ, List.map_append, List.filter_append]; simp [h]
theorem linesTo_out {ps : List Per} {sex : Int} {m : Nat} (h : ¬ 0 < (lineTo ps sex m ps.length).length) : linesTo ps sex (m + 1) = linesTo ps sex m := by
  unfold linesTo; rw [List.range_succ, List.map_append, List.filter_append]; simp [h]
theorem linesTo_len (ps : List Per) (sex : Int) (m : Nat) : (linesTo ps sex m).length ≤ m := by
  unfold linesTo
  have := List.length_filter_le (fun l : List Int => decide (0 < l.length)) ((List.range m).map fun q => lineTo ps sex q ps.length)
  simpa using this
end Go.Proofs.Ytiingmngeiakgaa
