/- Plain: the permutations that are composed of two. -/
import Derived.Test.YtdpkldapobbnpaaGreatDoorBase
namespace Go.Proofs.YtdpkldapobbnpaaGreatDoor
set_option linter.unusedVariables false
set_option linter.unusedSimpArgs false
open Go.RowKit
abbrev Pms := List (List Int)
def gAdd (o : Pms) (p : List Int) : Pms := if p ∈ o then o else o ++ [p]
def gRound (c : Cls) (o : Pms) (q : List Int) : Pms := gAdd (gAdd o (comp q c.1)) (comp q c.2)
def gLoop (c : Cls) (most : Nat) : Nat → Nat → Pms → Option Pms
 | 0, _, _ => none
 | f + 1, i, o => match o[i]? with
   | some q => if most < (gRound c o q).length then none else gLoop c most f (i + 1) (gRound c o q)
   | none => some o
def lins (p : List Int) : Pms → Pms
 | [] => [p]
 | q :: l => if lexB p q = true then p :: q :: l else q :: lins p l
def lsrt (o : Pms) : Pms := o.foldl (fun s p => lins p s) []
def Asc (l : Pms) : Prop := l.Pairwise fun a b => lexB b a = false
end Go.Proofs.YtdpkldapobbnpaaGreatDoor
