/- Plain: the sample rules. Written by smp_gen.py. -/
import Derived.Test.YtdpkldapobbnpaaGreatDoorPrsS3
namespace Go.Proofs.YtdpkldapobbnpaaGreatDoor
set_option linter.unusedVariables false
set_option linter.unusedSimpArgs false
open Go.RowKit
def halfL : List Bs := [[102, 115, 58, 32, 70, 83, 32, 45, 62, 32, 66], [102, 100, 58, 32, 70, 68, 32, 45, 62, 32, 90], [109, 115, 58, 32, 77, 83, 32, 45, 62, 32, 66], [109, 100, 58, 32, 77, 68, 32, 45, 62, 32, 90]]
def mer6L : List Bs := [[102, 98, 58, 32, 70, 66, 32, 45, 62, 32, 70], [109, 122, 58, 32, 77, 90, 32, 45, 62, 32, 77], [98, 115, 58, 32, 109, 58, 66, 83, 32, 45, 62, 32, 83], [98, 100, 58, 32, 109, 58, 66, 68, 32, 45, 62, 32, 68], [122, 115, 58, 32, 119, 58, 90, 83, 32, 45, 62, 32, 83], [122, 100, 58, 32, 119, 58, 90, 68, 32, 45, 62, 32, 68]]
def gen8L : List Bs := [[102, 98, 58, 32, 70, 66, 32, 45, 62, 32, 70], [102, 122, 58, 32, 70, 90, 32, 45, 62, 32, 77], [109, 98, 58, 32, 77, 66, 32, 45, 62, 32, 70], [109, 122, 58, 32, 77, 90, 32, 45, 62, 32, 77], [98, 115, 58, 32, 66, 83, 32, 45, 62, 32, 83], [98, 100, 58, 32, 66, 68, 32, 45, 62, 32, 68], [122, 115, 58, 32, 90, 83, 32, 45, 62, 32, 83], [122, 100, 58, 32, 90, 68, 32, 45, 62, 32, 68]]
def two2L : List Bs := [[109, 98, 115, 58, 32, 77, 66, 83, 32, 45, 62, 32, 77, 66], [109, 98, 100, 58, 32, 77, 66, 68, 32, 45, 62, 32, 77]]
def smpT (l : Bs) : List Bs := if l = [103, 101, 110, 101, 114, 97, 116, 105, 111, 110] then gen8L ++ halfL else if l = [109, 101, 114, 103, 105, 110, 103] then mer6L ++ halfL else if l = [115, 107, 101, 119, 105, 110, 103] then (mer6L ++ halfL) ++ two2L else []
def ruleSG (l : Bs) : Rul := (ruleS l).getD rul0
def ruleIG (l : Bs) : Rul := (ruleI l).getD rul0
def smpX (l : Bs) : List Rul := (smpT l).map ruleSG
theorem smpT_len (l : Bs) : (smpT l).length ≤ 12 := by
 unfold smpT
 split
 ·decide
 ·split
  ·decide
  ·split
   ·decide
   ·decide
theorem smpX_len (l : Bs) : (smpX l).length ≤ 12 := by unfold smpX; rw [List.length_map]; exact smpT_len l
def smallR (r : Rul) : Bool := decide (r.1.size ≤ 12) && (decide (r.2.2.2.1.length ≤ 4) && decide (r.2.2.2.2.length ≤ 4))
end Go.Proofs.YtdpkldapobbnpaaGreatDoor
