/- The library functions that the program calls are those of the library's proved contracts: their numbers at this program, each body compared by the kernel. -/
import Derived.Shelf.Small.Wraps
import Derived.Shelf.Strings.Shaped
import Derived.Shelf.Small.Strs
import Derived.Ground.NamesProg
import Derived.Test.YtlfpnncjdoaelaaProg
namespace Go.Proofs.Ytlfpnncjdoaelaa
open Go.Shelf
def lyPre_ren : Go.Shelf.Ren := ⟨fun | 103 => 46 | 210 => 79 | 206 => 103 | n => n, fun | 9 => 9 | 4 => 4 | 24 => 79 | 3 => 3 | n => n, fun | n => n⟩
theorem lyPre : Go.Proofs.Lays.n103 Try.prog lyPre_ren := {
  mixed := by kernel_rfl
  f103 := Try.func46.trans (congrArg some (by kernel_rfl))
  f206 := Try.func103.trans (congrArg some (by kernel_rfl))
  f210 := Try.func79.trans (congrArg some (by kernel_rfl))
  t3 := Try.underlying3
  a3 := Try.isAgg3
  z3 := Try.sizeOf3
  v3 := Try.zeroValue3
  t4 := Try.underlying4
  a4 := Try.isAgg4
  z4 := Try.sizeOf4
  v4 := Try.zeroValue4
  t9 := Try.underlying9
  a9 := Try.isAgg9
  z9 := Try.sizeOf9
  v9 := Try.zeroValue9
  t24 := Try.underlying79
  a24 := Try.isAgg79
  z24 := Try.sizeOf79
  v24 := Try.zeroValue79 }
def lySuf_ren : Go.Shelf.Ren := ⟨fun | 104 => 47 | 211 => 80 | 207 => 104 | n => n, fun | 9 => 9 | 4 => 4 | 24 => 79 | 3 => 3 | n => n, fun | n => n⟩
theorem lySuf : Go.Proofs.Lays.n104 Try.prog lySuf_ren := {
  mixed := by kernel_rfl
  f104 := Try.func47.trans (congrArg some (by kernel_rfl))
  f207 := Try.func104.trans (congrArg some (by kernel_rfl))
  f211 := Try.func80.trans (congrArg some (by kernel_rfl))
  t3 := Try.underlying3
  a3 := Try.isAgg3
  z3 := Try.sizeOf3
  v3 := Try.zeroValue3
  t4 := Try.underlying4
  a4 := Try.isAgg4
  z4 := Try.sizeOf4
  v4 := Try.zeroValue4
  t9 := Try.underlying9
  a9 := Try.isAgg9
  z9 := Try.sizeOf9
  v9 := Try.zeroValue9
  t24 := Try.underlying79
  a24 := Try.isAgg79
  z24 := Try.sizeOf79
  v24 := Try.zeroValue79 }
def lyIdx_ren : Go.Shelf.Ren := ⟨fun | 137 => 81 | 217 => 105 | 266 => 114 | n => n, fun | 9 => 9 | 5 => 5 | 3 => 3 | n => n, fun | n => n⟩
theorem lyIdx : Go.Proofs.Lays.n137 Try.prog lyIdx_ren := {
  mixed := by kernel_rfl
  f137 := Try.func81.trans (congrArg some (by kernel_rfl))
  f217 := Try.func105.trans (congrArg some (by kernel_rfl))
  f266 := Try.func114.trans (congrArg some (by kernel_rfl))
  t3 := Try.underlying3
  a3 := Try.isAgg3
  z3 := Try.sizeOf3
  v3 := Try.zeroValue3
  t5 := Try.underlying5
  a5 := Try.isAgg5
  z5 := Try.sizeOf5
  v5 := Try.zeroValue5
  t9 := Try.underlying9
  a9 := Try.isAgg9
  z9 := Try.sizeOf9
  v9 := Try.zeroValue9 }
def lyCut_ren : Go.Shelf.Ren := ⟨fun | 145 => 37 | 220 => 72 | 219 => 98 | 217 => 105 | 225 => 111 | 224 => 112 | 267 => 113 | 266 => 114 | 314 => 118 | n => n, fun | 9 => 9 | 4 => 4 | 59 => 69 | 3 => 3 | 5 => 5 | 46 => 122 | 146 => 124 | 51 => 123 | n => n, fun | 1 => 0 | n => n⟩
theorem lyCut : Go.Proofs.LaysM.n145 Try.prog lyCut_ren := {
  mixed := by kernel_rfl
  f145 := Try.func37.trans (congrArg some (by kernel_rfl))
  f217 := Try.func105.trans (congrArg some (by kernel_rfl))
  f219 := Try.func98.trans (congrArg some (by kernel_rfl))
  f220 := Try.func72.trans (congrArg some (by kernel_rfl))
  f224 := Try.func112.trans (congrArg some (by kernel_rfl))
  f225 := Try.func111.trans (congrArg some (by kernel_rfl))
  f266 := Try.func114.trans (congrArg some (by kernel_rfl))
  f267 := Try.func113.trans (congrArg some (by kernel_rfl))
  f314 := Try.func118.trans (congrArg some (by kernel_rfl))
  t3 := Try.underlying3
  a3 := Try.isAgg3
  z3 := Try.sizeOf3
  v3 := Try.zeroValue3
  t4 := Try.underlying4
  a4 := Try.isAgg4
  z4 := Try.sizeOf4
  v4 := Try.zeroValue4
  t5 := Try.underlying5
  a5 := Try.isAgg5
  z5 := Try.sizeOf5
  v5 := Try.zeroValue5
  t9 := Try.underlying9
  a9 := Try.isAgg9
  z9 := Try.sizeOf9
  v9 := Try.zeroValue9
  t46 := Try.underlying122
  a46 := Try.isAgg122
  z46 := Try.sizeOf122
  v46 := Try.zeroValue122
  t51 := Try.underlying123
  a51 := Try.isAgg123
  z51 := Try.sizeOf123
  v51 := Try.zeroValue123
  t59 := Try.underlying69
  a59 := Try.isAgg69
  z59 := Try.sizeOf69
  v59 := Try.zeroValue69
  t146 := Try.underlying124
  a146 := Try.isAgg124
  z146 := Try.sizeOf124
  v146 := Try.zeroValue124
  g1 := by kernel_rfl
  i3 := by kernel_rfl
  i4 := by kernel_rfl
  i5 := by kernel_rfl
  i9 := by kernel_rfl
  i46 := by kernel_rfl
  i51 := by kernel_rfl
  i59 := by kernel_rfl
  i146 := by kernel_rfl
  m1 := by kernel_rfl
  s1_3 := fun w h => Go.Proofs.cell_of_shapedOpen_int (zero := #[.int .i64 0]) (t := 3) h (of_decide_eq_true (by kernel_rfl)) (by kernel_rfl) rfl (by kernel_rfl) (by kernel_rfl) Try.underlying3 }
end Go.Proofs.Ytlfpnncjdoaelaa
