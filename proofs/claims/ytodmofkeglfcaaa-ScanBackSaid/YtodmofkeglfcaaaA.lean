/- Chapter 02 (scan): the library's search, laid at this program; Cut, IndexByte, HasPrefix over the abstract machine. No condition. -/
import Derived.Test.YtodmofkeglfcaaaProg
import Derived.Test.YtodmofkeglfcaaaSxS
import Derived.Shelf.Strings.Cut
namespace Go.Proofs.Ytodmofkeglfcaaa.Ch
open Go Go.Proofs Go.Shelf Go.Proofs.Ytodmofkeglfcaaa.Sx
set_option linter.unusedVariables false

def ren : Ren := ⟨fun | 145 => 42 | 217 => 50 | 219 => 52 | 220 => 49 | 224 => 55 | 225 => 54 | 266 => 53 | 267 => 56 | 314 => 57 | n => n, fun | 3 => 3 | 4 => 4 | 5 => 5 | 9 => 9 | 46 => 37 | 51 => 72 | 59 => 65 | 146 => 73 | n => n, fun | 1 => 0 | n => n⟩
theorem lays145 : Lays.n145 Try.prog ren where
  mixed := by kernel_rfl
  f145 := Try.func42.trans (congrArg some (by kernel_rfl))
  f217 := Try.func50.trans (congrArg some (by kernel_rfl))
  f219 := Try.func52.trans (congrArg some (by kernel_rfl))
  f220 := Try.func49.trans (congrArg some (by kernel_rfl))
  f224 := Try.func55.trans (congrArg some (by kernel_rfl))
  f225 := Try.func54.trans (congrArg some (by kernel_rfl))
  f266 := Try.func53.trans (congrArg some (by kernel_rfl))
  f267 := Try.func56.trans (congrArg some (by kernel_rfl))
  f314 := Try.func57.trans (congrArg some (by kernel_rfl))
  t3 := Try.underlying3
  a3 := Try.isAgg3
  z3 := Try.sizeOf3
  v3 := Try.zeroValue3
  t4 := Try.underlying4
  a4 := Try.isAgg4
  z4 := Try.sizeOf4
  v4 := Try.zeroValue4
  t5 := Try.underlying5
  a5 := Try.isAgg5
  z5 := Try.sizeOf5
  v5 := Try.zeroValue5
  t9 := Try.underlying9
  a9 := Try.isAgg9
  z9 := Try.sizeOf9
  v9 := Try.zeroValue9
  t46 := Try.underlying37
  a46 := Try.isAgg37
  z46 := Try.sizeOf37
  v46 := Try.zeroValue37
  t51 := Try.underlying72
  a51 := Try.isAgg72
  z51 := Try.sizeOf72
  v51 := Try.zeroValue72
  t59 := Try.underlying65
  a59 := Try.isAgg65
  z59 := Try.sizeOf65
  v59 := Try.zeroValue65
  t146 := Try.underlying73
  a146 := Try.isAgg73
  z146 := Try.sizeOf73
  v146 := Try.zeroValue73
  g1 := by kernel_rfl
end Go.Proofs.Ytodmofkeglfcaaa.Ch
