/- The shelf's contract of slices.DeleteFunc, laid at this program. -/
import Derived.Test.YtkmknpobinpegaaProg
import Derived.Shelf.SlicesE.DeleteFunc
import Derived.Shelf.Small.Bits
import Derived.KernelRfl
namespace Go.Proofs
open Go.Shelf
def Try.layDel_ren : Go.Shelf.Ren := ⟨fun | 6 => 23 | 10 => 19 | n => n, fun | 0 => 0 | 3 => 3 | 4 => 4 | 22 => 31 | 23 => 29 | 25 => 52 | n => n, fun n => n⟩
theorem Try.layDel : SlLaysH.n10 Try.prog Try.layDel_ren := {
  mixed := by kernel_rfl,
  f6 := ⟨Try.f23.name, by decide, Try.func23.trans (congrArg some (by kernel_rfl))⟩,
  f10 := ⟨Try.f19.name, by decide, Try.func19.trans (congrArg some (by kernel_rfl))⟩,
  t0 := Try.underlying0,
  a0 := Try.isAgg0,
  z0 := Try.sizeOf0,
  v0 := Try.zeroValue0,
  t3 := Try.underlying3,
  a3 := Try.isAgg3,
  z3 := Try.sizeOf3,
  v3 := Try.zeroValue3,
  t4 := Try.underlying4,
  a4 := Try.isAgg4,
  z4 := Try.sizeOf4,
  v4 := Try.zeroValue4,
  t22 := Try.underlying31,
  a22 := Try.isAgg31,
  z22 := Try.sizeOf31,
  v22 := Try.zeroValue31,
  a23 := Try.isAgg29,
  z23 := Try.sizeOf29,
  t25 := Try.underlying52,
  a25 := Try.isAgg52,
  z25 := Try.sizeOf52,
  v25 := Try.zeroValue52 }

def Try.layLen_ren : Go.Shelf.Ren := ⟨fun | 125 => 22 | 128 => 33 | 129 => 34 | n => n, fun | 3 => 3 | 4 => 4 | 5 => 5 | 9 => 9 | 46 => 61 | 51 => 72 | 53 => 30 | n => n, fun n => n⟩
theorem Try.layLen : Lays.n125 Try.prog Try.layLen_ren := {
  mixed := by kernel_rfl,
  f125 := Try.func22.trans (congrArg some (by kernel_rfl)),
  f128 := Try.func33.trans (congrArg some (by kernel_rfl)),
  f129 := Try.func34.trans (congrArg some (by kernel_rfl)),
  t3 := Try.underlying3,
  a3 := Try.isAgg3,
  z3 := Try.sizeOf3,
  v3 := Try.zeroValue3,
  t4 := Try.underlying4,
  a4 := Try.isAgg4,
  z4 := Try.sizeOf4,
  v4 := Try.zeroValue4,
  t5 := Try.underlying5,
  a5 := Try.isAgg5,
  z5 := Try.sizeOf5,
  v5 := Try.zeroValue5,
  t9 := Try.underlying9,
  a9 := Try.isAgg9,
  z9 := Try.sizeOf9,
  v9 := Try.zeroValue9,
  t46 := Try.underlying61,
  a46 := Try.isAgg61,
  z46 := Try.sizeOf61,
  v46 := Try.zeroValue61,
  t51 := Try.underlying72,
  a51 := Try.isAgg72,
  z51 := Try.sizeOf72,
  v51 := Try.zeroValue72,
  t53 := Try.underlying30,
  a53 := Try.isAgg30,
  z53 := Try.sizeOf30,
  v53 := Try.zeroValue30 }

#print axioms Try.layDel
end Go.Proofs
