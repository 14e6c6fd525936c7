/- The shelf contracts of slices.Insert and slices.BinarySearch at this translation, in plain words (written by lay-plain.mjs). -/
import Derived.Ground.Names2Prog
import Derived.Shelf.Spec.SlicesInsertGrow
import Derived.Shelf.Slices.SearchI
import Derived.Shelf.Slices.Empties
import Derived.Test.YtkjggglmemafgaaGreatProg
namespace Go.Proofs
open Go.Shelf
def Tryz.insI_ren : Go.Shelf.Ren := ⟨fun | 21 => 88 | 27 => 127 | 28 => 128 | 35 => 142 | 39 => 154 | n => n, fun | 22 => 53 | 3 => 3 | 4 => 4 | 0 => 0 | n => n, fun | n => n⟩
theorem Tryz.insI : Go.Proofs.Lays2.n21 Tryz.prog Tryz.insI_ren := {
  mixed := by kernel_rfl
  f21 := Tryz.func88.trans (congrArg some (by kernel_rfl))
  f27 := Tryz.func127.trans (congrArg some (by kernel_rfl))
  f28 := Tryz.func128.trans (congrArg some (by kernel_rfl))
  f35 := Tryz.func142.trans (congrArg some (by kernel_rfl))
  f39 := Tryz.func154.trans (congrArg some (by kernel_rfl))
  t0 := Tryz.underlying0
  a0 := Tryz.isAgg0
  z0 := Tryz.sizeOf0
  v0 := Tryz.zeroValue0
  t3 := Tryz.underlying3
  a3 := Tryz.isAgg3
  z3 := Tryz.sizeOf3
  v3 := Tryz.zeroValue3
  t4 := Tryz.underlying4
  a4 := Tryz.isAgg4
  z4 := Tryz.sizeOf4
  v4 := Tryz.zeroValue4
  t22 := Tryz.underlying53
  a22 := Tryz.isAgg53
  z22 := Tryz.sizeOf53
  v22 := Tryz.zeroValue53
  i3 := by kernel_rfl }
def Tryz.bseI_ren : Go.Shelf.Ren := ⟨fun | 25 => 87 | 31 => 125 | 32 => 126 | 37 => 141 | n => n, fun | 22 => 53 | 3 => 3 | 4 => 4 | 40 => 23 | 0 => 0 | n => n, fun | n => n⟩
theorem Tryz.bseI : Go.Proofs.Lays2.n25 Tryz.prog Tryz.bseI_ren := {
  mixed := by kernel_rfl
  f25 := Tryz.func87.trans (congrArg some (by kernel_rfl))
  f31 := Tryz.func125.trans (congrArg some (by kernel_rfl))
  f32 := Tryz.func126.trans (congrArg some (by kernel_rfl))
  f37 := Tryz.func141.trans (congrArg some (by kernel_rfl))
  t0 := Tryz.underlying0
  a0 := Tryz.isAgg0
  z0 := Tryz.sizeOf0
  v0 := Tryz.zeroValue0
  t3 := Tryz.underlying3
  a3 := Tryz.isAgg3
  z3 := Tryz.sizeOf3
  v3 := Tryz.zeroValue3
  t4 := Tryz.underlying4
  a4 := Tryz.isAgg4
  z4 := Tryz.sizeOf4
  v4 := Tryz.zeroValue4
  t22 := Tryz.underlying53
  a22 := Tryz.isAgg53
  z22 := Tryz.sizeOf53
  v22 := Tryz.zeroValue53
  t40 := Tryz.underlying23
  a40 := Tryz.isAgg23
  z40 := Tryz.sizeOf23
  v40 := Tryz.zeroValue23 }
end Go.Proofs
