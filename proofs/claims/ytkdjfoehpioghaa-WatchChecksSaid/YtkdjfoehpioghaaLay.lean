/-
  The library's functions that the program calls, laid at this program: tables of numbers and the kernel's comparisons (printed by the kit's lay-plain).
-/
import Derived.Shelf.SlLaysH
import Derived.Test.YtkdjfoehpioghaaProg
namespace Go.Proofs.Ytkdjfoehpioghaa
open Go.Shelf
def laysSlLaysH8_ren : Go.Shelf.Ren := ⟨fun | 8 => 59 | 6 => 63 | n => n, fun | 22 => 150 | 23 => 3 | 25 => 56 | 4 => 4 | 3 => 3 | 0 => 0 | n => n, fun | n => n⟩
theorem laysSlLaysH8 : Go.Proofs.SlLaysH.n8 Try.prog laysSlLaysH8_ren := {
  mixed := by kernel_rfl
  f6 := ⟨Try.f63.name, by decide, Try.func63.trans (congrArg some (by kernel_rfl))⟩
  f8 := ⟨Try.f59.name, by decide, Try.func59.trans (congrArg some (by kernel_rfl))⟩
  t0 := Try.underlying0
  a0 := Try.isAgg0
  z0 := Try.sizeOf0
  v0 := Try.zeroValue0
  t3 := Try.underlying3
  a3 := Try.isAgg3
  z3 := Try.sizeOf3
  v3 := Try.zeroValue3
  t4 := Try.underlying4
  a4 := Try.isAgg4
  z4 := Try.sizeOf4
  v4 := Try.zeroValue4
  t22 := Try.underlying150
  a22 := Try.isAgg150
  z22 := Try.sizeOf150
  v22 := Try.zeroValue150
  a23 := Try.isAgg3
  z23 := Try.sizeOf3
  t25 := Try.underlying56
  a25 := Try.isAgg56
  z25 := Try.sizeOf56
  v25 := Try.zeroValue56 }
end Go.Proofs.Ytkdjfoehpioghaa
