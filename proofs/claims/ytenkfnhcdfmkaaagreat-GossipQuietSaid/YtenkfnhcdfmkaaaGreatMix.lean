/-
  Both mixings: stir, Hash and Weight, of the program and of the reference: the same number of the same bytes.
-/
import Derived.Test.YtenkfnhcdfmkaaaGreatMRd
import Derived.Deep.DeepCutAuto
namespace Go.Proofs.YtenkfnhcdfmkaaaGreat
open Go.RowKit Go.Lib Go.Sort
set_option linter.unusedVariables false
def mix1 (x : Int) : Int := IntKind.u64.wrap (bits BinOp.xor IntKind.u64 x (x / 1073741824) * 13787848793156543929)
def mix2 (x : Int) : Int := IntKind.u64.wrap (bits BinOp.xor IntKind.u64 x (x / 134217728) * 10723151780598845931)
def stirI (x : Int) : Int := bits BinOp.xor IntKind.u64 (mix2 (mix1 x)) (mix2 (mix1 x) / 2147483648)
def hstep (x c : Int) : Int := IntKind.u64.wrap (bits BinOp.xor IntKind.u64 x c * 1099511628211)
set_option maxHeartbeats 1000000 in
theorem stir_any (x : Int) (W : World) : Calls Tryz.prog 128 #[.int .u64 x] W fun e w' => e = .returned (.int .u64 (stirI x)) ∧ w' = W := by
 go_enter Tryz.func128, Tryz.ntmps128
 go_wp2_with fail
 go_ret
 exact ⟨rfl, rfl⟩
end Go.Proofs.YtenkfnhcdfmkaaaGreat
