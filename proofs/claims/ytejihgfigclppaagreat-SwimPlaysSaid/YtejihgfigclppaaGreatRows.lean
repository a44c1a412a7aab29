/-
  No cell of these rows narrows 'for every input' (looked for: loops, veiled, ifaces, maps, wideKeys, modest, calm, conditions, laid).
  DERIVED. THE GIVEN ROWS OF THIS SEAT. 6 by the template 'for every input the law returns true; each argument reads behind the call as it read before'; 0 by the template 'total and deterministic' (their statements: YtejihgfigclppaaGreatTotals.lean).
  GIVEN WITH THE SEED: the statements are not yours to turn. If you find one false, say at which input.
  Laid BY PROGRAM, IN A SANDBOX (cutbox-rows.mjs): the forced cells as the released guide's own fill.sh prints them over the translation e6337f7932d132ba… (all of the seat's roots in one cut). By AI agents, Wed Nov 11 2026. No macro, syntax, notation, axiom, sorry.
-/
import Derived.Test.YtejihgfigclppaaGreatChecked
import GoSem.Claim
import GoSem.ClaimJoined
import GoSem.ClaimMapViews
import Derived.JoinedTies
import Derived.KernelRfl
namespace Go.Proofs.YtejihgfigclppaaGreat
/- THE CELL 'sum', in the pinned program and in every row, IS THE sha256 OF THE DUMP (.gsa) THAT YtejihgfigclppaaGreatProg.lean LOADS. Nothing in Lean hashes anything: it is a label: what it is worth is what the hold of that sum in a sandbox is worth. -/
noncomputable def Tryz.pinned : Pinned := { name := "ytejihgfigclppaagreat", sum := "e6337f7932d132ba6ed7540a55a48f5ea4114bceab745241d8425eeeae4d3982", checked := Tryz.checked }
namespace Rows
def none {H : Type} : Left H := { results := [], args := [] }

/-- 'murmurlaw20.SwimAnswers': WHATEVER THE INPUT: true; the input reads as it did. -/
def swimAnswersSpec : ChangeSpec := { name := "swimAnswers", fn := fun _ => fun
  | [d] => { results := [.lit (.bool true)], args := [d] }
  | _ => none }
def swimAnswersRow : OpenClaim := { program := "ytejihgfigclppaagreat", sum := "e6337f7932d132ba6ed7540a55a48f5ea4114bceab745241d8425eeeae4d3982", func := "murmur/murmurlaw20.SwimAnswers", spec := "swimAnswers", unfollowed := true, recurses := true, apart := false }
def SwimAnswersSaid : Prop := swimAnswersRow.holds Tryz.pinned (OpenSpec.ofChange swimAnswersSpec)

/-- ITS FALSE NEIGHBOUR: 'it returns false'. Refute it at one input. -/
def swimAnswersWrong : ChangeSpec := { name := "swimAnswers", fn := fun _ => fun
  | [d] => { results := [.lit (.bool false)], args := [d] }
  | _ => none }
def SwimAnswersWrongFalsely : Prop := swimAnswersRow.holds Tryz.pinned (OpenSpec.ofChange swimAnswersWrong)

/-- 'murmurlaw20.SwimFinds': WHATEVER THE INPUT: true; the input reads as it did. -/
def swimFindsSpec : ChangeSpec := { name := "swimFinds", fn := fun _ => fun
  | [d1, d2, d3] => { results := [.lit (.bool true)], args := [d1, d2, d3] }
  | _ => none }
def swimFindsRow : OpenClaim := { program := "ytejihgfigclppaagreat", sum := "e6337f7932d132ba6ed7540a55a48f5ea4114bceab745241d8425eeeae4d3982", func := "murmur/murmurlaw20.SwimFinds", spec := "swimFinds", unfollowed := true, recurses := true, apart := false }
def SwimFindsSaid : Prop := swimFindsRow.holds Tryz.pinned (OpenSpec.ofChange swimFindsSpec)

/-- ITS FALSE NEIGHBOUR: 'it returns false'. Refute it at one input. -/
def swimFindsWrong : ChangeSpec := { name := "swimFinds", fn := fun _ => fun
  | [d1, d2, d3] => { results := [.lit (.bool false)], args := [d1, d2, d3] }
  | _ => none }
def SwimFindsWrongFalsely : Prop := swimFindsRow.holds Tryz.pinned (OpenSpec.ofChange swimFindsWrong)

/-- 'murmurlaw20.SwimErrands': WHATEVER THE INPUT: true; the input reads as it did. -/
def swimErrandsSpec : ChangeSpec := { name := "swimErrands", fn := fun _ => fun
  | [d] => { results := [.lit (.bool true)], args := [d] }
  | _ => none }
def swimErrandsRow : OpenClaim := { program := "ytejihgfigclppaagreat", sum := "e6337f7932d132ba6ed7540a55a48f5ea4114bceab745241d8425eeeae4d3982", func := "murmur/murmurlaw20.SwimErrands", spec := "swimErrands", unfollowed := true, recurses := true, apart := false }
def SwimErrandsSaid : Prop := swimErrandsRow.holds Tryz.pinned (OpenSpec.ofChange swimErrandsSpec)

/-- ITS FALSE NEIGHBOUR: 'it returns false'. Refute it at one input. -/
def swimErrandsWrong : ChangeSpec := { name := "swimErrands", fn := fun _ => fun
  | [d] => { results := [.lit (.bool false)], args := [d] }
  | _ => none }
def SwimErrandsWrongFalsely : Prop := swimErrandsRow.holds Tryz.pinned (OpenSpec.ofChange swimErrandsWrong)

/-- 'murmurlaw20.SwimOwn': WHATEVER THE INPUT: true; the input reads as it did. -/
def swimOwnSpec : ChangeSpec := { name := "swimOwn", fn := fun _ => fun
  | [d1, d2] => { results := [.lit (.bool true)], args := [d1, d2] }
  | _ => none }
def swimOwnRow : OpenClaim := { program := "ytejihgfigclppaagreat", sum := "e6337f7932d132ba6ed7540a55a48f5ea4114bceab745241d8425eeeae4d3982", func := "murmur/murmurlaw20.SwimOwn", spec := "swimOwn", unfollowed := true, recurses := true, apart := false }
def SwimOwnSaid : Prop := swimOwnRow.holds Tryz.pinned (OpenSpec.ofChange swimOwnSpec)

/-- ITS FALSE NEIGHBOUR: 'it returns false'. Refute it at one input. -/
def swimOwnWrong : ChangeSpec := { name := "swimOwn", fn := fun _ => fun
  | [d1, d2] => { results := [.lit (.bool false)], args := [d1, d2] }
  | _ => none }
def SwimOwnWrongFalsely : Prop := swimOwnRow.holds Tryz.pinned (OpenSpec.ofChange swimOwnWrong)

/-- 'murmurlaw20.SwimLeaves': WHATEVER THE INPUT: true; the input reads as it did. -/
def swimLeavesSpec : ChangeSpec := { name := "swimLeaves", fn := fun _ => fun
  | [d1, d2] => { results := [.lit (.bool true)], args := [d1, d2] }
  | _ => none }
def swimLeavesRow : OpenClaim := { program := "ytejihgfigclppaagreat", sum := "e6337f7932d132ba6ed7540a55a48f5ea4114bceab745241d8425eeeae4d3982", func := "murmur/murmurlaw20.SwimLeaves", spec := "swimLeaves", unfollowed := true, recurses := true, apart := false }
def SwimLeavesSaid : Prop := swimLeavesRow.holds Tryz.pinned (OpenSpec.ofChange swimLeavesSpec)

/-- ITS FALSE NEIGHBOUR: 'it returns false'. Refute it at one input. -/
def swimLeavesWrong : ChangeSpec := { name := "swimLeaves", fn := fun _ => fun
  | [d1, d2] => { results := [.lit (.bool false)], args := [d1, d2] }
  | _ => none }
def SwimLeavesWrongFalsely : Prop := swimLeavesRow.holds Tryz.pinned (OpenSpec.ofChange swimLeavesWrong)

/-- 'murmurlaw20.SwimPlays': WHATEVER THE INPUT: true; the input reads as it did. -/
def swimPlaysSpec : ChangeSpec := { name := "swimPlays", fn := fun _ => fun
  | [d1, d2] => { results := [.lit (.bool true)], args := [d1, d2] }
  | _ => none }
def swimPlaysRow : OpenClaim := { program := "ytejihgfigclppaagreat", sum := "e6337f7932d132ba6ed7540a55a48f5ea4114bceab745241d8425eeeae4d3982", func := "murmur/murmurlaw20.SwimPlays", spec := "swimPlays", unfollowed := true, recurses := true, apart := false }
def SwimPlaysSaid : Prop := swimPlaysRow.holds Tryz.pinned (OpenSpec.ofChange swimPlaysSpec)

/-- ITS FALSE NEIGHBOUR: 'it returns false'. Refute it at one input. -/
def swimPlaysWrong : ChangeSpec := { name := "swimPlays", fn := fun _ => fun
  | [d1, d2] => { results := [.lit (.bool false)], args := [d1, d2] }
  | _ => none }
def SwimPlaysWrongFalsely : Prop := swimPlaysRow.holds Tryz.pinned (OpenSpec.ofChange swimPlaysWrong)

/- THE SECOND FORM. 'bulk': how many values and letters a reading holds, each counted each time it is reached (what is shared counts as often as it is met; a slice's spare places count too). A statement '..UptoSaid' is the law's where the arguments, and the package variables that the reading takes, are together of bulk at most 1048576: NARROWER than '..Said'. Prove '..Said' where nothing that the law and all that it calls make is longer than what came in: it says more and counts as full. Else prove '..UptoSaid'. A law counts once. -/
mutual
def uptoBulk {H : Type} : DataW H → Nat
  | .lit (.string bytes) => bytes.length + 1
  | .lit _ => 1
  | .nil => 1
  | .ptr d => uptoBulk d + 1
  | .slice elems spare => uptoBulkAll elems + uptoBulkAll spare + 1
  | .agg parts => uptoBulkAll parts + 1
  | .iface _ d => uptoBulk d + 1
  | .map entries => uptoBulkEntries entries + 1
  | .held _ => 1
def uptoBulkAll {H : Type} : List (DataW H) → Nat
  | [] => 0
  | d :: r => uptoBulk d + uptoBulkAll r
def uptoBulkEntries {H : Type} : List (Lit × DataW H) → Nat
  | [] => 0
  | x :: r => uptoBulkEntry x + uptoBulkEntries r
def uptoBulkEntry {H : Type} : Lit × DataW H → Nat
  | (.string bytes, d) => bytes.length + uptoBulk d + 1
  | (_, d) => uptoBulk d + 1
 end
def uptoSmall : (H : Type) → List (DataW H) → Bool := fun _ ds => decide (uptoBulkAll ds ≤ 1048576)
def OpenSpec.upto (s : _root_.Go.ChangeSpec) : _root_.Go.OpenSpec := { _root_.Go.OpenSpec.ofChange s with cond := some uptoSmall }

/-- 'murmurlaw20.SwimAnswers', WHERE WHAT IT READS IS OF BULK AT MOST 1048576: true; the input reads as it did. -/
def swimAnswersUptoRow : OpenClaim := { program := "ytejihgfigclppaagreat", sum := "e6337f7932d132ba6ed7540a55a48f5ea4114bceab745241d8425eeeae4d3982", func := "murmur/murmurlaw20.SwimAnswers", spec := "swimAnswers", unfollowed := true, recurses := true, apart := false, narrowed := true }
def SwimAnswersUptoSaid : Prop := swimAnswersUptoRow.holds Tryz.pinned (OpenSpec.upto swimAnswersSpec)

/-- 'murmurlaw20.SwimFinds', WHERE WHAT IT READS IS OF BULK AT MOST 1048576: true; the input reads as it did. -/
def swimFindsUptoRow : OpenClaim := { program := "ytejihgfigclppaagreat", sum := "e6337f7932d132ba6ed7540a55a48f5ea4114bceab745241d8425eeeae4d3982", func := "murmur/murmurlaw20.SwimFinds", spec := "swimFinds", unfollowed := true, recurses := true, apart := false, narrowed := true }
def SwimFindsUptoSaid : Prop := swimFindsUptoRow.holds Tryz.pinned (OpenSpec.upto swimFindsSpec)

/-- 'murmurlaw20.SwimErrands', WHERE WHAT IT READS IS OF BULK AT MOST 1048576: true; the input reads as it did. -/
def swimErrandsUptoRow : OpenClaim := { program := "ytejihgfigclppaagreat", sum := "e6337f7932d132ba6ed7540a55a48f5ea4114bceab745241d8425eeeae4d3982", func := "murmur/murmurlaw20.SwimErrands", spec := "swimErrands", unfollowed := true, recurses := true, apart := false, narrowed := true }
def SwimErrandsUptoSaid : Prop := swimErrandsUptoRow.holds Tryz.pinned (OpenSpec.upto swimErrandsSpec)

/-- 'murmurlaw20.SwimOwn', WHERE WHAT IT READS IS OF BULK AT MOST 1048576: true; the input reads as it did. -/
def swimOwnUptoRow : OpenClaim := { program := "ytejihgfigclppaagreat", sum := "e6337f7932d132ba6ed7540a55a48f5ea4114bceab745241d8425eeeae4d3982", func := "murmur/murmurlaw20.SwimOwn", spec := "swimOwn", unfollowed := true, recurses := true, apart := false, narrowed := true }
def SwimOwnUptoSaid : Prop := swimOwnUptoRow.holds Tryz.pinned (OpenSpec.upto swimOwnSpec)

/-- 'murmurlaw20.SwimLeaves', WHERE WHAT IT READS IS OF BULK AT MOST 1048576: true; the input reads as it did. -/
def swimLeavesUptoRow : OpenClaim := { program := "ytejihgfigclppaagreat", sum := "e6337f7932d132ba6ed7540a55a48f5ea4114bceab745241d8425eeeae4d3982", func := "murmur/murmurlaw20.SwimLeaves", spec := "swimLeaves", unfollowed := true, recurses := true, apart := false, narrowed := true }
def SwimLeavesUptoSaid : Prop := swimLeavesUptoRow.holds Tryz.pinned (OpenSpec.upto swimLeavesSpec)

/-- 'murmurlaw20.SwimPlays', WHERE WHAT IT READS IS OF BULK AT MOST 1048576: true; the input reads as it did. -/
def swimPlaysUptoRow : OpenClaim := { program := "ytejihgfigclppaagreat", sum := "e6337f7932d132ba6ed7540a55a48f5ea4114bceab745241d8425eeeae4d3982", func := "murmur/murmurlaw20.SwimPlays", spec := "swimPlays", unfollowed := true, recurses := true, apart := false, narrowed := true }
def SwimPlaysUptoSaid : Prop := swimPlaysUptoRow.holds Tryz.pinned (OpenSpec.upto swimPlaysSpec)

end Rows
end Go.Proofs.YtejihgfigclppaaGreat
