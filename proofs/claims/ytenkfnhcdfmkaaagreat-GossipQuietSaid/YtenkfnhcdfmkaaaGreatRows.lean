/-
  No cell of these rows narrows 'for every input' (looked for: loops, veiled, ifaces, maps, wideKeys, modest, calm, conditions, laid).
  DERIVED. THE GIVEN ROWS OF THIS SEAT. 3 by the template 'for every input the law returns true; each argument reads behind the call as it read before'; 0 by the template 'total and deterministic' (their statements: YtenkfnhcdfmkaaaGreatTotals.lean).
  GIVEN WITH THE SEED: the statements are not yours to turn. If you find one false, say at which input.
  Laid BY PROGRAM, IN A SANDBOX (cutbox-rows.mjs): the forced cells as the released guide's own fill.sh prints them over the translation 4e9c02a8fd91a727… (all of the seat's roots in one cut). By AI agents, Wed Nov 11 2026. No macro, syntax, notation, axiom, sorry.
-/
import Derived.Test.YtenkfnhcdfmkaaaGreatChecked
import GoSem.Claim
import GoSem.ClaimJoined
import GoSem.ClaimMapViews
import Derived.JoinedTies
import Derived.KernelRfl
namespace Go.Proofs.YtenkfnhcdfmkaaaGreat
/- THE CELL 'sum', in the pinned program and in every row, IS THE sha256 OF THE DUMP (.gsa) THAT YtenkfnhcdfmkaaaGreatProg.lean LOADS. Nothing in Lean hashes anything: it is a label: what it is worth is what the hold of that sum in a sandbox is worth. -/
noncomputable def Tryz.pinned : Pinned := { name := "ytenkfnhcdfmkaaagreat", sum := "4e9c02a8fd91a7271dce1ba301030db97c546d80004af11c0052b27b170ab316", checked := Tryz.checked }
namespace Rows
def none {H : Type} : Left H := { results := [], args := [] }

/-- 'murmurlaw22.GossipGrows': WHATEVER THE INPUT: true; the input reads as it did. -/
def gossipGrowsSpec : ChangeSpec := { name := "gossipGrows", fn := fun _ => fun
  | [d] => { results := [.lit (.bool true)], args := [d] }
  | _ => none }
def gossipGrowsRow : OpenClaim := { program := "ytenkfnhcdfmkaaagreat", sum := "4e9c02a8fd91a7271dce1ba301030db97c546d80004af11c0052b27b170ab316", func := "murmur/murmurlaw22.GossipGrows", spec := "gossipGrows", unfollowed := true, recurses := true, plainKeys := false, apart := false }
def GossipGrowsSaid : Prop := gossipGrowsRow.holds Tryz.pinned (OpenSpec.ofChange gossipGrowsSpec)

/-- ITS FALSE NEIGHBOUR: 'it returns false'. Refute it at one input. -/
def gossipGrowsWrong : ChangeSpec := { name := "gossipGrows", fn := fun _ => fun
  | [d] => { results := [.lit (.bool false)], args := [d] }
  | _ => none }
def GossipGrowsWrongFalsely : Prop := gossipGrowsRow.holds Tryz.pinned (OpenSpec.ofChange gossipGrowsWrong)

/-- 'murmurlaw22.GossipPlays': WHATEVER THE INPUT: true; the input reads as it did. -/
def gossipPlaysSpec : ChangeSpec := { name := "gossipPlays", fn := fun _ => fun
  | [d] => { results := [.lit (.bool true)], args := [d] }
  | _ => none }
def gossipPlaysRow : OpenClaim := { program := "ytenkfnhcdfmkaaagreat", sum := "4e9c02a8fd91a7271dce1ba301030db97c546d80004af11c0052b27b170ab316", func := "murmur/murmurlaw22.GossipPlays", spec := "gossipPlays", unfollowed := true, recurses := true, plainKeys := false, apart := false }
def GossipPlaysSaid : Prop := gossipPlaysRow.holds Tryz.pinned (OpenSpec.ofChange gossipPlaysSpec)

/-- ITS FALSE NEIGHBOUR: 'it returns false'. Refute it at one input. -/
def gossipPlaysWrong : ChangeSpec := { name := "gossipPlays", fn := fun _ => fun
  | [d] => { results := [.lit (.bool false)], args := [d] }
  | _ => none }
def GossipPlaysWrongFalsely : Prop := gossipPlaysRow.holds Tryz.pinned (OpenSpec.ofChange gossipPlaysWrong)

/-- 'murmurlaw22.GossipQuiet': WHATEVER THE INPUT: true; the input reads as it did. -/
def gossipQuietSpec : ChangeSpec := { name := "gossipQuiet", fn := fun _ => fun
  | [d1, d2] => { results := [.lit (.bool true)], args := [d1, d2] }
  | _ => none }
def gossipQuietRow : OpenClaim := { program := "ytenkfnhcdfmkaaagreat", sum := "4e9c02a8fd91a7271dce1ba301030db97c546d80004af11c0052b27b170ab316", func := "murmur/murmurlaw22.GossipQuiet", spec := "gossipQuiet", unfollowed := true, recurses := true, plainKeys := false, apart := false }
def GossipQuietSaid : Prop := gossipQuietRow.holds Tryz.pinned (OpenSpec.ofChange gossipQuietSpec)

/-- ITS FALSE NEIGHBOUR: 'it returns false'. Refute it at one input. -/
def gossipQuietWrong : ChangeSpec := { name := "gossipQuiet", fn := fun _ => fun
  | [d1, d2] => { results := [.lit (.bool false)], args := [d1, d2] }
  | _ => none }
def GossipQuietWrongFalsely : Prop := gossipQuietRow.holds Tryz.pinned (OpenSpec.ofChange gossipQuietWrong)

/- THE SECOND FORM. 'bulk': how many values and letters a reading holds, each counted each time it is reached (what is shared counts as often as it is met; a slice's spare places count too). A statement '..UptoSaid' is the law's where the arguments, and the package variables that the reading takes, are together of bulk at most 1048576: NARROWER than '..Said'. Prove '..Said' where nothing that the law and all that it calls make is longer than what came in: it says more and counts as full. Else prove '..UptoSaid'. A law counts once. -/
mutual
def uptoBulk {H : Type} : DataW H → Nat
  | .lit (.string bytes) => bytes.length + 1
  | .lit _ => 1
  | .nil => 1
  | .ptr d => uptoBulk d + 1
  | .slice elems spare => uptoBulkAll elems + uptoBulkAll spare + 1
  | .agg parts => uptoBulkAll parts + 1
  | .iface _ d => uptoBulk d + 1
  | .map entries => uptoBulkEntries entries + 1
  | .held _ => 1
def uptoBulkAll {H : Type} : List (DataW H) → Nat
  | [] => 0
  | d :: r => uptoBulk d + uptoBulkAll r
def uptoBulkEntries {H : Type} : List (Lit × DataW H) → Nat
  | [] => 0
  | x :: r => uptoBulkEntry x + uptoBulkEntries r
def uptoBulkEntry {H : Type} : Lit × DataW H → Nat
  | (.string bytes, d) => bytes.length + uptoBulk d + 1
  | (_, d) => uptoBulk d + 1
 end
def uptoSmall : (H : Type) → List (DataW H) → Bool := fun _ ds => decide (uptoBulkAll ds ≤ 1048576)
def OpenSpec.upto (s : _root_.Go.ChangeSpec) : _root_.Go.OpenSpec := { _root_.Go.OpenSpec.ofChange s with cond := some uptoSmall }

/-- 'murmurlaw22.GossipGrows', WHERE WHAT IT READS IS OF BULK AT MOST 1048576: true; the input reads as it did. -/
def gossipGrowsUptoRow : OpenClaim := { program := "ytenkfnhcdfmkaaagreat", sum := "4e9c02a8fd91a7271dce1ba301030db97c546d80004af11c0052b27b170ab316", func := "murmur/murmurlaw22.GossipGrows", spec := "gossipGrows", unfollowed := true, recurses := true, plainKeys := false, apart := false, narrowed := true }
def GossipGrowsUptoSaid : Prop := gossipGrowsUptoRow.holds Tryz.pinned (OpenSpec.upto gossipGrowsSpec)

/-- 'murmurlaw22.GossipPlays', WHERE WHAT IT READS IS OF BULK AT MOST 1048576: true; the input reads as it did. -/
def gossipPlaysUptoRow : OpenClaim := { program := "ytenkfnhcdfmkaaagreat", sum := "4e9c02a8fd91a7271dce1ba301030db97c546d80004af11c0052b27b170ab316", func := "murmur/murmurlaw22.GossipPlays", spec := "gossipPlays", unfollowed := true, recurses := true, plainKeys := false, apart := false, narrowed := true }
def GossipPlaysUptoSaid : Prop := gossipPlaysUptoRow.holds Tryz.pinned (OpenSpec.upto gossipPlaysSpec)

/-- 'murmurlaw22.GossipQuiet', WHERE WHAT IT READS IS OF BULK AT MOST 1048576: true; the input reads as it did. -/
def gossipQuietUptoRow : OpenClaim := { program := "ytenkfnhcdfmkaaagreat", sum := "4e9c02a8fd91a7271dce1ba301030db97c546d80004af11c0052b27b170ab316", func := "murmur/murmurlaw22.GossipQuiet", spec := "gossipQuiet", unfollowed := true, recurses := true, plainKeys := false, apart := false, narrowed := true }
def GossipQuietUptoSaid : Prop := gossipQuietUptoRow.holds Tryz.pinned (OpenSpec.upto gossipQuietSpec)

end Rows
end Go.Proofs.YtenkfnhcdfmkaaaGreat
