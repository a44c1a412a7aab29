/-
  No cell of these rows narrows 'for every input' (looked for: loops, veiled, ifaces, maps, wideKeys, modest, calm, conditions, laid).
  DERIVED. THE GIVEN ROWS OF THIS SEAT. 4 by the template 'for every input the law returns true; each argument reads behind the call as it read before'; 0 by the template 'total and deterministic' (their statements: YtlohmmhdfabjiaaTotals.lean).
  GIVEN WITH THE SEED: the statements are not yours to turn. If you find one false, say at which input.
  Laid BY PROGRAM, IN A SANDBOX (cutbox-rows.mjs): the forced cells as the released guide's own fill.sh prints them over the translation 10d9a0683318ddc6… (all of the seat's roots in one cut). By AI agents, Wed Nov 11 2026. No macro, syntax, notation, axiom, sorry.
-/
import Derived.Test.YtlohmmhdfabjiaaChecked
import GoSem.Claim
import GoSem.ClaimJoined
import GoSem.ClaimMapViews
import Derived.JoinedTies
import Derived.KernelRfl
namespace Go.Proofs.Ytlohmmhdfabjiaa
/- THE CELL 'sum', in the pinned program and in every row, IS THE sha256 OF THE DUMP (.gsa) THAT YtlohmmhdfabjiaaProg.lean LOADS. Nothing in Lean hashes anything: it is a label: what it is worth is what the hold of that sum in a sandbox is worth. -/
noncomputable def Try.pinned : Pinned := { name := "ytlohmmhdfabjiaa", sum := "10d9a0683318ddc6d8f2148b45ec16fefa29b5072bd3a40cf2c5c9ac64b791ad", checked := Try.checked }
namespace Rows
def none {H : Type} : Left H := { results := [], args := [] }

/-- 'murmurlaw12.RankLeaves': WHATEVER THE INPUT: true; the input reads as it did. -/
def rankLeavesSpec : ChangeSpec := { name := "rankLeaves", fn := fun _ => fun
  | [d] => { results := [.lit (.bool true)], args := [d] }
  | _ => none }
def rankLeavesRow : OpenClaim := { program := "ytlohmmhdfabjiaa", sum := "10d9a0683318ddc6d8f2148b45ec16fefa29b5072bd3a40cf2c5c9ac64b791ad", func := "murmur/murmurlaw12.RankLeaves", spec := "rankLeaves", unfollowed := true, recurses := true, apart := false }
def RankLeavesSaid : Prop := rankLeavesRow.holds Try.pinned (OpenSpec.ofChange rankLeavesSpec)

/-- ITS FALSE NEIGHBOUR: 'it returns false'. Refute it at one input. -/
def rankLeavesWrong : ChangeSpec := { name := "rankLeaves", fn := fun _ => fun
  | [d] => { results := [.lit (.bool false)], args := [d] }
  | _ => none }
def RankLeavesWrongFalsely : Prop := rankLeavesRow.holds Try.pinned (OpenSpec.ofChange rankLeavesWrong)

/-- 'murmurlaw12.RankOne': WHATEVER THE INPUT: true; the input reads as it did. -/
def rankOneSpec : ChangeSpec := { name := "rankOne", fn := fun _ => fun
  | [d] => { results := [.lit (.bool true)], args := [d] }
  | _ => none }
def rankOneRow : OpenClaim := { program := "ytlohmmhdfabjiaa", sum := "10d9a0683318ddc6d8f2148b45ec16fefa29b5072bd3a40cf2c5c9ac64b791ad", func := "murmur/murmurlaw12.RankOne", spec := "rankOne", unfollowed := true, recurses := true, apart := false }
def RankOneSaid : Prop := rankOneRow.holds Try.pinned (OpenSpec.ofChange rankOneSpec)

/-- ITS FALSE NEIGHBOUR: 'it returns false'. Refute it at one input. -/
def rankOneWrong : ChangeSpec := { name := "rankOne", fn := fun _ => fun
  | [d] => { results := [.lit (.bool false)], args := [d] }
  | _ => none }
def RankOneWrongFalsely : Prop := rankOneRow.holds Try.pinned (OpenSpec.ofChange rankOneWrong)

/-- 'murmurlaw12.RankOrders': WHATEVER THE INPUT: true; the input reads as it did. -/
def rankOrdersSpec : ChangeSpec := { name := "rankOrders", fn := fun _ => fun
  | [d1, d2, d3] => { results := [.lit (.bool true)], args := [d1, d2, d3] }
  | _ => none }
def rankOrdersRow : OpenClaim := { program := "ytlohmmhdfabjiaa", sum := "10d9a0683318ddc6d8f2148b45ec16fefa29b5072bd3a40cf2c5c9ac64b791ad", func := "murmur/murmurlaw12.RankOrders", spec := "rankOrders", unfollowed := true, recurses := true, apart := false }
def RankOrdersSaid : Prop := rankOrdersRow.holds Try.pinned (OpenSpec.ofChange rankOrdersSpec)

/-- ITS FALSE NEIGHBOUR: 'it returns false'. Refute it at one input. -/
def rankOrdersWrong : ChangeSpec := { name := "rankOrders", fn := fun _ => fun
  | [d1, d2, d3] => { results := [.lit (.bool false)], args := [d1, d2, d3] }
  | _ => none }
def RankOrdersWrongFalsely : Prop := rankOrdersRow.holds Try.pinned (OpenSpec.ofChange rankOrdersWrong)

/-- 'murmurlaw12.RankShares': WHATEVER THE INPUT: true; the input reads as it did. -/
def rankSharesSpec : ChangeSpec := { name := "rankShares", fn := fun _ => fun
  | [d1, d2] => { results := [.lit (.bool true)], args := [d1, d2] }
  | _ => none }
def rankSharesRow : OpenClaim := { program := "ytlohmmhdfabjiaa", sum := "10d9a0683318ddc6d8f2148b45ec16fefa29b5072bd3a40cf2c5c9ac64b791ad", func := "murmur/murmurlaw12.RankShares", spec := "rankShares", unfollowed := true, recurses := true, apart := false }
def RankSharesSaid : Prop := rankSharesRow.holds Try.pinned (OpenSpec.ofChange rankSharesSpec)

/-- ITS FALSE NEIGHBOUR: 'it returns false'. Refute it at one input. -/
def rankSharesWrong : ChangeSpec := { name := "rankShares", fn := fun _ => fun
  | [d1, d2] => { results := [.lit (.bool false)], args := [d1, d2] }
  | _ => none }
def RankSharesWrongFalsely : Prop := rankSharesRow.holds Try.pinned (OpenSpec.ofChange rankSharesWrong)

/- THE SECOND FORM. 'bulk': how many values and letters a reading holds, each counted each time it is reached (what is shared counts as often as it is met; a slice's spare places count too). A statement '..UptoSaid' is the law's where the arguments, and the package variables that the reading takes, are together of bulk at most 1048576: NARROWER than '..Said'. Prove '..Said' where nothing that the law and all that it calls make is longer than what came in: it says more and counts as full. Else prove '..UptoSaid'. A law counts once. -/
mutual
def uptoBulk {H : Type} : DataW H → Nat
  | .lit (.string bytes) => bytes.length + 1
  | .lit _ => 1
  | .nil => 1
  | .ptr d => uptoBulk d + 1
  | .slice elems spare => uptoBulkAll elems + uptoBulkAll spare + 1
  | .agg parts => uptoBulkAll parts + 1
  | .iface _ d => uptoBulk d + 1
  | .map entries => uptoBulkEntries entries + 1
  | .held _ => 1
def uptoBulkAll {H : Type} : List (DataW H) → Nat
  | [] => 0
  | d :: r => uptoBulk d + uptoBulkAll r
def uptoBulkEntries {H : Type} : List (Lit × DataW H) → Nat
  | [] => 0
  | x :: r => uptoBulkEntry x + uptoBulkEntries r
def uptoBulkEntry {H : Type} : Lit × DataW H → Nat
  | (.string bytes, d) => bytes.length + uptoBulk d + 1
  | (_, d) => uptoBulk d + 1
 end
def uptoSmall : (H : Type) → List (DataW H) → Bool := fun _ ds => decide (uptoBulkAll ds ≤ 1048576)
def OpenSpec.upto (s : _root_.Go.ChangeSpec) : _root_.Go.OpenSpec := { _root_.Go.OpenSpec.ofChange s with cond := some uptoSmall }

/-- 'murmurlaw12.RankLeaves', WHERE WHAT IT READS IS OF BULK AT MOST 1048576: true; the input reads as it did. -/
def rankLeavesUptoRow : OpenClaim := { program := "ytlohmmhdfabjiaa", sum := "10d9a0683318ddc6d8f2148b45ec16fefa29b5072bd3a40cf2c5c9ac64b791ad", func := "murmur/murmurlaw12.RankLeaves", spec := "rankLeaves", unfollowed := true, recurses := true, apart := false, narrowed := true }
def RankLeavesUptoSaid : Prop := rankLeavesUptoRow.holds Try.pinned (OpenSpec.upto rankLeavesSpec)

/-- 'murmurlaw12.RankOne', WHERE WHAT IT READS IS OF BULK AT MOST 1048576: true; the input reads as it did. -/
def rankOneUptoRow : OpenClaim := { program := "ytlohmmhdfabjiaa", sum := "10d9a0683318ddc6d8f2148b45ec16fefa29b5072bd3a40cf2c5c9ac64b791ad", func := "murmur/murmurlaw12.RankOne", spec := "rankOne", unfollowed := true, recurses := true, apart := false, narrowed := true }
def RankOneUptoSaid : Prop := rankOneUptoRow.holds Try.pinned (OpenSpec.upto rankOneSpec)

/-- 'murmurlaw12.RankOrders', WHERE WHAT IT READS IS OF BULK AT MOST 1048576: true; the input reads as it did. -/
def rankOrdersUptoRow : OpenClaim := { program := "ytlohmmhdfabjiaa", sum := "10d9a0683318ddc6d8f2148b45ec16fefa29b5072bd3a40cf2c5c9ac64b791ad", func := "murmur/murmurlaw12.RankOrders", spec := "rankOrders", unfollowed := true, recurses := true, apart := false, narrowed := true }
def RankOrdersUptoSaid : Prop := rankOrdersUptoRow.holds Try.pinned (OpenSpec.upto rankOrdersSpec)

/-- 'murmurlaw12.RankShares', WHERE WHAT IT READS IS OF BULK AT MOST 1048576: true; the input reads as it did. -/
def rankSharesUptoRow : OpenClaim := { program := "ytlohmmhdfabjiaa", sum := "10d9a0683318ddc6d8f2148b45ec16fefa29b5072bd3a40cf2c5c9ac64b791ad", func := "murmur/murmurlaw12.RankShares", spec := "rankShares", unfollowed := true, recurses := true, apart := false, narrowed := true }
def RankSharesUptoSaid : Prop := rankSharesUptoRow.holds Try.pinned (OpenSpec.upto rankSharesSpec)

end Rows
end Go.Proofs.Ytlohmmhdfabjiaa
