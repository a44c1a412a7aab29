/-
  No cell of these rows narrows 'for every input' (looked for: loops, veiled, ifaces, maps, wideKeys, modest, calm, conditions, laid).
  DERIVED. THE GIVEN ROWS OF THIS SEAT. 7 by the template 'for every input the law returns true; each argument reads behind the call as it read before'; 0 by the template 'total and deterministic' (their statements: YtfbbafmklahmmaaTotals.lean).
  GIVEN WITH THE SEED: the statements are not yours to turn. If you find one false, say at which input.
  Laid BY PROGRAM, IN A SANDBOX (cutbox-rows.mjs): the forced cells as the released guide's own fill.sh prints them over the translation e9e24187d47db58b… (all of the seat's roots in one cut). By AI agents, Wed Nov 11 2026. No macro, syntax, notation, axiom, sorry.
-/
import Derived.Test.YtfbbafmklahmmaaChecked
import GoSem.Claim
import GoSem.ClaimJoined
import GoSem.ClaimMapViews
import Derived.JoinedTies
import Derived.KernelRfl
namespace Go.Proofs.Ytfbbafmklahmmaa
/- THE CELL 'sum', in the pinned program and in every row, IS THE sha256 OF THE DUMP (.gsa) THAT YtfbbafmklahmmaaProg.lean LOADS. Nothing in Lean hashes anything: it is a label: what it is worth is what the hold of that sum in a sandbox is worth. -/
noncomputable def Try.pinned : Pinned := { name := "ytfbbafmklahmmaa", sum := "e9e24187d47db58be317fb6481025fea4ae7f6939f3e414dd51623f1dfaa67f2", checked := Try.checked }
namespace Rows
def none {H : Type} : Left H := { results := [], args := [] }

/-- 'murmurlaw10.WindowLoads': WHATEVER THE INPUT: true; the input reads as it did. -/
def windowLoadsSpec : ChangeSpec := { name := "windowLoads", fn := fun _ => fun
  | [d] => { results := [.lit (.bool true)], args := [d] }
  | _ => none }
def windowLoadsRow : OpenClaim := { program := "ytfbbafmklahmmaa", sum := "e9e24187d47db58be317fb6481025fea4ae7f6939f3e414dd51623f1dfaa67f2", func := "murmur/murmurlaw10.WindowLoads", spec := "windowLoads", unfollowed := true, recurses := true, apart := false }
def WindowLoadsSaid : Prop := windowLoadsRow.holds Try.pinned (OpenSpec.ofChange windowLoadsSpec)

/-- ITS FALSE NEIGHBOUR: 'it returns false'. Refute it at one input. -/
def windowLoadsWrong : ChangeSpec := { name := "windowLoads", fn := fun _ => fun
  | [d] => { results := [.lit (.bool false)], args := [d] }
  | _ => none }
def WindowLoadsWrongFalsely : Prop := windowLoadsRow.holds Try.pinned (OpenSpec.ofChange windowLoadsWrong)

/-- 'murmurlaw10.WindowTurns': WHATEVER THE INPUT: true; the input reads as it did. -/
def windowTurnsSpec : ChangeSpec := { name := "windowTurns", fn := fun _ => fun
  | [d] => { results := [.lit (.bool true)], args := [d] }
  | _ => none }
def windowTurnsRow : OpenClaim := { program := "ytfbbafmklahmmaa", sum := "e9e24187d47db58be317fb6481025fea4ae7f6939f3e414dd51623f1dfaa67f2", func := "murmur/murmurlaw10.WindowTurns", spec := "windowTurns", unfollowed := true, recurses := true, apart := false }
def WindowTurnsSaid : Prop := windowTurnsRow.holds Try.pinned (OpenSpec.ofChange windowTurnsSpec)

/-- ITS FALSE NEIGHBOUR: 'it returns false'. Refute it at one input. -/
def windowTurnsWrong : ChangeSpec := { name := "windowTurns", fn := fun _ => fun
  | [d] => { results := [.lit (.bool false)], args := [d] }
  | _ => none }
def WindowTurnsWrongFalsely : Prop := windowTurnsRow.holds Try.pinned (OpenSpec.ofChange windowTurnsWrong)

/-- 'murmurlaw10.WindowMeans': WHATEVER THE INPUT: true; the input reads as it did. -/
def windowMeansSpec : ChangeSpec := { name := "windowMeans", fn := fun _ => fun
  | [d] => { results := [.lit (.bool true)], args := [d] }
  | _ => none }
def windowMeansRow : OpenClaim := { program := "ytfbbafmklahmmaa", sum := "e9e24187d47db58be317fb6481025fea4ae7f6939f3e414dd51623f1dfaa67f2", func := "murmur/murmurlaw10.WindowMeans", spec := "windowMeans", unfollowed := true, recurses := true, apart := false }
def WindowMeansSaid : Prop := windowMeansRow.holds Try.pinned (OpenSpec.ofChange windowMeansSpec)

/-- ITS FALSE NEIGHBOUR: 'it returns false'. Refute it at one input. -/
def windowMeansWrong : ChangeSpec := { name := "windowMeans", fn := fun _ => fun
  | [d] => { results := [.lit (.bool false)], args := [d] }
  | _ => none }
def WindowMeansWrongFalsely : Prop := windowMeansRow.holds Try.pinned (OpenSpec.ofChange windowMeansWrong)

/-- 'murmurlaw10.WindowAdds': WHATEVER THE INPUT: true; the input reads as it did. -/
def windowAddsSpec : ChangeSpec := { name := "windowAdds", fn := fun _ => fun
  | [d1, d2, d3] => { results := [.lit (.bool true)], args := [d1, d2, d3] }
  | _ => none }
def windowAddsRow : OpenClaim := { program := "ytfbbafmklahmmaa", sum := "e9e24187d47db58be317fb6481025fea4ae7f6939f3e414dd51623f1dfaa67f2", func := "murmur/murmurlaw10.WindowAdds", spec := "windowAdds", unfollowed := true, recurses := true, apart := false }
def WindowAddsSaid : Prop := windowAddsRow.holds Try.pinned (OpenSpec.ofChange windowAddsSpec)

/-- ITS FALSE NEIGHBOUR: 'it returns false'. Refute it at one input. -/
def windowAddsWrong : ChangeSpec := { name := "windowAdds", fn := fun _ => fun
  | [d1, d2, d3] => { results := [.lit (.bool false)], args := [d1, d2, d3] }
  | _ => none }
def WindowAddsWrongFalsely : Prop := windowAddsRow.holds Try.pinned (OpenSpec.ofChange windowAddsWrong)

/-- 'murmurlaw09.PolicyAsked': WHATEVER THE INPUT: true; the input reads as it did. -/
def policyAskedSpec : ChangeSpec := { name := "policyAsked", fn := fun _ => fun
  | [d1, d2] => { results := [.lit (.bool true)], args := [d1, d2] }
  | _ => none }
def policyAskedRow : OpenClaim := { program := "ytfbbafmklahmmaa", sum := "e9e24187d47db58be317fb6481025fea4ae7f6939f3e414dd51623f1dfaa67f2", func := "murmur/murmurlaw09.PolicyAsked", spec := "policyAsked", unfollowed := true, recurses := true, apart := false }
def PolicyAskedSaid : Prop := policyAskedRow.holds Try.pinned (OpenSpec.ofChange policyAskedSpec)

/-- ITS FALSE NEIGHBOUR: 'it returns false'. Refute it at one input. -/
def policyAskedWrong : ChangeSpec := { name := "policyAsked", fn := fun _ => fun
  | [d1, d2] => { results := [.lit (.bool false)], args := [d1, d2] }
  | _ => none }
def PolicyAskedWrongFalsely : Prop := policyAskedRow.holds Try.pinned (OpenSpec.ofChange policyAskedWrong)

/-- 'murmurlaw09.PolicyWins': WHATEVER THE INPUT: true; the input reads as it did. -/
def policyWinsSpec : ChangeSpec := { name := "policyWins", fn := fun _ => fun
  | [d1, d2, d3] => { results := [.lit (.bool true)], args := [d1, d2, d3] }
  | _ => none }
def policyWinsRow : OpenClaim := { program := "ytfbbafmklahmmaa", sum := "e9e24187d47db58be317fb6481025fea4ae7f6939f3e414dd51623f1dfaa67f2", func := "murmur/murmurlaw09.PolicyWins", spec := "policyWins", unfollowed := true, recurses := true, apart := false }
def PolicyWinsSaid : Prop := policyWinsRow.holds Try.pinned (OpenSpec.ofChange policyWinsSpec)

/-- ITS FALSE NEIGHBOUR: 'it returns false'. Refute it at one input. -/
def policyWinsWrong : ChangeSpec := { name := "policyWins", fn := fun _ => fun
  | [d1, d2, d3] => { results := [.lit (.bool false)], args := [d1, d2, d3] }
  | _ => none }
def PolicyWinsWrongFalsely : Prop := policyWinsRow.holds Try.pinned (OpenSpec.ofChange policyWinsWrong)

/-- 'murmurlaw09.PolicyMore': WHATEVER THE INPUT: true; the input reads as it did. -/
def policyMoreSpec : ChangeSpec := { name := "policyMore", fn := fun _ => fun
  | [d1, d2, d3] => { results := [.lit (.bool true)], args := [d1, d2, d3] }
  | _ => none }
def policyMoreRow : OpenClaim := { program := "ytfbbafmklahmmaa", sum := "e9e24187d47db58be317fb6481025fea4ae7f6939f3e414dd51623f1dfaa67f2", func := "murmur/murmurlaw09.PolicyMore", spec := "policyMore", unfollowed := true, recurses := true, apart := false }
def PolicyMoreSaid : Prop := policyMoreRow.holds Try.pinned (OpenSpec.ofChange policyMoreSpec)

/-- ITS FALSE NEIGHBOUR: 'it returns false'. Refute it at one input. -/
def policyMoreWrong : ChangeSpec := { name := "policyMore", fn := fun _ => fun
  | [d1, d2, d3] => { results := [.lit (.bool false)], args := [d1, d2, d3] }
  | _ => none }
def PolicyMoreWrongFalsely : Prop := policyMoreRow.holds Try.pinned (OpenSpec.ofChange policyMoreWrong)

/- THE SECOND FORM. 'bulk': how many values and letters a reading holds, each counted each time it is reached (what is shared counts as often as it is met; a slice's spare places count too). A statement '..UptoSaid' is the law's where the arguments, and the package variables that the reading takes, are together of bulk at most 1048576: NARROWER than '..Said'. Prove '..Said' where nothing that the law and all that it calls make is longer than what came in: it says more and counts as full. Else prove '..UptoSaid'. A law counts once. -/
mutual
def uptoBulk {H : Type} : DataW H → Nat
  | .lit (.string bytes) => bytes.length + 1
  | .lit _ => 1
  | .nil => 1
  | .ptr d => uptoBulk d + 1
  | .slice elems spare => uptoBulkAll elems + uptoBulkAll spare + 1
  | .agg parts => uptoBulkAll parts + 1
  | .iface _ d => uptoBulk d + 1
  | .map entries => uptoBulkEntries entries + 1
  | .held _ => 1
def uptoBulkAll {H : Type} : List (DataW H) → Nat
  | [] => 0
  | d :: r => uptoBulk d + uptoBulkAll r
def uptoBulkEntries {H : Type} : List (Lit × DataW H) → Nat
  | [] => 0
  | x :: r => uptoBulkEntry x + uptoBulkEntries r
def uptoBulkEntry {H : Type} : Lit × DataW H → Nat
  | (.string bytes, d) => bytes.length + uptoBulk d + 1
  | (_, d) => uptoBulk d + 1
 end
def uptoSmall : (H : Type) → List (DataW H) → Bool := fun _ ds => decide (uptoBulkAll ds ≤ 1048576)
def OpenSpec.upto (s : _root_.Go.ChangeSpec) : _root_.Go.OpenSpec := { _root_.Go.OpenSpec.ofChange s with cond := some uptoSmall }

/-- 'murmurlaw10.WindowLoads', WHERE WHAT IT READS IS OF BULK AT MOST 1048576: true; the input reads as it did. -/
def windowLoadsUptoRow : OpenClaim := { program := "ytfbbafmklahmmaa", sum := "e9e24187d47db58be317fb6481025fea4ae7f6939f3e414dd51623f1dfaa67f2", func := "murmur/murmurlaw10.WindowLoads", spec := "windowLoads", unfollowed := true, recurses := true, apart := false, narrowed := true }
def WindowLoadsUptoSaid : Prop := windowLoadsUptoRow.holds Try.pinned (OpenSpec.upto windowLoadsSpec)

/-- 'murmurlaw10.WindowTurns', WHERE WHAT IT READS IS OF BULK AT MOST 1048576: true; the input reads as it did. -/
def windowTurnsUptoRow : OpenClaim := { program := "ytfbbafmklahmmaa", sum := "e9e24187d47db58be317fb6481025fea4ae7f6939f3e414dd51623f1dfaa67f2", func := "murmur/murmurlaw10.WindowTurns", spec := "windowTurns", unfollowed := true, recurses := true, apart := false, narrowed := true }
def WindowTurnsUptoSaid : Prop := windowTurnsUptoRow.holds Try.pinned (OpenSpec.upto windowTurnsSpec)

/-- 'murmurlaw10.WindowMeans', WHERE WHAT IT READS IS OF BULK AT MOST 1048576: true; the input reads as it did. -/
def windowMeansUptoRow : OpenClaim := { program := "ytfbbafmklahmmaa", sum := "e9e24187d47db58be317fb6481025fea4ae7f6939f3e414dd51623f1dfaa67f2", func := "murmur/murmurlaw10.WindowMeans", spec := "windowMeans", unfollowed := true, recurses := true, apart := false, narrowed := true }
def WindowMeansUptoSaid : Prop := windowMeansUptoRow.holds Try.pinned (OpenSpec.upto windowMeansSpec)

/-- 'murmurlaw10.WindowAdds', WHERE WHAT IT READS IS OF BULK AT MOST 1048576: true; the input reads as it did. -/
def windowAddsUptoRow : OpenClaim := { program := "ytfbbafmklahmmaa", sum := "e9e24187d47db58be317fb6481025fea4ae7f6939f3e414dd51623f1dfaa67f2", func := "murmur/murmurlaw10.WindowAdds", spec := "windowAdds", unfollowed := true, recurses := true, apart := false, narrowed := true }
def WindowAddsUptoSaid : Prop := windowAddsUptoRow.holds Try.pinned (OpenSpec.upto windowAddsSpec)

/-- 'murmurlaw09.PolicyAsked', WHERE WHAT IT READS IS OF BULK AT MOST 1048576: true; the input reads as it did. -/
def policyAskedUptoRow : OpenClaim := { program := "ytfbbafmklahmmaa", sum := "e9e24187d47db58be317fb6481025fea4ae7f6939f3e414dd51623f1dfaa67f2", func := "murmur/murmurlaw09.PolicyAsked", spec := "policyAsked", unfollowed := true, recurses := true, apart := false, narrowed := true }
def PolicyAskedUptoSaid : Prop := policyAskedUptoRow.holds Try.pinned (OpenSpec.upto policyAskedSpec)

/-- 'murmurlaw09.PolicyWins', WHERE WHAT IT READS IS OF BULK AT MOST 1048576: true; the input reads as it did. -/
def policyWinsUptoRow : OpenClaim := { program := "ytfbbafmklahmmaa", sum := "e9e24187d47db58be317fb6481025fea4ae7f6939f3e414dd51623f1dfaa67f2", func := "murmur/murmurlaw09.PolicyWins", spec := "policyWins", unfollowed := true, recurses := true, apart := false, narrowed := true }
def PolicyWinsUptoSaid : Prop := policyWinsUptoRow.holds Try.pinned (OpenSpec.upto policyWinsSpec)

/-- 'murmurlaw09.PolicyMore', WHERE WHAT IT READS IS OF BULK AT MOST 1048576: true; the input reads as it did. -/
def policyMoreUptoRow : OpenClaim := { program := "ytfbbafmklahmmaa", sum := "e9e24187d47db58be317fb6481025fea4ae7f6939f3e414dd51623f1dfaa67f2", func := "murmur/murmurlaw09.PolicyMore", spec := "policyMore", unfollowed := true, recurses := true, apart := false, narrowed := true }
def PolicyMoreUptoSaid : Prop := policyMoreUptoRow.holds Try.pinned (OpenSpec.upto policyMoreSpec)

end Rows
end Go.Proofs.Ytfbbafmklahmmaa
