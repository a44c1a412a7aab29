/-
  No cell of these rows narrows 'for every input' (looked for: loops, veiled, ifaces, maps, wideKeys, modest, calm, conditions, laid).
  DERIVED. THE GIVEN ROWS OF THIS SEAT. 3 by the template 'for every input the law returns true; each argument reads behind the call as it read before'; 0 by the template 'total and deterministic' (their statements: YtjgbflclhkeibaaTotals.lean).
  GIVEN WITH THE SEED: the statements are not yours to turn. If you find one false, say at which input.
  Laid BY PROGRAM, IN A SANDBOX (cutbox-rows.mjs): the forced cells as the released guide's own fill.sh prints them over the translation 8703883b4ea4d62b… (all of the seat's roots in one cut). By AI agents, Wed Nov 11 2026. No macro, syntax, notation, axiom, sorry.
-/
import Derived.Test.YtjgbflclhkeibaaChecked
import GoSem.Claim
import GoSem.ClaimJoined
import GoSem.ClaimMapViews
import Derived.JoinedTies
import Derived.KernelRfl
namespace Go.Proofs.Ytjgbflclhkeibaa
/- THE CELL 'sum', in the pinned program and in every row, IS THE sha256 OF THE DUMP (.gsa) THAT YtjgbflclhkeibaaProg.lean LOADS. Nothing in Lean hashes anything: it is a label: what it is worth is what the hold of that sum in a sandbox is worth. -/
noncomputable def Try.pinned : Pinned := { name := "ytjgbflclhkeibaa", sum := "8703883b4ea4d62bb8cd66fbad7b20cda54a302dd47c42cfb95869f8bd9d0dbe", checked := Try.checked }
namespace Rows
def none {H : Type} : Left H := { results := [], args := [] }

/-- 'murmurlaw24.ActOwners': WHATEVER THE INPUT: true; the input reads as it did. -/
def actOwnersSpec : ChangeSpec := { name := "actOwners", fn := fun _ => fun
  | [d] => { results := [.lit (.bool true)], args := [d] }
  | _ => none }
def actOwnersRow : OpenClaim := { program := "ytjgbflclhkeibaa", sum := "8703883b4ea4d62bb8cd66fbad7b20cda54a302dd47c42cfb95869f8bd9d0dbe", func := "murmur/murmurlaw24.ActOwners", spec := "actOwners", unfollowed := true, recurses := true, apart := false }
def ActOwnersSaid : Prop := actOwnersRow.holds Try.pinned (OpenSpec.ofChange actOwnersSpec)

/-- ITS FALSE NEIGHBOUR: 'it returns false'. Refute it at one input. -/
def actOwnersWrong : ChangeSpec := { name := "actOwners", fn := fun _ => fun
  | [d] => { results := [.lit (.bool false)], args := [d] }
  | _ => none }
def ActOwnersWrongFalsely : Prop := actOwnersRow.holds Try.pinned (OpenSpec.ofChange actOwnersWrong)

/-- 'murmurlaw24.ActBounds': WHATEVER THE INPUT: true; the input reads as it did. -/
def actBoundsSpec : ChangeSpec := { name := "actBounds", fn := fun _ => fun
  | [d1, d2] => { results := [.lit (.bool true)], args := [d1, d2] }
  | _ => none }
def actBoundsRow : OpenClaim := { program := "ytjgbflclhkeibaa", sum := "8703883b4ea4d62bb8cd66fbad7b20cda54a302dd47c42cfb95869f8bd9d0dbe", func := "murmur/murmurlaw24.ActBounds", spec := "actBounds", unfollowed := true, recurses := true, apart := false }
def ActBoundsSaid : Prop := actBoundsRow.holds Try.pinned (OpenSpec.ofChange actBoundsSpec)

/-- ITS FALSE NEIGHBOUR: 'it returns false'. Refute it at one input. -/
def actBoundsWrong : ChangeSpec := { name := "actBounds", fn := fun _ => fun
  | [d1, d2] => { results := [.lit (.bool false)], args := [d1, d2] }
  | _ => none }
def ActBoundsWrongFalsely : Prop := actBoundsRow.holds Try.pinned (OpenSpec.ofChange actBoundsWrong)

/-- 'murmurlaw24.ActCools': WHATEVER THE INPUT: true; the input reads as it did. -/
def actCoolsSpec : ChangeSpec := { name := "actCools", fn := fun _ => fun
  | [d] => { results := [.lit (.bool true)], args := [d] }
  | _ => none }
def actCoolsRow : OpenClaim := { program := "ytjgbflclhkeibaa", sum := "8703883b4ea4d62bb8cd66fbad7b20cda54a302dd47c42cfb95869f8bd9d0dbe", func := "murmur/murmurlaw24.ActCools", spec := "actCools", unfollowed := true, recurses := true, apart := false }
def ActCoolsSaid : Prop := actCoolsRow.holds Try.pinned (OpenSpec.ofChange actCoolsSpec)

/-- ITS FALSE NEIGHBOUR: 'it returns false'. Refute it at one input. -/
def actCoolsWrong : ChangeSpec := { name := "actCools", fn := fun _ => fun
  | [d] => { results := [.lit (.bool false)], args := [d] }
  | _ => none }
def ActCoolsWrongFalsely : Prop := actCoolsRow.holds Try.pinned (OpenSpec.ofChange actCoolsWrong)

/- THE SECOND FORM. 'bulk': how many values and letters a reading holds, each counted each time it is reached (what is shared counts as often as it is met; a slice's spare places count too). A statement '..UptoSaid' is the law's where the arguments, and the package variables that the reading takes, are together of bulk at most 1048576: NARROWER than '..Said'. Prove '..Said' where nothing that the law and all that it calls make is longer than what came in: it says more and counts as full. Else prove '..UptoSaid'. A law counts once. -/
mutual
def uptoBulk {H : Type} : DataW H → Nat
  | .lit (.string bytes) => bytes.length + 1
  | .lit _ => 1
  | .nil => 1
  | .ptr d => uptoBulk d + 1
  | .slice elems spare => uptoBulkAll elems + uptoBulkAll spare + 1
  | .agg parts => uptoBulkAll parts + 1
  | .iface _ d => uptoBulk d + 1
  | .map entries => uptoBulkEntries entries + 1
  | .held _ => 1
def uptoBulkAll {H : Type} : List (DataW H) → Nat
  | [] => 0
  | d :: r => uptoBulk d + uptoBulkAll r
def uptoBulkEntries {H : Type} : List (Lit × DataW H) → Nat
  | [] => 0
  | x :: r => uptoBulkEntry x + uptoBulkEntries r
def uptoBulkEntry {H : Type} : Lit × DataW H → Nat
  | (.string bytes, d) => bytes.length + uptoBulk d + 1
  | (_, d) => uptoBulk d + 1
 end
def uptoSmall : (H : Type) → List (DataW H) → Bool := fun _ ds => decide (uptoBulkAll ds ≤ 1048576)
def OpenSpec.upto (s : _root_.Go.ChangeSpec) : _root_.Go.OpenSpec := { _root_.Go.OpenSpec.ofChange s with cond := some uptoSmall }

/-- 'murmurlaw24.ActOwners', WHERE WHAT IT READS IS OF BULK AT MOST 1048576: true; the input reads as it did. -/
def actOwnersUptoRow : OpenClaim := { program := "ytjgbflclhkeibaa", sum := "8703883b4ea4d62bb8cd66fbad7b20cda54a302dd47c42cfb95869f8bd9d0dbe", func := "murmur/murmurlaw24.ActOwners", spec := "actOwners", unfollowed := true, recurses := true, apart := false, narrowed := true }
def ActOwnersUptoSaid : Prop := actOwnersUptoRow.holds Try.pinned (OpenSpec.upto actOwnersSpec)

/-- 'murmurlaw24.ActBounds', WHERE WHAT IT READS IS OF BULK AT MOST 1048576: true; the input reads as it did. -/
def actBoundsUptoRow : OpenClaim := { program := "ytjgbflclhkeibaa", sum := "8703883b4ea4d62bb8cd66fbad7b20cda54a302dd47c42cfb95869f8bd9d0dbe", func := "murmur/murmurlaw24.ActBounds", spec := "actBounds", unfollowed := true, recurses := true, apart := false, narrowed := true }
def ActBoundsUptoSaid : Prop := actBoundsUptoRow.holds Try.pinned (OpenSpec.upto actBoundsSpec)

/-- 'murmurlaw24.ActCools', WHERE WHAT IT READS IS OF BULK AT MOST 1048576: true; the input reads as it did. -/
def actCoolsUptoRow : OpenClaim := { program := "ytjgbflclhkeibaa", sum := "8703883b4ea4d62bb8cd66fbad7b20cda54a302dd47c42cfb95869f8bd9d0dbe", func := "murmur/murmurlaw24.ActCools", spec := "actCools", unfollowed := true, recurses := true, apart := false, narrowed := true }
def ActCoolsUptoSaid : Prop := actCoolsUptoRow.holds Try.pinned (OpenSpec.upto actCoolsSpec)

end Rows
end Go.Proofs.Ytjgbflclhkeibaa
