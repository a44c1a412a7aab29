/-
  No cell of these rows narrows 'for every input' (looked for: loops, veiled, ifaces, maps, wideKeys, modest, calm, conditions, laid).
  DERIVED. THE GIVEN ROWS OF THIS SEAT. 4 by the template 'for every input the law returns true; each argument reads behind the call as it read before'; 0 by the template 'total and deterministic' (their statements: YtjffaekajjokiaaTotals.lean).
  GIVEN WITH THE SEED: the statements are not yours to turn. If you find one false, say at which input.
  Laid BY PROGRAM, IN A SANDBOX (cutbox-rows.mjs): the forced cells as the released guide's own fill.sh prints them over the translation 58badd954800beee… (all of the seat's roots in one cut). By AI agents, Wed Nov 11 2026. No macro, syntax, notation, axiom, sorry.
-/
import Derived.Test.YtjffaekajjokiaaChecked
import GoSem.Claim
import GoSem.ClaimJoined
import GoSem.ClaimMapViews
import Derived.JoinedTies
import Derived.KernelRfl
namespace Go.Proofs.Ytjffaekajjokiaa
/- THE CELL 'sum', in the pinned program and in every row, IS THE sha256 OF THE DUMP (.gsa) THAT YtjffaekajjokiaaProg.lean LOADS. Nothing in Lean hashes anything: it is a label: what it is worth is what the hold of that sum in a sandbox is worth. -/
noncomputable def Try.pinned : Pinned := { name := "ytjffaekajjokiaa", sum := "58badd954800beeef6e7dcd81c5781e004d755d6a739db4899afe14c6a6a11aa", checked := Try.checked }
namespace Rows
def none {H : Type} : Left H := { results := [], args := [] }

/-- 'murmurlaw19.ProbeRounds': WHATEVER THE INPUT: true; the input reads as it did. -/
def probeRoundsSpec : ChangeSpec := { name := "probeRounds", fn := fun _ => fun
  | [d1, d2, d3] => { results := [.lit (.bool true)], args := [d1, d2, d3] }
  | _ => none }
def probeRoundsRow : OpenClaim := { program := "ytjffaekajjokiaa", sum := "58badd954800beeef6e7dcd81c5781e004d755d6a739db4899afe14c6a6a11aa", func := "murmur/murmurlaw19.ProbeRounds", spec := "probeRounds", unfollowed := true, recurses := true, apart := false }
def ProbeRoundsSaid : Prop := probeRoundsRow.holds Try.pinned (OpenSpec.ofChange probeRoundsSpec)

/-- ITS FALSE NEIGHBOUR: 'it returns false'. Refute it at one input. -/
def probeRoundsWrong : ChangeSpec := { name := "probeRounds", fn := fun _ => fun
  | [d1, d2, d3] => { results := [.lit (.bool false)], args := [d1, d2, d3] }
  | _ => none }
def ProbeRoundsWrongFalsely : Prop := probeRoundsRow.holds Try.pinned (OpenSpec.ofChange probeRoundsWrong)

/-- 'murmurlaw19.ProbeTold': WHATEVER THE INPUT: true; the input reads as it did. -/
def probeToldSpec : ChangeSpec := { name := "probeTold", fn := fun _ => fun
  | [d1, d2, d3] => { results := [.lit (.bool true)], args := [d1, d2, d3] }
  | _ => none }
def probeToldRow : OpenClaim := { program := "ytjffaekajjokiaa", sum := "58badd954800beeef6e7dcd81c5781e004d755d6a739db4899afe14c6a6a11aa", func := "murmur/murmurlaw19.ProbeTold", spec := "probeTold", unfollowed := true, recurses := true, apart := false }
def ProbeToldSaid : Prop := probeToldRow.holds Try.pinned (OpenSpec.ofChange probeToldSpec)

/-- ITS FALSE NEIGHBOUR: 'it returns false'. Refute it at one input. -/
def probeToldWrong : ChangeSpec := { name := "probeTold", fn := fun _ => fun
  | [d1, d2, d3] => { results := [.lit (.bool false)], args := [d1, d2, d3] }
  | _ => none }
def ProbeToldWrongFalsely : Prop := probeToldRow.holds Try.pinned (OpenSpec.ofChange probeToldWrong)

/-- 'murmurlaw19.ProbeSome': WHATEVER THE INPUT: true; the input reads as it did. -/
def probeSomeSpec : ChangeSpec := { name := "probeSome", fn := fun _ => fun
  | [d1, d2, d3] => { results := [.lit (.bool true)], args := [d1, d2, d3] }
  | _ => none }
def probeSomeRow : OpenClaim := { program := "ytjffaekajjokiaa", sum := "58badd954800beeef6e7dcd81c5781e004d755d6a739db4899afe14c6a6a11aa", func := "murmur/murmurlaw19.ProbeSome", spec := "probeSome", unfollowed := true, recurses := true, apart := false }
def ProbeSomeSaid : Prop := probeSomeRow.holds Try.pinned (OpenSpec.ofChange probeSomeSpec)

/-- ITS FALSE NEIGHBOUR: 'it returns false'. Refute it at one input. -/
def probeSomeWrong : ChangeSpec := { name := "probeSome", fn := fun _ => fun
  | [d1, d2, d3] => { results := [.lit (.bool false)], args := [d1, d2, d3] }
  | _ => none }
def ProbeSomeWrongFalsely : Prop := probeSomeRow.holds Try.pinned (OpenSpec.ofChange probeSomeWrong)

/-- 'murmurlaw19.ProbePlays': WHATEVER THE INPUT: true; the input reads as it did. -/
def probePlaysSpec : ChangeSpec := { name := "probePlays", fn := fun _ => fun
  | [d1, d2] => { results := [.lit (.bool true)], args := [d1, d2] }
  | _ => none }
def probePlaysRow : OpenClaim := { program := "ytjffaekajjokiaa", sum := "58badd954800beeef6e7dcd81c5781e004d755d6a739db4899afe14c6a6a11aa", func := "murmur/murmurlaw19.ProbePlays", spec := "probePlays", unfollowed := true, recurses := true, apart := false }
def ProbePlaysSaid : Prop := probePlaysRow.holds Try.pinned (OpenSpec.ofChange probePlaysSpec)

/-- ITS FALSE NEIGHBOUR: 'it returns false'. Refute it at one input. -/
def probePlaysWrong : ChangeSpec := { name := "probePlays", fn := fun _ => fun
  | [d1, d2] => { results := [.lit (.bool false)], args := [d1, d2] }
  | _ => none }
def ProbePlaysWrongFalsely : Prop := probePlaysRow.holds Try.pinned (OpenSpec.ofChange probePlaysWrong)

/- THE SECOND FORM. 'bulk': how many values and letters a reading holds, each counted each time it is reached (what is shared counts as often as it is met; a slice's spare places count too). A statement '..UptoSaid' is the law's where the arguments, and the package variables that the reading takes, are together of bulk at most 1048576: NARROWER than '..Said'. Prove '..Said' where nothing that the law and all that it calls make is longer than what came in: it says more and counts as full. Else prove '..UptoSaid'. A law counts once. -/
mutual
def uptoBulk {H : Type} : DataW H → Nat
  | .lit (.string bytes) => bytes.length + 1
  | .lit _ => 1
  | .nil => 1
  | .ptr d => uptoBulk d + 1
  | .slice elems spare => uptoBulkAll elems + uptoBulkAll spare + 1
  | .agg parts => uptoBulkAll parts + 1
  | .iface _ d => uptoBulk d + 1
  | .map entries => uptoBulkEntries entries + 1
  | .held _ => 1
def uptoBulkAll {H : Type} : List (DataW H) → Nat
  | [] => 0
  | d :: r => uptoBulk d + uptoBulkAll r
def uptoBulkEntries {H : Type} : List (Lit × DataW H) → Nat
  | [] => 0
  | x :: r => uptoBulkEntry x + uptoBulkEntries r
def uptoBulkEntry {H : Type} : Lit × DataW H → Nat
  | (.string bytes, d) => bytes.length + uptoBulk d + 1
  | (_, d) => uptoBulk d + 1
 end
def uptoSmall : (H : Type) → List (DataW H) → Bool := fun _ ds => decide (uptoBulkAll ds ≤ 1048576)
def OpenSpec.upto (s : _root_.Go.ChangeSpec) : _root_.Go.OpenSpec := { _root_.Go.OpenSpec.ofChange s with cond := some uptoSmall }

/-- 'murmurlaw19.ProbeRounds', WHERE WHAT IT READS IS OF BULK AT MOST 1048576: true; the input reads as it did. -/
def probeRoundsUptoRow : OpenClaim := { program := "ytjffaekajjokiaa", sum := "58badd954800beeef6e7dcd81c5781e004d755d6a739db4899afe14c6a6a11aa", func := "murmur/murmurlaw19.ProbeRounds", spec := "probeRounds", unfollowed := true, recurses := true, apart := false, narrowed := true }
def ProbeRoundsUptoSaid : Prop := probeRoundsUptoRow.holds Try.pinned (OpenSpec.upto probeRoundsSpec)

/-- 'murmurlaw19.ProbeTold', WHERE WHAT IT READS IS OF BULK AT MOST 1048576: true; the input reads as it did. -/
def probeToldUptoRow : OpenClaim := { program := "ytjffaekajjokiaa", sum := "58badd954800beeef6e7dcd81c5781e004d755d6a739db4899afe14c6a6a11aa", func := "murmur/murmurlaw19.ProbeTold", spec := "probeTold", unfollowed := true, recurses := true, apart := false, narrowed := true }
def ProbeToldUptoSaid : Prop := probeToldUptoRow.holds Try.pinned (OpenSpec.upto probeToldSpec)

/-- 'murmurlaw19.ProbeSome', WHERE WHAT IT READS IS OF BULK AT MOST 1048576: true; the input reads as it did. -/
def probeSomeUptoRow : OpenClaim := { program := "ytjffaekajjokiaa", sum := "58badd954800beeef6e7dcd81c5781e004d755d6a739db4899afe14c6a6a11aa", func := "murmur/murmurlaw19.ProbeSome", spec := "probeSome", unfollowed := true, recurses := true, apart := false, narrowed := true }
def ProbeSomeUptoSaid : Prop := probeSomeUptoRow.holds Try.pinned (OpenSpec.upto probeSomeSpec)

/-- 'murmurlaw19.ProbePlays', WHERE WHAT IT READS IS OF BULK AT MOST 1048576: true; the input reads as it did. -/
def probePlaysUptoRow : OpenClaim := { program := "ytjffaekajjokiaa", sum := "58badd954800beeef6e7dcd81c5781e004d755d6a739db4899afe14c6a6a11aa", func := "murmur/murmurlaw19.ProbePlays", spec := "probePlays", unfollowed := true, recurses := true, apart := false, narrowed := true }
def ProbePlaysUptoSaid : Prop := probePlaysUptoRow.holds Try.pinned (OpenSpec.upto probePlaysSpec)

end Rows
end Go.Proofs.Ytjffaekajjokiaa
