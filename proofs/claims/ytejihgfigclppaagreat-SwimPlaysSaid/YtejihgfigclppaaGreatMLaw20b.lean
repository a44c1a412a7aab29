/-
  Any message of a detector's kind, handed to a detector; the document's answer on patience.
  A detector to which nobody answers, plainly: within so many ticks all others are dead. No program in sight.
  A detector to which nobody answers, plainly: its ticks, one by one. No program in sight.
  A detector to which nobody answers, plainly: round by round, each other is suspected, and dies. No program in sight.
  A detector to which nobody answers, plainly: from its start to its last tick. No program in sight.
  Two detectors of which one leaves, plainly. No program in sight.
  Two rows of numbers that differ at once; two detectors side by side; a message sent, loaded whole.
-/
import Derived.Test.YtejihgfigclppaaGreatMDetC
import Derived.Test.YtejihgfigclppaaGreatMSwimV
namespace Go.Proofs.YtejihgfigclppaaGreat
open Go.Shelf Go.RowKit Go.Lib Go.Sort
set_option linter.unusedVariables false
set_option linter.unusedSimpArgs false
def Sent.got (s : Sent) : Got := ⟨s.kind, s.frm, s.to_, s.seq, s.node, s.ms⟩
set_option maxHeartbeats 8000000 in
theorem refRight20_any (c : DConf) (w : World) : Calls Tryz.prog 10 #[.agg #[.int .i64 c.tout, .int .i64 c.ind, .int .i64 c.gr]] w fun e w' => e = .returned (.bool (decide c.right)) ∧ Below w.heap.size w w' := by
 obtain ⟨t, i, g⟩ := c
 have HB : Hid (Below w.heap.size w (w.alloc (.cells #[.int .i64 t, .int .i64 i, .int .i64 g] 23))) := (Below.refl _ _).alloc (Nat.le_refl _) _
 by_cases h1 : 1 ≤ t
 ·by_cases h2 : t ≤ 100
  ·by_cases h3 : 0 ≤ i
   ·by_cases h4 : i ≤ 8
    ·by_cases h5 : 1 ≤ g
     ·by_cases h6 : g ≤ 1000
      ·have hr : decide (DConf.right ⟨t, i, g⟩) = true := decide_eq_true ⟨h1, h2, h3, h4, h5, h6⟩
       rw [hr]
       clear hr
       go_enter Tryz.func10, Tryz.ntmps10
       go_wp2_with fail
       go_ret
       exact ⟨rfl, HB.out⟩
      ·have hr : decide (DConf.right ⟨t, i, g⟩) = false := decide_eq_false fun h => h6 h.2.2.2.2.2
       rw [hr]
       clear hr
       go_enter Tryz.func10, Tryz.ntmps10
       go_wp2_with fail
       go_ret
       exact ⟨rfl, HB.out⟩
     ·have hr : decide (DConf.right ⟨t, i, g⟩) = false := decide_eq_false fun h => h5 h.2.2.2.2.1
      rw [hr]
      clear hr
      go_enter Tryz.func10, Tryz.ntmps10
      go_wp2_with fail
      go_ret
      exact ⟨rfl, HB.out⟩
    ·have hr : decide (DConf.right ⟨t, i, g⟩) = false := decide_eq_false fun h => h4 h.2.2.2.1
     rw [hr]
     clear hr
     go_enter Tryz.func10, Tryz.ntmps10
     go_wp2_with fail
     go_ret
     exact ⟨rfl, HB.out⟩
   ·have hr : decide (DConf.right ⟨t, i, g⟩) = false := decide_eq_false fun h => h3 h.2.2.1
    rw [hr]
    clear hr
    go_enter Tryz.func10, Tryz.ntmps10
    go_wp2_with fail
    go_ret
    exact ⟨rfl, HB.out⟩
  ·have hr : decide (DConf.right ⟨t, i, g⟩) = false := decide_eq_false fun h => h2 h.2.1
   rw [hr]
   clear hr
   go_enter Tryz.func10, Tryz.ntmps10
   go_wp2_with fail
   go_ret
   exact ⟨rfl, HB.out⟩
 ·have hr : decide (DConf.right ⟨t, i, g⟩) = false := decide_eq_false fun h => h1 h.1
  rw [hr]
  clear hr
  go_enter Tryz.func10, Tryz.ntmps10
  go_wp2_with fail
  go_ret
  exact ⟨rfl, HB.out⟩
end Go.Proofs.YtejihgfigclppaaGreat
namespace Go.Proofs.YtejihgfigclppaaGreat
open Go.RowKit Go.Lib
set_option linter.unusedVariables false
def AtA (d : Det) (k : Nat) : Prop := d.tab k = some ⟨1, 0⟩ ∧ d.since k = none
def AtS (d : Det) (k : Nat) (v : Int) : Prop := d.tab k = some ⟨2, 0⟩ ∧ d.since k = some v
def AtD (d : Det) (k : Nat) : Prop := d.tab k = some ⟨3, 0⟩ ∧ d.since k = none
theorem bury1_none (d : Det) (k : Nat) (h : d.since k = none) : d.bury1 k = d := by unfold Det.bury1; rw [h]
theorem bury1_wait (d : Det) (k : Nat) (v : Int) (h : d.since k = some v) (hw : ¬ d.c.gr ≤ d.clock - v) : d.bury1 k = d := by unfold Det.bury1; rw [h]; exact if_neg hw
end Go.Proofs.YtejihgfigclppaaGreat
namespace Go.Proofs.YtejihgfigclppaaGreat
open Go.RowKit Go.Lib
set_option linter.unusedVariables false
structure Base (n : Nat) (d : Det) : Prop where
 self : d.self = 0
 left : d.left = false
 tout : 1 ≤ d.c.tout
 gr : 1 ≤ d.c.gr
 own : AtA d 0
 out : ∀ k, n < k → k < 8 → d.tab k = none ∧ d.since k = none
 each : ∀ k, 1 ≤ k → k ≤ n → AtA d k ∨ (∃ v, AtS d k v ∧ v ≤ d.clock ∧ d.clock - v < d.c.gr) ∨ AtD d k
def Det.pre (d : Det) : Det := (Det.bury { d with clock := d.clock + 1 }).around.1
end Go.Proofs.YtejihgfigclppaaGreat
namespace Go.Proofs.YtejihgfigclppaaGreat
open Go.RowKit Go.Lib
set_option linter.unusedVariables false
end Go.Proofs.YtejihgfigclppaaGreat
namespace Go.Proofs.YtejihgfigclppaaGreat
open Go.RowKit Go.Lib
set_option linter.unusedVariables false
def ticks : Nat → Det → Det
 | 0, d => d
 | k + 1, d => (ticks k d).tick.1
end Go.Proofs.YtejihgfigclppaaGreat
namespace Go.Proofs.YtejihgfigclppaaGreat
open Go.RowKit Go.Lib
set_option linter.unusedVariables false
end Go.Proofs.YtejihgfigclppaaGreat
namespace Go.Proofs.YtejihgfigclppaaGreat
open Go.Shelf Go.RowKit Go.Lib Go.Sort
set_option linter.unusedVariables false
set_option linter.unusedSimpArgs false
theorem msg_load {w : World} {g off n cap : Nat} {ps : List PSent} (hs : SlAt scells w (.slice (some ⟨g, off, none⟩) n cap) ps) {i : Nat} (hi : i < ps.length) : Sem.run Tryz.prog (loadCellsFrom ⟨g, off + i * 16, none⟩ 0 16 #[]) w = .ok (scells ps[i]).toArray w := by
 refine run_loadCellsFrom_list Tryz.prog w ⟨g, off + i * 16, none⟩ (scells ps[i]) 16 (scells_len _) fun j v hv => ?_
 rw [Addr.add_lit]
 have hj : j < 16 := by have := (List.getElem?_eq_some_iff.1 hv).1; rwa [scells_len] at this
 have := hs.cell scells_len (i := i) (c := j) hi hj
 rw [show off + i * 16 + j = off + (i * 16 + j) by omega, this, hv]
end Go.Proofs.YtejihgfigclppaaGreat
