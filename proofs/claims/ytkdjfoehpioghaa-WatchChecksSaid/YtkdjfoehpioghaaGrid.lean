/-
  A set of dots laid open in memory: 8 rows of 98 bools in one block; put lays one in.
-/
import Derived.Test.YtkdjfoehpioghaaDotP
import Derived.Deep.RegionLaw
import Derived.Deep.QuietTactic
import Derived.BigQuiet
namespace Go.Proofs.Ytkdjfoehpioghaa
open Go.RowKit Go.Lib Go.Sort
set_option linter.unusedVariables false
def gridCells (g : Grid) : Array Value := Array.ofFn (n := 784) fun i => Value.bool (gridAt g i)
theorem gridCells_at (g : Grid) (i : Nat) (h : i < 784) : (gridCells g)[i]? = some (.bool (gridAt g i)) := by
  unfold gridCells
  rw [Array.getElem?_ofFn, dif_pos h]
theorem gridCells_size (g : Grid) : (gridCells g).size = 784 := Array.size_ofFn
def GridAt (w : World) (b : Nat) (g : Grid) : Prop := w.heap[b]? = some (.cells (gridCells g) 136)
theorem GridAt.lt {w : World} {b : Nat} {g : Grid} (h : GridAt w b g) : b < w.heap.size := (Array.getElem?_eq_some_iff.1 h).1
theorem GridAt.cell {w : World} {b : Nat} {g : Grid} (h : GridAt w b g) (n q : Nat) (hn : n < 8) (hq : q < 98) : w.cell? ⟨b, n * 98 + q, none⟩ = some (.bool (g n q)) := by
  rw [cell_of_row w b (n * 98 + q) _ _ _ h, gridCells_at g _ (by omega)]
  unfold gridAt
  rw [show (n * 98 + q) / 98 = n by omega, show (n * 98 + q) % 98 = q by omega]
theorem GridAt.free {w : World} {b : Nat} {g : Grid} (h : GridAt w b g) (o : Nat) : w.frozen? ⟨b, o, none⟩ = false := by
  unfold World.frozen?
  rw [h]
  simp
theorem GridAt.keep {w w' : World} {b : Nat} {g : Grid} (h : GridAt w b g) (hb : w'.heap[b]? = w.heap[b]?) : GridAt w' b g := hb.trans h
theorem GridAt.below {w w' : World} {b B : Nat} {g : Grid} (h : GridAt w b g) (hb : Below B w w') (hB : b < B) : GridAt w' b g := (hb.block b hB).trans h
theorem GridAt.kept {w w' : World} {b : Nat} {row : Option Nat} {g : Grid} (h : GridAt w b g) (hg : w.grownBy w' row) (hr : some b ≠ row) : GridAt w' b g := (hg.block b h.lt hr).trans h
theorem GridAt.set {w : World} {b : Nat} {g : Grid} (h : GridAt w b g) (n q : Nat) (hn : n < 8) (hq : q < 98) : GridAt (w.setCell ⟨b, n * 98 + q, none⟩ (.bool true)) b (g.put n q) := by
  unfold GridAt at *
  rw [heap_setCell_same _ _ _ _ _ _ h]
  refine congrArg (fun c => some (Obj.cells c 136 (0, 0))) ?_
  apply Array.ext_getElem?
  intro i
  by_cases hi : i < 784
  · rw [gridCells_at _ _ hi, Array.getElem?_setIfInBounds]
    by_cases e : n * 98 + q = i
    · rw [if_pos e, if_pos (by rw [gridCells_size]; omega)]
      unfold gridAt Grid.put
      rw [show i / 98 = n by omega, show i % 98 = q by omega]
      simp
    · rw [if_neg e, gridCells_at _ _ hi]
      unfold gridAt Grid.put
      have : (decide (i / 98 = n) && decide (i % 98 = q)) = false := by
        rw [Bool.and_eq_false_iff, decide_eq_false_iff_not, decide_eq_false_iff_not]
        omega
      rw [this, Bool.or_false]
  · rw [Array.getElem?_eq_none (by rw [Array.size_setIfInBounds, gridCells_size]; omega), Array.getElem?_eq_none (by rw [gridCells_size]; omega)]
/-- a row of a grid as a value -/
def rowCells (g : Grid) (n : Nat) : Array Value := Array.ofFn (n := 98) fun i => Value.bool (g n i)
theorem rowCells_at (g : Grid) (n i : Nat) (h : i < 98) : (rowCells g n)[i]? = some (.bool (g n i)) := by
  unfold rowCells
  rw [Array.getElem?_ofFn, dif_pos h]
set_option maxHeartbeats 4000000 in
theorem put_any (b : Nat) (g : Grid) (d : Dot) (w : World) (h : GridAt w b g) (h0 : 0 ≤ d.node) (h1 : d.node < 8) (h2 : 0 ≤ d.seq) (h3 : d.seq < 98) :
    Calls Try.prog 55 #[.pointer (some ⟨b, 0, none⟩), .agg #[.int .i64 d.node, .int .i64 d.seq]] w fun e w' => e = .returned (.tuple #[]) ∧ GridAt w' b (g.put d.node.toNat d.seq.toNat) ∧ w.grownBy w' (some b) := by
  have hg1 : GridAt (w.alloc (.cells #[.int .i64 d.node, .int .i64 d.seq] 77)).drew b g := h.below (below_drew ((Below.refl w.heap.size w).alloc (Nat.le_refl _) _)) h.lt
  have hc := hg1.cell d.node.toNat d.seq.toNat (by omega) (by omega)
  have hf := hg1.free (d.node.toNat * 98 + d.seq.toNat)
  have HG := Lib.hid hg1
  have HL := Lib.hid h.lt
  clear h hg1
  go_enter Try.func55, Try.ntmps55
  go_wp2_with fail
  go_region_law (fail)
  all_goals
    go_wp2_with fail
    go_end0
    exact ⟨rfl, HG.out.set _ _ (by omega) (by omega), rfl, rfl, rfl, by simp, fun i hi hne => (Below.heap_setCell (w.alloc (.cells #[.int .i64 d.node, .int .i64 d.seq] 77)) ⟨b, d.node.toNat * 98 + d.seq.toNat, none⟩ _ _ (fun e => hne (by rw [e]))).trans (Below.heap_alloc _ _ _ hi)⟩
end Go.Proofs.Ytkdjfoehpioghaa
