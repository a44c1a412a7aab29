/-
  A set of dots in a block of its own.
-/
import Derived.Test.YtkdjfoehpioghaaDotList
import Derived.Test.YtkdjfoehpioghaaTwo
namespace Go.Proofs.Ytkdjfoehpioghaa
open Go.Shelf Go.RowKit Go.Lib Go.Sort
set_option linter.unusedVariables false
theorem Owns.past {α : Type} {enc : α → List Value} {k base e b : Nat} {w w' : World} {v : Value} {l : List α} (h : Owns enc k base e w v l) (hg : w.grownBy w' (some b)) (hb : b < base) : Owns enc k base e w' v l :=
  h.keep fun g hv => by
    obtain ⟨h1, h2⟩ := h.lt g hv
    exact hg.block g h2 (fun e => by have := Option.some.inj e; omega)
/-- a set in the cells of block b -/
def SetRow (w : World) (b : Nat) (hd : Hdr) (s : DSet) : Prop := w.heap[b]? = some (.cells #[.int .i64 (s.u 0), .int .i64 (s.u 1), .int .i64 (s.u 2), .int .i64 (s.u 3), .int .i64 (s.u 4), .int .i64 (s.u 5), .int .i64 (s.u 6), .int .i64 (s.u 7), hd.val] 38)
theorem SetRow.cells {w : World} {b : Nat} {hd : Hdr} {s : DSet} (h : SetRow w b hd s) : w.cell? ⟨b, 0, none⟩ = some (.int .i64 (s.u 0)) ∧ w.cell? ⟨b, 1, none⟩ = some (.int .i64 (s.u 1)) ∧ w.cell? ⟨b, 2, none⟩ = some (.int .i64 (s.u 2)) ∧ w.cell? ⟨b, 3, none⟩ = some (.int .i64 (s.u 3)) ∧ w.cell? ⟨b, 4, none⟩ = some (.int .i64 (s.u 4)) ∧ w.cell? ⟨b, 5, none⟩ = some (.int .i64 (s.u 5)) ∧ w.cell? ⟨b, 6, none⟩ = some (.int .i64 (s.u 6)) ∧ w.cell? ⟨b, 7, none⟩ = some (.int .i64 (s.u 7)) ∧ w.cell? ⟨b, 8, none⟩ = some hd.val :=
  ⟨cell_of_row w b 0 _ _ _ h, cell_of_row w b 1 _ _ _ h, cell_of_row w b 2 _ _ _ h, cell_of_row w b 3 _ _ _ h, cell_of_row w b 4 _ _ _ h, cell_of_row w b 5 _ _ _ h, cell_of_row w b 6 _ _ _ h, cell_of_row w b 7 _ _ _ h, cell_of_row w b 8 _ _ _ h⟩
theorem SetRow.free {w : World} {b : Nat} {hd : Hdr} {s : DSet} (h : SetRow w b hd s) (o : Nat) : w.frozen? ⟨b, o, none⟩ = false := by unfold World.frozen?; rw [h]; simp
/-- the nine cells of block b set -/
abbrev put9 (w : World) (b : Nat) (s : DSet) (v : Value) : World := (((((((((w.setCell ⟨b, 0, none⟩ (.int .i64 (s.u 0))).setCell ⟨b, 1, none⟩ (.int .i64 (s.u 1))).setCell ⟨b, 2, none⟩ (.int .i64 (s.u 2))).setCell ⟨b, 3, none⟩ (.int .i64 (s.u 3))).setCell ⟨b, 4, none⟩ (.int .i64 (s.u 4))).setCell ⟨b, 5, none⟩ (.int .i64 (s.u 5))).setCell ⟨b, 6, none⟩ (.int .i64 (s.u 6))).setCell ⟨b, 7, none⟩ (.int .i64 (s.u 7))).setCell ⟨b, 8, none⟩ v)
theorem SetRow.put9 {w : World} {b : Nat} {hd : Hdr} {s : DSet} (h : SetRow w b hd s) (hd' : Hdr) (t : DSet) : SetRow (put9 w b t hd'.val) b hd' t := by
  unfold SetRow at h ⊢
  have h0 := heap_setCell_same _ b 0 _ _ (.int .i64 (t.u 0)) h
  simp only [List.setIfInBounds_toArray, List.set_cons_zero] at h0
  have h1 := heap_setCell_same _ b 1 _ _ (.int .i64 (t.u 1)) h0
  simp only [List.setIfInBounds_toArray, List.set_cons_zero, List.set_cons_succ] at h1
  have h2 := heap_setCell_same _ b 2 _ _ (.int .i64 (t.u 2)) h1
  simp only [List.setIfInBounds_toArray, List.set_cons_zero, List.set_cons_succ] at h2
  have h3 := heap_setCell_same _ b 3 _ _ (.int .i64 (t.u 3)) h2
  simp only [List.setIfInBounds_toArray, List.set_cons_zero, List.set_cons_succ] at h3
  have h4 := heap_setCell_same _ b 4 _ _ (.int .i64 (t.u 4)) h3
  simp only [List.setIfInBounds_toArray, List.set_cons_zero, List.set_cons_succ] at h4
  have h5 := heap_setCell_same _ b 5 _ _ (.int .i64 (t.u 5)) h4
  simp only [List.setIfInBounds_toArray, List.set_cons_zero, List.set_cons_succ] at h5
  have h6 := heap_setCell_same _ b 6 _ _ (.int .i64 (t.u 6)) h5
  simp only [List.setIfInBounds_toArray, List.set_cons_zero, List.set_cons_succ] at h6
  have h7 := heap_setCell_same _ b 7 _ _ (.int .i64 (t.u 7)) h6
  simp only [List.setIfInBounds_toArray, List.set_cons_zero, List.set_cons_succ] at h7
  have h8 := heap_setCell_same _ b 8 _ _ hd'.val h7
  simp only [List.setIfInBounds_toArray, List.set_cons_zero, List.set_cons_succ] at h8
  exact h8
theorem grown_put9 {a w : World} {b : Nat} (h : a.grownBy w (some b)) (s : DSet) (v : Value) : a.grownBy (put9 w b s v) (some b) :=
  grown_set (grown_set (grown_set (grown_set (grown_set (grown_set (grown_set (grown_set (grown_set h _) _) _) _) _) _) _) _) _
end Go.Proofs.Ytkdjfoehpioghaa
