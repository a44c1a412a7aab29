/-
  Two blocks laid side by side; a row made anew.
-/
import Derived.Test.YtkdjfoehpioghaaBase
import Derived.Test.YtkdjfoehpioghaaAcc
namespace Go.Proofs.Ytkdjfoehpioghaa
open Go.RowKit Go.Lib
set_option linter.unusedVariables false
theorem alloc2 (w : World) (o0 o1 : Obj) : ((w.alloc o0).alloc o1).heap[w.heap.size]? = some o0 ∧ ((w.alloc o0).alloc o1).heap[w.heap.size + 1]? = some o1 ∧ Below w.heap.size w ((w.alloc o0).alloc o1) ∧ ((w.alloc o0).alloc o1).heap.size = w.heap.size + 2 := by
  have s1 : (w.alloc o0).heap.size = w.heap.size + 1 := World.size_alloc _ _
  refine ⟨?_, ?_, ((Below.refl _ _).alloc (Nat.le_refl _) _).alloc (by omega) _, by rw [World.size_alloc, s1]⟩
  · rw [Below.heap_alloc _ _ _ (by omega), heap_alloc_new]
  · rw [← s1, heap_alloc_new]
theorem owns_made {e : Nat} (W : World) (n : Nat) (hn : W.heap.size = n) : Owns Dot.cells 2 n e (W.alloc (.cells #[] e)) (.slice (some ⟨n, 0, none⟩) 0 0) [] := by
  subst hn
  exact World.ownsRow_made W #[] 0 (Nat.le_refl _) (by decide) rfl
/-- the cells of dot i -/
theorem SlAt.dot {w : World} {b off n cap : Nat} {ds : List Dot} (h : SlAt Dot.cells w (.slice (some ⟨b, off, none⟩) n cap) ds) (i : Nat) (hi : i < ds.length) : ∃ d, ds[i]? = some d ∧ w.cell? ⟨b, off + i * 2, none⟩ = some (.int .i64 d.node) ∧ w.cell? ⟨b, off + i * 2 + 1, none⟩ = some (.int .i64 d.seq) := by
  have e : ∀ c, off + (i * 2 + c) = off + i * 2 + c := fun c => by omega
  have g : ∀ c, c < 2 → w.cell? ⟨b, off + i * 2 + c, none⟩ = (Dot.cells ds[i])[c]? := fun c hc => by rw [← e]; exact h.cell Dot.cells_len hi hc
  exact ⟨ds[i], List.getElem?_eq_getElem hi, g 0 (by decide), g 1 (by decide)⟩
end Go.Proofs.Ytkdjfoehpioghaa
