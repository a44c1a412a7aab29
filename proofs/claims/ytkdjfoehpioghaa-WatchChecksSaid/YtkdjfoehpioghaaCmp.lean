/-
  Which of two dots, of two events comes first: event.before, event.Later, policy.later.compare, and window.Of's own order. Each boxes its parameters in new blocks and turns nothing.
-/
import Derived.Test.YtkdjfoehpioghaaEv
import Derived.Test.YtkdjfoehpioghaaSortPure
import Derived.Sort.Grow
import Derived.Shelf.SlSortCmp.KitK
namespace Go.Proofs.Ytkdjfoehpioghaa
open Go.RowKit Go.Sort
set_option linter.unusedVariables false

/-- draws and new blocks alone -/
def Grew (w w' : World) : Prop := ∃ (q : Nat) (os : Array Obj), w' = grow (w.drewN q) os
theorem Grew.refl (w : World) : Grew w w := ⟨0, #[], by rw [grow_empty]; rfl⟩
theorem Grew.alloc {w w1 : World} (h : Grew w w1) (o : Obj) : Grew w (w1.alloc o) := by
  obtain ⟨q, os, rfl⟩ := h
  exact ⟨q, os ++ #[o], by rw [alloc_eq_grow, grow_grow]⟩
theorem Grew.trans {a b c : World} (h : Grew a b) (k : Grew b c) : Grew a c := by
  obtain ⟨q, os, rfl⟩ := h
  obtain ⟨q', os', rfl⟩ := k
  exact ⟨q + q', os ++ os', by rw [← World.drewN_drewN, ← grow_grow]; rfl⟩
theorem Grew.below {w w' : World} (h : Grew w w') : Below w.heap.size w w' := by
  obtain ⟨q, os, rfl⟩ := h
  exact ⟨rfl, rfl, rfl, by simp [World.drewN], fun k hk => heap_grow_old _ _ (by simpa [World.drewN] using hk)⟩

theorem cell_grown {W : World} {b o : Nat} {v : Value} (hlt : b < W.heap.size) (hc : W.cell? ⟨b, o, none⟩ = some v) : ∀ n os, (grow (W.drewN n) os).cell? ⟨b, o, none⟩ = some v := fun n os =>
  (World.cell?_of_block (a := ⟨b, o, none⟩) (heap_grow_old (W.drewN n) os hlt)).trans hc

def dotLt (a b : Dot) : Bool := decide (a.node < b.node ∨ (a.node = b.node ∧ a.seq < b.seq))
def evLater (a b : Ev) : Bool := if a.time = b.time then dotLt b.dot a.dot else decide (b.time < a.time)
theorem dotLt_iff (a b : Dot) : dotLt a b = true ↔ (a.node < b.node ∨ (a.node = b.node ∧ a.seq < b.seq)) := decide_eq_true_iff


/-- the latest first -/
def cmpLater (x y : PEv) : Int := if evLater x.2 y.2 = true then -1 else if evLater y.2 x.2 = true then 1 else 0
theorem ltOf_later (x y : PEv) : ltOf cmpLater x y = evLater x.2 y.2 := by
  unfold ltOf cmpLater
  cases h : evLater x.2 y.2 <;> cases h2 : evLater y.2 x.2 <;> simp
theorem evLater_iff (a b : Ev) : evLater a b = true ↔ (b.time < a.time ∨ (a.time = b.time ∧ (b.dot.node < a.dot.node ∨ (b.dot.node = a.dot.node ∧ b.dot.seq < a.dot.seq)))) := by
  unfold evLater
  split
  · rw [dotLt_iff]; omega
  · rw [decide_eq_true_iff]; omega
theorem evLater_false (a b : Ev) : evLater a b = false ↔ ¬ (b.time < a.time ∨ (a.time = b.time ∧ (b.dot.node < a.dot.node ∨ (b.dot.node = a.dot.node ∧ b.dot.seq < a.dot.seq)))) := by
  rw [← evLater_iff]; simp
theorem swo_later : SWO (ltOf cmpLater) where
  irrefl x := by rw [ltOf_later, evLater_false]; omega
  trans x y z h1 h2 := by rw [ltOf_later, evLater_iff] at *; omega
  ntrans x y z h1 h2 := by rw [ltOf_later, evLater_false] at *; omega


/-- the newest first -/
def cmpNewer (x y : PEv) : Int := if y.2.dot.seq < x.2.dot.seq then -1 else if x.2.dot.seq < y.2.dot.seq then 1 else 0
theorem ltOf_newer (x y : PEv) : ltOf cmpNewer x y = decide (y.2.dot.seq < x.2.dot.seq) := by
  unfold ltOf cmpNewer
  split
  · simp [*]
  · split <;> simp [*]
theorem swo_newer : SWO (ltOf cmpNewer) where
  irrefl x := by rw [ltOf_newer]; simp
  trans x y z h1 h2 := by rw [ltOf_newer] at *; simp at *; omega
  ntrans x y z h1 h2 := by rw [ltOf_newer] at *; simp at *; omega
end Go.Proofs.Ytkdjfoehpioghaa
