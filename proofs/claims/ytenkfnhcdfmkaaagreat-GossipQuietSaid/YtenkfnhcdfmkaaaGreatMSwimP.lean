/-
  A detector, plainly: what it knows, what becomes of it by a tick, a message, its leaving, and what it sends.
  What holds of a detector all the while. No program in sight.
  What holds of a detector behind each of its steps. No program in sight.
  Two worlds that differ in a few blocks alone, and in what is new. No function of the program is entered.
-/
import Derived.Test.YtenkfnhcdfmkaaaGreatMRd
import Derived.Test.YtenkfnhcdfmkaaaGreatNext
namespace Go.Proofs.YtenkfnhcdfmkaaaGreat
open Go.RowKit Go.Lib
set_option linter.unusedVariables false
structure DConf where
 tout : Int
 ind : Int
 gr : Int
def DConf.right (c : DConf) : Prop := 1 ≤ c.tout ∧ c.tout ≤ 100 ∧ 0 ≤ c.ind ∧ c.ind ≤ 8 ∧ 1 ≤ c.gr ∧ c.gr ≤ 1000
instance DConf.decRight (c : DConf) : Decidable c.right := by unfold DConf.right; infer_instance
end Go.Proofs.YtenkfnhcdfmkaaaGreat
namespace Go.Proofs.YtenkfnhcdfmkaaaGreat
open Go.RowKit Go.Lib
set_option linter.unusedVariables false
end Go.Proofs.YtenkfnhcdfmkaaaGreat
namespace Go.Proofs.YtenkfnhcdfmkaaaGreat
open Go.RowKit Go.Lib
set_option linter.unusedVariables false
end Go.Proofs.YtenkfnhcdfmkaaaGreat
namespace Go.Proofs.YtenkfnhcdfmkaaaGreat
open Go.RowKit Go.Lib
set_option linter.unusedVariables false
structure Touch (L : Nat → Prop) (w w' : World) : Prop where
 os : w'.os = w.os
 tape : w'.tape = w.tape
 output : w'.output = w.output
 size : w.heap.size ≤ w'.heap.size
 block : ∀ k, k < w.heap.size → ¬ L k → w'.heap[k]? = w.heap[k]?
theorem Touch.refl (L : Nat → Prop) (w : World) : Touch L w w := ⟨rfl, rfl, rfl, Nat.le_refl _, fun _ _ _ => rfl⟩
theorem Touch.of_below {L : Nat → Prop} {w w' : World} {B : Nat} (h : Below B w w') (hB : w.heap.size ≤ B) : Touch L w w' := ⟨h.os, h.tape, h.output, h.size, fun k hk _ => h.block k (Nat.lt_of_lt_of_le hk hB)⟩
theorem Touch.of_grown {L : Nat → Prop} {w w' : World} {row : Option Nat} (h : w.grownBy w' row) (hr : ∀ j, row = some j → L j) : Touch L w w' := ⟨h.os, h.tape, h.output, h.size, fun k hk hn => h.block k hk fun e => hn (hr k e.symm)⟩
theorem Touch.trans {L L' : Nat → Prop} {a b c : World} (h : Touch L a b) (k : Touch L' b c) (hl : ∀ n, n < a.heap.size → L' n → L n) : Touch L a c :=
 ⟨k.os.trans h.os, k.tape.trans h.tape, k.output.trans h.output, Nat.le_trans h.size k.size, fun n hn hL => (k.block n (Nat.lt_of_lt_of_le hn h.size) fun e => hL (hl n hn e)).trans (h.block n hn hL)⟩
theorem Touch.mono {L L' : Nat → Prop} {a b : World} (h : Touch L a b) (hl : ∀ n, n < a.heap.size → L n → L' n) : Touch L' a b := ⟨h.os, h.tape, h.output, h.size, fun n hn hL => h.block n hn fun e => hL (hl n hn e)⟩
theorem Touch.below {L : Nat → Prop} {a b : World} (h : Touch L a b) {B : Nat} (hB : B ≤ a.heap.size) (hl : ∀ n, L n → B ≤ n) : Below B a b := ⟨h.os, h.tape, h.output, h.size, fun n hn => h.block n (Nat.lt_of_lt_of_le hn hB) fun e => by have := hl n e; omega⟩
theorem Touch.cell {L : Nat → Prop} {a b : World} (h : Touch L a b) {p : Addr} (hp : p.block < a.heap.size) (hn : ¬ L p.block) : b.cell? p = a.cell? p := World.cell?_of_block (h.block _ hp hn)
theorem touch_set (L : Nat → Prop) (w : World) (a : Addr) (v : Value) (hL : L a.block) : Touch L w (w.setCell a v) := by
 refine ⟨rfl, rfl, rfl, by simp [World.setCell], fun k hk hn => ?_⟩
 have hne : a.block ≠ k := fun e => hn (by rw [← e]; exact hL)
 simp [World.setCell, Array.getElem?_modify, hne]
theorem SlAt.touch {α : Type} {enc : α → List Value} {k : Nat} (hk : ∀ x, (enc x).length = k) (k0 : 0 < k) {L : Nat → Prop} {w w' : World} {v : Value} {l : List α} (h : SlAt enc w v l) (ht : Touch L w w') (hn : l = [] ∨ ∀ b, v.ownBlock = some b → ¬ L b) : SlAt enc w' v l := by
 refine h.keep ?_
 by_cases hl : l = []
 ·exact .inl hl
 ·exact .inr fun b e => ht.block b (h.lt hk k0 hl b e) (hn.resolve_left hl b e)
theorem Owns.touch {α : Type} {enc : α → List Value} {k base e : Nat} {L : Nat → Prop} {w w' : World} {v : Value} {l : List α} (h : Owns enc k base e w v l) (ht : Touch L w w') (hn : ∀ b, v.ownBlock = some b → ¬ L b) : Owns enc k base e w' v l :=
 h.keep fun g hg => ht.block g (h.lt g hg).2 (hn g hg)
end Go.Proofs.YtenkfnhcdfmkaaaGreat
