/-
  A slice of events that a function gathers in new memory, each with a clone of its own slice: how the whole lives on (Acc), and how one more is pushed.
  Two blocks laid side by side; a row made anew.
  Which of two dots, of two events comes first: event.before, event.Later, policy.later.compare, and window.Of's own order. Each boxes its parameters in new blocks and turns nothing.
-/
import Derived.Test.YtenkfnhcdfmkaaaGreatMSat
import Derived.Test.YtenkfnhcdfmkaaaGreatMRd
import Derived.Test.YtenkfnhcdfmkaaaGreatMSortPure
import Derived.Deep.LoopGhost
import Derived.Sort.Grow
import Derived.Shelf.SlSortCmp.KitK
namespace Go.Proofs.YtenkfnhcdfmkaaaGreat
open Go.RowKit Go.Sort
set_option linter.unusedVariables false
theorem infoEv : (Tryz.prog.info? 44).map (fun i => (i.zero, i.size, i.bytes)) = some (some (.agg #[.int .i64 0, .int .i64 0, .int .i64 0, .int .i64 0, .int .i64 0, .int .i64 0, .int .i64 0, .int .i64 0, .int .i64 0, .int .i64 0, .int .i64 0, .int .i64 0, .int .i64 0, .slice none 0 0]), 14, 128) := by kernel_rfl
theorem slAt_some {w : World} {oa : Option Addr} {n cap : Nat} {l : List PEv} (h : SlAt pcells w (.slice oa n cap) l) (i : Nat) (hi : i < l.length) : ∃ b off, oa = some ⟨b, off, none⟩ :=
 h.plain pcells_len (by decide) (by intro e; rw [e] at hi; exact absurd hi (by simp))
structure Acc (B e ed : Nat) (w : World) (v : Value) (qs : List PEv) : Prop where
 row : Owns pcells 14 B e w v qs
 rem : ∀ q ∈ qs, Owns Dot.cells 2 B ed w q.1.val q.2.rem ∧ (q.1.val.ownBlock = none ∨ q.1.val.ownBlock ≠ v.ownBlock)
theorem Acc.nil (B e ed : Nat) (w : World) : Acc B e ed w (.slice none 0 0) [] := ⟨Owns.nil _ _ _ _ _, fun q hq => by cases hq⟩
theorem Acc.below {B e ed : Nat} {w w' : World} {v : Value} {qs : List PEv} {C : Nat} (h : Acc B e ed w v qs) (hb : Below C w w') (hC : w.heap.size ≤ C) : Acc B e ed w' v qs :=
 ⟨h.row.below hb hC, fun q hq => ⟨(h.rem q hq).1.below hb hC, (h.rem q hq).2⟩⟩
theorem Acc.lower {B B' e ed : Nat} {w : World} {v : Value} {qs : List PEv} (h : Acc B e ed w v qs) (hb : B' ≤ B) : Acc B' e ed w v qs := ⟨h.row.lower hb, fun q hq => ⟨(h.rem q hq).1.lower hb, (h.rem q hq).2⟩⟩
theorem Acc.push {B e ed : Nat} {W w' : World} {v v' : Value} {qs ms : List PEv} (h : Acc B e ed W v qs)
  (hr : ∀ q ∈ ms, Owns Dot.cells 2 B ed W q.1.val q.2.rem ∧ (q.1.val.ownBlock = none ∨ q.1.val.ownBlock ≠ v.ownBlock))
  (ho : Owns pcells 14 B e w' v' (qs ++ ms)) (hg : W.grownBy w' v.ownBlock) (hv : v'.ownBlock = v.ownBlock ∨ ∀ g, v'.ownBlock = some g → W.heap.size ≤ g) : Acc B e ed w' v' (qs ++ ms) := by
 refine ⟨ho, fun q hq => ?_⟩
 have hq' : Owns Dot.cells 2 B ed W q.1.val q.2.rem ∧ (q.1.val.ownBlock = none ∨ q.1.val.ownBlock ≠ v.ownBlock) := by
  rcases List.mem_append.1 hq with hq | hq
  ·exact h.rem q hq
  ·exact hr q hq
 refine ⟨hq'.1.kept hg hq'.2, ?_⟩
 rcases hv with hv | hv
 ·rw [hv]; exact hq'.2
 ·cases hb : q.1.val.ownBlock with
  | none => exact .inl rfl
  | some g =>
   refine .inr fun e2 => ?_
   have h1 := (hq'.1.lt g hb).2
   have h2 := hv g e2.symm
   omega
theorem Acc.evs {B e ed : Nat} {w : World} {v : Value} {qs : List PEv} (h : Acc B e ed w v qs) : EvsAt w v qs := ⟨h.row.at, fun q hq => (h.rem q hq).1.at⟩
end Go.Proofs.YtenkfnhcdfmkaaaGreat
namespace Go.Proofs.YtenkfnhcdfmkaaaGreat
open Go.RowKit Go.Lib
set_option linter.unusedVariables false
theorem alloc2 (w : World) (o0 o1 : Obj) : ((w.alloc o0).alloc o1).heap[w.heap.size]? = some o0 ∧ ((w.alloc o0).alloc o1).heap[w.heap.size + 1]? = some o1 ∧ Below w.heap.size w ((w.alloc o0).alloc o1) ∧ ((w.alloc o0).alloc o1).heap.size = w.heap.size + 2 := by
 have s1 : (w.alloc o0).heap.size = w.heap.size + 1 := World.size_alloc _ _
 refine ⟨?_, ?_, ((Below.refl _ _).alloc (Nat.le_refl _) _).alloc (by omega) _, by rw [World.size_alloc, s1]⟩
 ·rw [Below.heap_alloc _ _ _ (by omega), heap_alloc_new]
 ·rw [← s1, heap_alloc_new]
theorem SlAt.dot {w : World} {b off n cap : Nat} {ds : List Dot} (h : SlAt Dot.cells w (.slice (some ⟨b, off, none⟩) n cap) ds) (i : Nat) (hi : i < ds.length) : ∃ d, ds[i]? = some d ∧ w.cell? ⟨b, off + i * 2, none⟩ = some (.int .i64 d.node) ∧ w.cell? ⟨b, off + i * 2 + 1, none⟩ = some (.int .i64 d.seq) := by
 have e : ∀ c, off + (i * 2 + c) = off + i * 2 + c := fun c => by omega
 have g : ∀ c, c < 2 → w.cell? ⟨b, off + i * 2 + c, none⟩ = (Dot.cells ds[i])[c]? := fun c hc => by rw [← e]; exact h.cell Dot.cells_len hi hc
 exact ⟨ds[i], List.getElem?_eq_getElem hi, g 0 (by decide), g 1 (by decide)⟩
end Go.Proofs.YtenkfnhcdfmkaaaGreat
namespace Go.Proofs.YtenkfnhcdfmkaaaGreat
open Go.RowKit Go.Sort
set_option linter.unusedVariables false
def Grew (w w' : World) : Prop := ∃ (q : Nat) (os : Array Obj), w' = grow (w.drewN q) os
theorem Grew.refl (w : World) : Grew w w := ⟨0, #[], by rw [grow_empty]; rfl⟩
theorem Grew.alloc {w w1 : World} (h : Grew w w1) (o : Obj) : Grew w (w1.alloc o) := by
 obtain ⟨q, os, rfl⟩ := h
 exact ⟨q, os ++ #[o], by rw [alloc_eq_grow, grow_grow]⟩
theorem Grew.trans {a b c : World} (h : Grew a b) (k : Grew b c) : Grew a c := by
 obtain ⟨q, os, rfl⟩ := h
 obtain ⟨q', os', rfl⟩ := k
 exact ⟨q + q', os ++ os', by rw [← World.drewN_drewN, ← grow_grow]; rfl⟩
theorem Grew.below {w w' : World} (h : Grew w w') : Below w.heap.size w w' := by
 obtain ⟨q, os, rfl⟩ := h
 exact ⟨rfl, rfl, rfl, by simp [World.drewN], fun k hk => heap_grow_old _ _ (by simpa [World.drewN] using hk)⟩
theorem cell_grown {W : World} {b o : Nat} {v : Value} (hlt : b < W.heap.size) (hc : W.cell? ⟨b, o, none⟩ = some v) : ∀ n os, (grow (W.drewN n) os).cell? ⟨b, o, none⟩ = some v := fun n os =>
 (World.cell?_of_block (a := ⟨b, o, none⟩) (heap_grow_old (W.drewN n) os hlt)).trans hc
def dotLt (a b : Dot) : Bool := decide (a.node < b.node ∨ (a.node = b.node ∧ a.seq < b.seq))
theorem dotLt_iff (a b : Dot) : dotLt a b = true ↔ (a.node < b.node ∨ (a.node = b.node ∧ a.seq < b.seq)) := decide_eq_true_iff
theorem before_any (a b : Dot) (w : World) :
  Calls Tryz.prog 121 #[.agg #[.int .i64 a.node, .int .i64 a.seq], .agg #[.int .i64 b.node, .int .i64 b.seq]] w fun e w' => e = .returned (.bool (dotLt a b)) ∧ Grew w w' := by
 have hx : Hid (dotLt a b = decide (a.node < b.node ∨ (a.node = b.node ∧ a.seq < b.seq))) := rfl
 by_cases h1 : a.node < b.node
 ·have hb : Hid (dotLt a b = true) := by show _ = _; rw [hx.out]; exact decide_eq_true (.inl h1)
  go_enter Tryz.func121, Tryz.ntmps121
  go_wp2
  go_ret
  exact ⟨retB hb.out.symm, ((Grew.refl _).alloc _).alloc _⟩
 ·by_cases h2 : a.node = b.node
  ·have hb : Hid (dotLt a b = decide (a.seq < b.seq)) := by show _ = _; rw [hx.out]; exact decide_eq_decide.2 ⟨fun h => by omega, fun h => .inr ⟨h2, h⟩⟩
   have h3 : (a.node == b.node) = true := beq_iff_eq.2 h2
   have H2 := Lib.hid h2
   have h4 : a.node ≤ b.node := by omega
   have h5 : b.node ≤ a.node := by omega
   clear h2
   go_enter Tryz.func121, Tryz.ntmps121
   go_wp2
   all_goals go_ret
   all_goals exact ⟨retB (by rw [hb.out]; try rfl), ((Grew.refl _).alloc _).alloc _⟩
  ·have hb : Hid (dotLt a b = false) := by show _ = _; rw [hx.out]; exact decide_eq_false (fun h => by omega)
   have h3 : (a.node == b.node) = false := beq_eq_false_iff_ne.2 h2
   go_enter Tryz.func121, Tryz.ntmps121
   go_wp2
   go_ret
   exact ⟨retB hb.out.symm, ((Grew.refl _).alloc _).alloc _⟩
end Go.Proofs.YtenkfnhcdfmkaaaGreat
