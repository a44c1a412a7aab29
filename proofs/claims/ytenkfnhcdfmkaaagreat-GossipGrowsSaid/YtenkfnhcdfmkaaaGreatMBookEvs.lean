/-
  What a book holds, copied: Events and the function value it walks with.
  The function values of Newer and Stands that mark a dot in a captured map.
-/
import Derived.Test.YtenkfnhcdfmkaaaGreatMAcc
import Derived.Test.YtenkfnhcdfmkaaaGreatMStep
import Derived.Test.YtenkfnhcdfmkaaaGreatMSortRow
import Derived.Test.YtenkfnhcdfmkaaaGreatMBookQ
namespace Go.Proofs.YtenkfnhcdfmkaaaGreat
open Go.Shelf Go.RowKit Go.Lib Go.Sort
set_option linter.unusedVariables false
structure OutAt (ob B : Nat) (W : World) (hd : Hdr) (ps : List PEv) : Prop where
 lt : ob < B
 size : B ≤ W.heap.size
 obj : W.heap[ob]? = some (.cells #[hd.val] 35)
 acc : Acc B 44 40 W hd.val ps
structure Spares (ob B : Nat) (w w' : World) : Prop where
 os : w'.os = w.os
 tape : w'.tape = w.tape
 output : w'.output = w.output
 size : w.heap.size ≤ w'.heap.size
 block : ∀ i, i < B → i ≠ ob → w'.heap[i]? = w.heap[i]?
theorem Spares.refl (ob B : Nat) (w : World) : Spares ob B w w := ⟨rfl, rfl, rfl, Nat.le_refl _, fun _ _ _ => rfl⟩
theorem Spares.trans {ob B : Nat} {a b c : World} (h : Spares ob B a b) (k : Spares ob B b c) : Spares ob B a c := ⟨k.os.trans h.os, k.tape.trans h.tape, k.output.trans h.output, Nat.le_trans h.size k.size, fun i hi hne => (k.block i hi hne).trans (h.block i hi hne)⟩
theorem Spares.of_below {ob B C : Nat} {a b : World} (h : Below C a b) (hB : B ≤ C) : Spares ob B a b := ⟨h.os, h.tape, h.output, h.size, fun i hi _ => h.block i (by omega)⟩
theorem OutAt.below {ob B C : Nat} {W W' : World} {hd : Hdr} {ps : List PEv} (h : OutAt ob B W hd ps) (hb : Below C W W') (hC : W.heap.size ≤ C) : OutAt ob B W' hd ps :=
 ⟨h.lt, Nat.le_trans h.size hb.size, (hb.block ob (by have := h.lt; have := h.size; omega)).trans h.obj, h.acc.below hb hC⟩
theorem Acc.past {B e ed : Nat} {w w' : World} {v : Value} {qs : List PEv} (h : Acc B e ed w v qs) (hk : ∀ i, B ≤ i → w'.heap[i]? = w.heap[i]?) : Acc B e ed w' v qs :=
 ⟨h.row.keep fun g hg => hk g (h.row.lt g hg).1, fun q hq => ⟨(h.rem q hq).1.keep fun g hg => hk g ((h.rem q hq).1.lt g hg).1, (h.rem q hq).2⟩⟩
end Go.Proofs.YtenkfnhcdfmkaaaGreat
namespace Go.Proofs.YtenkfnhcdfmkaaaGreat
open Go.Shelf Go.RowKit Go.Lib Go.Sort
set_option linter.unusedVariables false
structure MarksAt (kb km : Nat) (W : World) (ds : Dot → Prop) : Prop where
 ne : kb ≠ km
 obj : W.heap[kb]? = some (.cells #[.map (some km)] 93)
 map : ∃ E, DotMapAt W km E ∧ ∀ d v, (d, v) ∈ E ↔ v = .bool true ∧ May d ∧ ds d
theorem MarksAt.keep {kb km : Nat} {W W' : World} {ds : Dot → Prop} (h : MarksAt kb km W ds) (h1 : W'.heap[kb]? = W.heap[kb]?) (h2 : W'.heap[km]? = W.heap[km]?) : MarksAt kb km W' ds := by
 obtain ⟨E, g1, g2⟩ := h.map
 exact ⟨h.ne, h1.trans h.obj, E, g1.keep h2, g2⟩
theorem MarksAt.lt {kb km : Nat} {W : World} {ds : Dot → Prop} (h : MarksAt kb km W ds) : kb < W.heap.size ∧ km < W.heap.size := by
 obtain ⟨E, g1, g2⟩ := h.map
 exact ⟨(Array.getElem?_eq_some_iff.1 h.obj).1, g1.lt⟩
theorem MarksAt.put {kb km : Nat} {W' : World} {ds : Dot → Prop} (hne : kb ≠ km) (hobj : W'.heap[kb]? = some (.cells #[.map (some km)] 93)) {E : List (Dot × Value)} (hE : ∀ d v, (d, v) ∈ E ↔ v = .bool true ∧ May d ∧ ds d) {d : Dot} (hd : May d) (hm : DotMapAt W' km (putE E d (.bool true))) : MarksAt kb km W' (fun x => ds x ∨ x = d) := by
 refine ⟨hne, hobj, _, hm, fun x v => ?_⟩
 rw [mem_putE, hE]
 constructor
 ·rintro (⟨rfl, rfl⟩ | ⟨⟨h1, h2, h3⟩, h4⟩)
  ·exact ⟨rfl, hd, .inr rfl⟩
  ·exact ⟨h1, h2, .inl h3⟩
 ·rintro ⟨h1, h2, h3⟩
  by_cases e : x = d
  ·exact .inl ⟨e, h1⟩
  ·exact .inr ⟨⟨h1, h2, h3.resolve_right e⟩, e⟩
set_option maxHeartbeats 4000000 in
theorem newerMark_any (kb km : Nat) (d : Dot) (hd : May d) (ds : Dot → Prop) (w : World) (h : MarksAt kb km w ds) :
  Calls Tryz.prog 118 #[.agg #[.int .i64 d.node, .int .i64 d.seq], .pointer (some ⟨kb, 0, none⟩)] w fun e w' => e = .returned (.tuple #[]) ∧ MarksAt kb km w' (fun x => ds x ∨ x = d) ∧ w.grownBy w' (some km) := by
 have hb1 := (Below.refl w.heap.size w).alloc (Nat.le_refl _) (.cells #[.int .i64 d.node, .int .i64 d.seq] 40)
 have hlt := h.lt
 have h1 := h.keep (hb1.block kb hlt.1) (hb1.block km hlt.2)
 obtain ⟨E, g1, g2⟩ := h1.map
 have hlen := entries_len g1 fun p hp => ((g2 p.1 p.2).1 hp).2.1
 obtain ⟨w2, hrun, hm2, hg2⟩ := g1.store Tryz.underlying93 (by omega) (may_fits hd) (.bool true)
 have k0 := cell_of_row _ kb 0 _ _ _ h1.obj
 have h2 : MarksAt kb km w2 (fun x => ds x ∨ x = d) := .put h.ne ((hg2.block kb h1.lt.1 (fun e => h.ne (Option.some.inj e))).trans h1.obj) g2 hd hm2
 have HG := Lib.hid ((World.grownBy_alloc w (.cells #[.int .i64 d.node, .int .i64 d.seq] 40) (some km)).trans hg2)
 have H2 := Lib.hid h2
 unfold dotVal at hrun
 clear h h1 g1 g2 hm2 hg2 h2 hb1
 go_enter Tryz.func118, Tryz.ntmps118
 go_wp2_with fail
 go_end0
 exact ⟨rfl, H2.out, HG.out⟩
end Go.Proofs.YtenkfnhcdfmkaaaGreat
