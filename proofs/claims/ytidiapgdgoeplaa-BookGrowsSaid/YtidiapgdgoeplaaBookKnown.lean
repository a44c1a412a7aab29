/-
  The function values of Newer and Stands that mark a dot in a captured map.
-/
import Derived.Test.YtidiapgdgoeplaaBookOwn
namespace Go.Proofs.Ytidiapgdgoeplaa
open Go.Shelf Go.RowKit Go.Lib Go.Sort
set_option linter.unusedVariables false
/-- a map of marks in block km, in the cell of block kb: the dots of E -/
structure MarksAt (kb km : Nat) (W : World) (ds : Dot → Prop) : Prop where
  ne : kb ≠ km
  obj : W.heap[kb]? = some (.cells #[.map (some km)] 53)
  map : ∃ E, DotMapAt W km E ∧ ∀ d v, (d, v) ∈ E ↔ v = .bool true ∧ May d ∧ ds d
theorem MarksAt.keep {kb km : Nat} {W W' : World} {ds : Dot → Prop} (h : MarksAt kb km W ds) (h1 : W'.heap[kb]? = W.heap[kb]?) (h2 : W'.heap[km]? = W.heap[km]?) : MarksAt kb km W' ds := by
  obtain ⟨E, g1, g2⟩ := h.map
  exact ⟨h.ne, h1.trans h.obj, E, g1.keep h2, g2⟩
theorem MarksAt.lt {kb km : Nat} {W : World} {ds : Dot → Prop} (h : MarksAt kb km W ds) : kb < W.heap.size ∧ km < W.heap.size := by
  obtain ⟨E, g1, g2⟩ := h.map
  exact ⟨(Array.getElem?_eq_some_iff.1 h.obj).1, g1.lt⟩
theorem MarksAt.put {kb km : Nat} {W' : World} {ds : Dot → Prop} (hne : kb ≠ km) (hobj : W'.heap[kb]? = some (.cells #[.map (some km)] 53)) {E : List (Dot × Value)} (hE : ∀ d v, (d, v) ∈ E ↔ v = .bool true ∧ May d ∧ ds d) {d : Dot} (hd : May d) (hm : DotMapAt W' km (putE E d (.bool true))) : MarksAt kb km W' (fun x => ds x ∨ x = d) := by
  refine ⟨hne, hobj, _, hm, fun x v => ?_⟩
  rw [mem_putE, hE]
  constructor
  · rintro (⟨rfl, rfl⟩ | ⟨⟨h1, h2, h3⟩, h4⟩)
    · exact ⟨rfl, hd, .inr rfl⟩
    · exact ⟨h1, h2, .inl h3⟩
  · rintro ⟨h1, h2, h3⟩
    by_cases e : x = d
    · exact .inl ⟨e, h1⟩
    · exact .inr ⟨⟨h1, h2, h3.resolve_right e⟩, e⟩
set_option maxHeartbeats 4000000 in
theorem newerMark_any (kb km : Nat) (d : Dot) (hd : May d) (ds : Dot → Prop) (w : World) (h : MarksAt kb km w ds) :
    Calls Try.prog 35 #[.agg #[.int .i64 d.node, .int .i64 d.seq], .pointer (some ⟨kb, 0, none⟩)] w fun e w' => e = .returned (.tuple #[]) ∧ MarksAt kb km w' (fun x => ds x ∨ x = d) ∧ w.grownBy w' (some km) := by
  have hb1 := (Below.refl w.heap.size w).alloc (Nat.le_refl _) (.cells #[.int .i64 d.node, .int .i64 d.seq] 28)
  have hlt := h.lt
  have h1 := h.keep (hb1.block kb hlt.1) (hb1.block km hlt.2)
  obtain ⟨E, g1, g2⟩ := h1.map
  have hlen := entries_len g1 fun p hp => ((g2 p.1 p.2).1 hp).2.1
  obtain ⟨w2, hrun, hm2, hg2⟩ := g1.store Try.underlying53 (by omega) (may_fits hd) (.bool true)
  have k0 := cell_of_row _ kb 0 _ _ _ h1.obj
  have h2 : MarksAt kb km w2 (fun x => ds x ∨ x = d) := .put h.ne ((hg2.block kb h1.lt.1 (fun e => h.ne (Option.some.inj e))).trans h1.obj) g2 hd hm2
  have HG := Lib.hid ((World.grownBy_alloc w (.cells #[.int .i64 d.node, .int .i64 d.seq] 28) (some km)).trans hg2)
  have H2 := Lib.hid h2
  unfold dotVal at hrun
  clear h h1 g1 g2 hm2 hg2 h2 hb1
  go_enter Try.func35, Try.ntmps35
  go_wp2_with fail
  go_end0
  exact ⟨rfl, H2.out, HG.out⟩
set_option maxHeartbeats 4000000 in
theorem standMark_any (kb km : Nat) (d : Dot) (hd : May d) (ds : Dot → Prop) (w : World) (h : MarksAt kb km w ds) :
    Calls Try.prog 30 #[.agg #[.int .i64 d.node, .int .i64 d.seq], .pointer (some ⟨kb, 0, none⟩)] w fun e w' => e = .returned (.tuple #[]) ∧ MarksAt kb km w' (fun x => ds x ∨ x = d) ∧ w.grownBy w' (some km) := by
  have hb1 := (Below.refl w.heap.size w).alloc (Nat.le_refl _) (.cells #[.int .i64 d.node, .int .i64 d.seq] 28)
  have hlt := h.lt
  have h1 := h.keep (hb1.block kb hlt.1) (hb1.block km hlt.2)
  obtain ⟨E, g1, g2⟩ := h1.map
  have hlen := entries_len g1 fun p hp => ((g2 p.1 p.2).1 hp).2.1
  obtain ⟨w2, hrun, hm2, hg2⟩ := g1.store Try.underlying53 (by omega) (may_fits hd) (.bool true)
  have k0 := cell_of_row _ kb 0 _ _ _ h1.obj
  have h2 : MarksAt kb km w2 (fun x => ds x ∨ x = d) := .put h.ne ((hg2.block kb h1.lt.1 (fun e => h.ne (Option.some.inj e))).trans h1.obj) g2 hd hm2
  have HG := Lib.hid ((World.grownBy_alloc w (.cells #[.int .i64 d.node, .int .i64 d.seq] 28) (some km)).trans hg2)
  have H2 := Lib.hid h2
  unfold dotVal at hrun
  clear h h1 g1 g2 hm2 hg2 h2 hb1
  go_enter Try.func30, Try.ntmps30
  go_wp2_with fail
  go_end0
  exact ⟨rfl, H2.out, HG.out⟩
end Go.Proofs.Ytidiapgdgoeplaa
