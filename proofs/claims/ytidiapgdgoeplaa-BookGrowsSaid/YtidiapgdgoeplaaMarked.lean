/-
  A map of marks, held in no cell; and a book beside one.
-/
import Derived.Test.YtidiapgdgoeplaaLaw08
import Derived.Test.YtidiapgdgoeplaaBookEvs
namespace Go.Proofs.Ytidiapgdgoeplaa
open Go.Shelf Go.RowKit Go.Lib Go.Sort
set_option linter.unusedVariables false
/-- block km is a map that marks just the dots of ds -/
def Marked (km : Nat) (W : World) (ds : Dot → Prop) : Prop := ∃ E, DotMapAt W km E ∧ ∀ d v, (d, v) ∈ E ↔ v = .bool true ∧ May d ∧ ds d
theorem Marked.lt {km : Nat} {W : World} {ds : Dot → Prop} (h : Marked km W ds) : km < W.heap.size := by obtain ⟨E, h1, _⟩ := h; exact h1.lt
theorem Marked.keep {km : Nat} {W W' : World} {ds : Dot → Prop} (h : Marked km W ds) (hk : W'.heap[km]? = W.heap[km]?) : Marked km W' ds := by
  obtain ⟨E, h1, h2⟩ := h
  exact ⟨E, h1.keep hk, h2⟩
theorem Marked.none {km : Nat} {W : World} (h : W.heap[km]? = some (.map #[] 0)) : Marked km W (fun _ => False) := by
  obtain ⟨D, ⟨es, clock, h1, h2⟩, h3⟩ := DotMapAt.made W
  rw [heap_alloc_new] at h1
  simp only [Option.some.injEq, Obj.map.injEq] at h1
  obtain ⟨e1, e2⟩ := h1
  subst e1
  subst e2
  exact ⟨[], ⟨D, ⟨_, _, h, h2⟩, h3⟩, fun d v => by simp⟩
theorem Marked.same {km : Nat} {W : World} {ds ds' : Dot → Prop} (h : Marked km W ds) (he : ∀ d, May d → (ds d ↔ ds' d)) : Marked km W ds' := by
  obtain ⟨E, h1, h2⟩ := h
  refine ⟨E, h1, fun d v => ?_⟩
  rw [h2]
  constructor
  · rintro ⟨a, b, c⟩; exact ⟨a, b, (he d b).1 c⟩
  · rintro ⟨a, b, c⟩; exact ⟨a, b, (he d b).2 c⟩
theorem Marked.look {km : Nat} {W : World} {ds : Dot → Prop} (h : Marked km W ds) {d : Dot} (hd : May d) (c : Bool) (hc : c = true ↔ ds d) : (Instr.lookup 53 (.map (some km)) (dotVal d) false).run Try.prog W = .ok (.bool c) W := by
  obtain ⟨E, h1, h2⟩ := h
  rw [h1.look Try.underlying53 (Try.zeroValue4 W) (may_fits hd)]
  refine congrArg (fun v => Result.ok v W) ?_
  cases c with
  | true => rw [(lookE_mem h1.nodup).2 ((h2 d (.bool true)).2 ⟨rfl, hd, hc.1 rfl⟩)]; rfl
  | false =>
    have : lookE E d = .none := lookE_none.2 fun hm => by
      obtain ⟨p, hp, e⟩ := List.mem_map.1 hm
      have := (h2 p.1 p.2).1 hp
      rw [e] at this
      exact absurd (hc.2 this.2.2) (by simp)
    rw [this]; rfl
theorem Marked.put {km : Nat} {W : World} {ds : Dot → Prop} (h : Marked km W ds) {d : Dot} (hd : May d) : ∃ W', (Instr.mapUpdate 53 (.map (some km)) (dotVal d) (.bool true)).run Try.prog W = .ok () W' ∧ Marked km W' (fun x => ds x ∨ x = d) ∧ W.grownBy W' (some km) := by
  obtain ⟨E, h1, h2⟩ := h
  have hlen := entries_len h1 fun p hp => ((h2 p.1 p.2).1 hp).2.1
  obtain ⟨W', hrun, hm2, hg2⟩ := h1.store Try.underlying53 (by omega) (may_fits hd) (.bool true)
  refine ⟨W', hrun, ⟨_, hm2, fun x v => ?_⟩, hg2⟩
  rw [mem_putE, h2]
  constructor
  · rintro (⟨rfl, rfl⟩ | ⟨⟨a, b, c⟩, e⟩)
    · exact ⟨rfl, hd, .inr rfl⟩
    · exact ⟨a, b, .inl c⟩
  · rintro ⟨a, b, c⟩
    by_cases e : x = d
    · exact .inl ⟨e, a⟩
    · exact .inr ⟨⟨a, b, c.resolve_right e⟩, e⟩
/-- a row is no map -/
theorem owns_ne_map {α : Type} {enc : α → List Value} {k base e km : Nat} {w : World} {v : Value} {l : List α} {ds : Dot → Prop} (h : Owns enc k base e w v l) (hm : Marked km w ds) : ∀ g, v.ownBlock = some g → g ≠ km := fun g hg e2 => by
  obtain ⟨E, ⟨D, ⟨es, clock, h1, _⟩, _⟩, _⟩ := hm
  rcases h.2 with ⟨rfl, _⟩ | ⟨g', cap', cur, rfl, hb, hh, hc, hm, hs, ht⟩
  · cases hg
  · have : g' = g := Option.some.inj hg
    subst this
    subst e2
    rw [hh] at h1
    cases h1
/-- the book while a map beside it is marked, and new blocks are laid -/
theorem BookRun.spared {W0 W W' : World} {bb ms mh B km : Nat} {S : BookS} {ds : Dot → Prop} (h : BookRun W0 bb ms mh B S W) (hm : Marked km W ds) (hB : B ≤ km) (h0 : W0.heap.size ≤ km) (hs : Spares km W.heap.size W W') : BookRun W0 bb ms mh B S W' := by
  have hsz := h.book.size
  have h1 := h.book.ltb
  have h2 := h.book.lts
  have h3 := h.book.lth
  refine ⟨⟨h1, h2, h3, h.book.nbs, h.book.nbh, h.book.nsh, Nat.le_trans hsz hs.size, (hs.block _ (by omega) (by omega)).trans h.book.obj, ?_, ?_, h.book.may⟩, h.fine, ?_, h.l1, h.l2, h.l3⟩
  · obtain ⟨Es, a, b⟩ := h.book.seen
    exact ⟨Es, a.keep (hs.block _ (by omega) (by omega)), b⟩
  · obtain ⟨Eh, hs', a, b, c, d⟩ := h.book.holds
    exact ⟨Eh, hs', a.keep (hs.block _ (by omega) (by omega)), b, c, fun p hp => (d p hp).keep fun g hg => hs.block g ((d p hp).lt g hg).2 (owns_ne_map (d p hp) hm g hg)⟩
  · exact ⟨hs.os.trans h.below.os, hs.tape.trans h.below.tape, hs.output.trans h.below.output, Nat.le_trans h.below.size hs.size, fun i hi => (hs.block i (by have := h.below.size; omega) (by omega)).trans (h.below.block i hi)⟩
theorem BookRun.add2 {W0 wr W : World} {bb ms mh B : Nat} {S : BookS} (h : BookRun W0 bb ms mh B S wr) (hW : Below wr.heap.size wr W) (hd : Hdr) (ev : Ev) (hs : SlAt Dot.cells W0 hd.val ev.rem) (hl : ev.rem.length ≤ 1000000) :
    Calls Try.prog 9 #[.pointer (some ⟨bb, 0, none⟩), .agg #[.int .i64 ev.dot.node, .int .i64 ev.dot.seq, .int .i64 ev.time, .int .i64 ev.kind, .int .i64 ev.work, .int .i64 ev.value, .int .i64 ev.pol.mn, .int .i64 ev.pol.mx, .int .i64 ev.pol.goal, .int .i64 ev.pol.slack, .int .i64 ev.pol.up, .int .i64 ev.pol.down, .int .i64 ev.pol.cool, hd.val]] W fun e w' => e = .returned (.int .i64 (addB S ev).1) ∧ BookRun W0 bb ms mh B (addB S ev).2 w' ∧ Turns3 bb ms mh W w' := by
  have h1 := h.past hW
  have h2 := h1.l1
  have h3 := h1.l2
  have h4 := h1.l3
  refine (bookAdd_any bb ms mh B S hd ev W h1.book (hs.below Dot.cells_len (by decide) h1.below (Nat.le_refl _)) hl ?_ ?_).mono ?_
  · by_cases he : ev.rem = []
    · exact .inl he
    · refine .inr fun b hb => ?_
      have := hs.lt Dot.cells_len (by decide) he b hb
      omega
  · have := h.fine.t0
    have := h.fine.t1
    omega
  · rintro e w' ⟨rfl, hbk, ht⟩
    exact ⟨rfl, ⟨hbk, addB_fine h.fine ev, h1.below.trans (ht.below (by omega) (by omega) (by omega) h1.below.size), h2, h3, h4⟩, ht⟩
theorem addB_parts (S : BookS) (ev : Ev) : (addB S ev = (0, takeB S ev) ∧ RightEv ev ∧ S.sees ev.dot = false) ∨ ∃ c : Int, c ≠ 0 ∧ addB S ev = (c, S) := by
  unfold addB
  by_cases hr : RightEv ev
  · rw [if_pos hr]
    cases hs : S.sees ev.dot with
    | true => exact .inr ⟨9, by decide, rfl⟩
    | false => exact .inl ⟨rfl, hr, rfl⟩
  · rw [if_neg hr]
    exact .inr ⟨2, by decide, rfl⟩
end Go.Proofs.Ytidiapgdgoeplaa
