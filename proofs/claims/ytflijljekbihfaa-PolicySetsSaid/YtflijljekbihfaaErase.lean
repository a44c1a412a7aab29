/-
  Stores into the dots of events of the call's own: the events' row stays, the dots are other ones.
-/
import Derived.Test.YtflijljekbihfaaAcc
namespace Go.Proofs.Ytflijljekbihfaa
open Go.RowKit Go.Lib Go.Sort
set_option linter.unusedVariables false

theorem flat_set (x : Int) : ∀ (ds : List Dot) (k : Nat), ∃ ds' : List Dot, ds'.length = ds.length ∧ (ds.flatMap Dot.cells).set (k * 2 + 1) (.int .i64 x) = ds'.flatMap Dot.cells
  | [], k => ⟨[], rfl, by simp⟩
  | d :: ds, 0 => ⟨⟨d.node, x⟩ :: ds, rfl, by simp [Dot.cells]⟩
  | d :: ds, k + 1 => by
    obtain ⟨ds', h1, h2⟩ := flat_set x ds k
    refine ⟨d :: ds', by simp [h1], ?_⟩
    rw [List.flatMap_cons, List.flatMap_cons, ← h2, show (k + 1) * 2 + 1 = k * 2 + 1 + 1 + 1 by omega]
    simp [Dot.cells]
theorem heap_setCell_same (w : World) (g o : Nat) (v : Value) (cur : Array Value) (e : TypeId) (fr : Nat × Nat) (h : w.heap[g]? = some (.cells cur e fr)) : (w.setCell ⟨g, o, none⟩ v).heap[g]? = some (.cells (cur.setIfInBounds o v) e fr) := by
  rw [setCell_eq]
  simp [mapBlock, Array.getElem?_modify, h, onCells]
theorem owns_set {B e : Nat} {w : World} {v : Value} {ds : List Dot} (h : Owns Dot.cells 2 B e w v ds) (g k : Nat) (x : Int) : ∃ ds' : List Dot, ds'.length = ds.length ∧ Owns Dot.cells 2 B e (w.setCell ⟨g, k * 2 + 1, none⟩ (.int .i64 x)) v ds' := by
  by_cases hg : v.ownBlock = some g
  · rcases h.2 with ⟨hv, hn⟩ | ⟨g', cap', cur, hv, hbg, hgg, hnc, hcm, hcs, htk⟩
    · rw [hv] at hg; simp [Value.ownBlock] at hg
    · obtain rfl : g' = g := by rw [hv] at hg; simpa [Value.ownBlock] using hg
      obtain ⟨ds', h1, h2⟩ := flat_set x ds k
      refine ⟨ds', h1, by rw [flat_len Dot.cells 2 Dot.cells_len], .inr ⟨g', cap', cur.setIfInBounds (k * 2 + 1) (.int .i64 x), by rw [hv, h1], hbg, heap_setCell_same w g' _ _ cur _ _ hgg, by omega, hcm, by simpa using hcs, ?_⟩⟩
      rw [h1, ← h2, Array.toList_setIfInBounds, ← htk]
      exact (List.take_set ..)
  · exact ⟨ds, rfl, h.keep fun g2 hg2 => Below.heap_setCell w _ _ g2 fun e2 => hg (by rw [hg2, e2])⟩

/-- the row stands, each event has as many dots as ever -/
structure Erased (B ed : Nat) (v : Value) (qs : List PEv) (w0 w : World) : Prop where
  below : Below B w0 w
  size : B ≤ w0.heap.size
  row : SlAt pcells w v qs
  rem : ∀ q ∈ qs, ∃ ds : List Dot, ds.length = q.2.rem.length ∧ Owns Dot.cells 2 B ed w q.1.val ds ∧ (q.1.val.ownBlock = none ∨ q.1.val.ownBlock ≠ v.ownBlock)
theorem Erased.of {B e ed : Nat} {v : Value} {qs : List PEv} {w0 w : World} (h : Acc B e ed w v qs) (hb : Below B w0 w) (hB : B ≤ w0.heap.size) : Erased B ed v qs w0 w := ⟨hb, hB, h.row.at, fun q hq => ⟨q.2.rem, rfl, h.rem q hq⟩⟩
theorem Erased.set {B ed : Nat} {v : Value} {qs : List PEv} {w0 w : World} (h : Erased B ed v qs w0 w) (g k : Nat) (x : Int) (hg : B ≤ g) (hv : v.ownBlock ≠ some g) : Erased B ed v qs w0 (w.setCell ⟨g, k * 2 + 1, none⟩ (.int .i64 x)) := by
  refine ⟨h.below.setCell hg _, h.size, h.row.keep (.inr fun b hb => Below.heap_setCell w _ _ b fun e2 => hv (by rw [hb, e2])), fun q hq => ?_⟩
  obtain ⟨ds, h1, h2, h3⟩ := h.rem q hq
  obtain ⟨ds', h4, h5⟩ := owns_set h2 g k x
  exact ⟨ds', by omega, h5, h3⟩
/-- the place that is stored to -/
theorem Erased.place {B ed : Nat} {v : Value} {qs : List PEv} {w0 w : World} (h : Erased B ed v qs w0 w) {i : Nat} {ra : Option Addr} {rn rc : Nat} {ev : Ev} (hq : qs[i]? = some (⟨ra, rn, rc⟩, ev)) :
    rn = ev.rem.length ∧ ∀ k, k < rn → ∃ g, ra = some ⟨g, 0, none⟩ ∧ B ≤ g ∧ v.ownBlock ≠ some g ∧ (∃ y, w.cell? ⟨g, k * 2 + 1, none⟩ = some (.int .i64 y)) ∧ w.frozen? ⟨g, k * 2 + 1, none⟩ = false := by
  obtain ⟨ds, h1, h2, h3⟩ := h.rem _ (List.mem_of_getElem? hq)
  simp only at h1
  obtain ⟨oa, cap, hv, hc⟩ := h2.at.slice_of
  simp only [Hdr.val, Value.slice.injEq] at hv
  obtain ⟨rfl, rfl, rfl⟩ := hv
  refine ⟨h1, fun k hk => ?_⟩
  rcases h2.2 with ⟨hv, hn⟩ | ⟨g, cap', cur, hv, hbg, hgg, hnc, hcm, hcs, htk⟩
  · omega
  · simp only [Hdr.val, Value.slice.injEq] at hv
    obtain ⟨rfl, _, rfl⟩ := hv
    refine ⟨g, rfl, hbg, ?_, ?_, by simp [World.frozen?, hgg]⟩
    · rcases h3 with h3 | h3
      · simp [Hdr.val, Value.ownBlock] at h3
      · simpa [Hdr.val, Value.ownBlock, eq_comm] using h3
    · have := h2.at.cell Dot.cells_len (i := k) (c := 1) hk (by decide)
      rw [Nat.zero_add] at this
      exact ⟨_, this⟩
theorem Erased.head {B ed b off n cap : Nat} {qs : List PEv} {w0 w : World} (h : Erased B ed (.slice (some ⟨b, off, none⟩) n cap) qs w0 w) {i : Nat} {ra : Option Addr} {rn rc : Nat} {ev : Ev} (hq : qs[i]? = some (⟨ra, rn, rc⟩, ev)) : w.cell? ⟨b, off + i * 14 + 13, none⟩ = some (.slice ra rn rc) := by
  obtain ⟨ra', rn', rc', ev', hp, _, _, _, _, _, _, _, _, _, _, _, _, _, c13⟩ := h.row.ev i (List.getElem?_eq_some_iff.1 hq).1
  rw [hq] at hp
  simp only [Option.some.injEq, Prod.mk.injEq, Hdr.mk.injEq] at hp
  obtain ⟨⟨rfl, rfl, rfl⟩, _⟩ := hp
  exact c13
end Go.Proofs.Ytflijljekbihfaa
