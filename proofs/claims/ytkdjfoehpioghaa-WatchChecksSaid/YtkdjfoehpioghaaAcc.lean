/-
  A slice of events that a function gathers in new memory, each with a clone of its own slice: how the whole lives on (Acc), and how one more is pushed.
-/
import Derived.Test.YtkdjfoehpioghaaEv
import Derived.Test.YtkdjfoehpioghaaBase
import Derived.Test.YtkdjfoehpioghaaSortPure
import Derived.Deep.LoopGhost
namespace Go.Proofs.Ytkdjfoehpioghaa
open Go.RowKit Go.Sort
set_option linter.unusedVariables false

theorem infoEv : (Try.prog.info? 210).map (fun i => (i.zero, i.size, i.bytes)) = some (some (.agg #[.int .i64 0, .int .i64 0, .int .i64 0, .int .i64 0, .int .i64 0, .int .i64 0, .int .i64 0, .int .i64 0, .int .i64 0, .int .i64 0, .int .i64 0, .int .i64 0, .int .i64 0, .slice none 0 0]), 14, 128) := by kernel_rfl

theorem slAt_some {w : World} {oa : Option Addr} {n cap : Nat} {l : List PEv} (h : SlAt pcells w (.slice oa n cap) l) (i : Nat) (hi : i < l.length) : ∃ b off, oa = some ⟨b, off, none⟩ :=
  h.plain pcells_len (by decide) (by intro e; rw [e] at hi; exact absurd hi (by simp))
structure Acc (B e ed : Nat) (w : World) (v : Value) (qs : List PEv) : Prop where
  row : Owns pcells 14 B e w v qs
  rem : ∀ q ∈ qs, Owns Dot.cells 2 B ed w q.1.val q.2.rem ∧ (q.1.val.ownBlock = none ∨ q.1.val.ownBlock ≠ v.ownBlock)

theorem Acc.nil (B e ed : Nat) (w : World) : Acc B e ed w (.slice none 0 0) [] := ⟨Owns.nil _ _ _ _ _, fun q hq => by cases hq⟩

theorem Acc.below {B e ed : Nat} {w w' : World} {v : Value} {qs : List PEv} {C : Nat} (h : Acc B e ed w v qs) (hb : Below C w w') (hC : w.heap.size ≤ C) : Acc B e ed w' v qs :=
  ⟨h.row.below hb hC, fun q hq => ⟨(h.rem q hq).1.below hb hC, (h.rem q hq).2⟩⟩

theorem Acc.lower {B B' e ed : Nat} {w : World} {v : Value} {qs : List PEv} (h : Acc B e ed w v qs) (hb : B' ≤ B) : Acc B' e ed w v qs := ⟨h.row.lower hb, fun q hq => ⟨(h.rem q hq).1.lower hb, (h.rem q hq).2⟩⟩

/-- one more, behind an append -/
theorem Acc.push {B e ed : Nat} {W w' : World} {v v' : Value} {qs ms : List PEv} (h : Acc B e ed W v qs)
    (hr : ∀ q ∈ ms, Owns Dot.cells 2 B ed W q.1.val q.2.rem ∧ (q.1.val.ownBlock = none ∨ q.1.val.ownBlock ≠ v.ownBlock))
    (ho : Owns pcells 14 B e w' v' (qs ++ ms)) (hg : W.grownBy w' v.ownBlock) (hv : v'.ownBlock = v.ownBlock ∨ ∀ g, v'.ownBlock = some g → W.heap.size ≤ g) : Acc B e ed w' v' (qs ++ ms) := by
  refine ⟨ho, fun q hq => ?_⟩
  have hq' : Owns Dot.cells 2 B ed W q.1.val q.2.rem ∧ (q.1.val.ownBlock = none ∨ q.1.val.ownBlock ≠ v.ownBlock) := by
    rcases List.mem_append.1 hq with hq | hq
    · exact h.rem q hq
    · exact hr q hq
  refine ⟨hq'.1.kept hg hq'.2, ?_⟩
  rcases hv with hv | hv
  · rw [hv]; exact hq'.2
  · cases hb : q.1.val.ownBlock with
    | none => exact .inl rfl
    | some g =>
      refine .inr fun e2 => ?_
      have h1 := (hq'.1.lt g hb).2
      have h2 := hv g e2.symm
      omega

/-- the row is rewritten with the same events in another order -/
theorem Acc.perm {B e ed : Nat} {W w' : World} {v : Value} {qs qs' : List PEv} (h : Acc B e ed W v qs) (ho : Owns pcells 14 B e w' v qs') (hg : W.grownBy w' v.ownBlock) (hm : ∀ q ∈ qs', q ∈ qs) : Acc B e ed w' v qs' :=
  ⟨ho, fun q hq => ⟨(h.rem q (hm q hq)).1.kept hg (h.rem q (hm q hq)).2, (h.rem q (hm q hq)).2⟩⟩

theorem Acc.evs {B e ed : Nat} {w : World} {v : Value} {qs : List PEv} (h : Acc B e ed w v qs) : EvsAt w v qs := ⟨h.row.at, fun q hq => (h.rem q hq).1.at⟩

theorem stab_mem {α : Type} {lt : α → α → Bool} (hO : SWO lt) {l l' : List α} (h : StabL lt l l') : ∀ x ∈ l', x ∈ l := fun x hx => by
  have : x ∈ l'.filter (eqv lt x) := List.mem_filter.2 ⟨hx, eqv_refl hO x⟩
  rw [h x] at this
  exact (List.mem_filter.1 this).1

/-- told of the events alone -/
theorem stable_map {lt : PEv → PEv → Bool} {lt2 : Ev → Ev → Bool} (hlt : ∀ x y, lt x y = lt2 x.2 y.2) {l l' : List PEv} (h : stableOf lt l l') : stableOf lt2 (l.map (·.2)) (l'.map (·.2)) := by
  refine ⟨?_, fun y => ?_⟩
  · have := h.1
    unfold SortedL at *
    rw [List.pairwise_map]
    exact this.imp fun {a b} hab => by rw [← hlt]; exact hab
  · have e : ∀ (x : PEv), (fun a : PEv => eqv lt2 x.2 a.2) = eqv lt x := fun x => by funext a; simp [eqv, hlt]
    have k := h.2 (default, y)
    rw [List.filter_map, List.filter_map]
    have e2 : (eqv lt2 y ∘ fun x : PEv => x.2) = eqv lt (default, y) := by rw [← e (default, y)]; rfl
    rw [e2, k]

/-- the worlds of one round: the event boxed, its dots cloned, the clone stored, the event laid for the append -/
theorem round_below {wr w1 : World} {o lit : Obj} {p : Addr} {u : Value} (hp : p.block = wr.heap.size) (hb : Below (wr.alloc o).heap.size (wr.alloc o) w1) : Below wr.heap.size wr ((w1.setCell p u).alloc lit) := by
  have h1 : Below wr.heap.size wr w1 := ((Below.refl _ _).alloc (Nat.le_refl _) o).trans (hb.mono (by simp))
  have h2 := h1.size
  exact (h1.setCell (by omega) u).alloc (by simp [World.setCell]; omega) lit

theorem acc_round {B e ed : Nat} {wr w1 w' : World} {o lit : Obj} {v v' : Value} {qs : List PEv} {hd : Hdr} {ev : Ev} {p : Addr} {u : Value} (hp : p.block = wr.heap.size) (hB : B ≤ wr.heap.size)
    (h : Acc B e ed wr v qs) (hb : Below (wr.alloc o).heap.size (wr.alloc o) w1) (hc : Owns Dot.cells 2 (wr.alloc o).heap.size ed w1 hd.val ev.rem)
    (ho : Owns pcells 14 B e w' v' (qs ++ [(hd, ev)])) (hg : ((w1.setCell p u).alloc lit).grownBy w' v.ownBlock) (hv : v'.ownBlock = v.ownBlock ∨ ∀ g, v'.ownBlock = some g → w1.heap.size + 1 ≤ g) :
    Acc B e ed w' v' (qs ++ [(hd, ev)]) ∧ Below B wr w' := by
  have h3 := round_below (lit := lit) (u := u) hp hb
  have hs : (wr.alloc o).heap.size = wr.heap.size + 1 := by simp
  refine ⟨(h.below h3 (Nat.le_refl _)).push (fun q hq => ?_) ho hg (by simpa [World.setCell] using hv), (h3.mono hB).grown hg (Nat.le_trans hB h3.size) fun k hk => (h.row.lt k hk).1⟩
  obtain rfl : q = (hd, ev) := by simpa using hq
  refine ⟨(hc.lower (by omega)).keep fun g hg2 => ?_, ?_⟩
  · have hl := hc.lt g hg2
    rw [Below.heap_alloc _ _ _ (by simp [World.setCell]; exact hl.2), Below.heap_setCell _ _ _ _ (by omega)]
  · cases hx : hd.val.ownBlock with
    | none => exact .inl rfl
    | some g =>
      refine .inr fun e2 => ?_
      have h1 := (hc.lt g hx).1
      have h2 := (h.row.lt g e2.symm).2
      omega
end Go.Proofs.Ytkdjfoehpioghaa
