/-
  Which of two dots, of two events comes first: event.before, event.Later, policy.later.compare, and window.Of's own order. Each boxes its parameters in new blocks and turns nothing.
  A slice of events that a function gathers in new memory, each with a clone of its own slice: how the whole lives on (Acc), and how one more is pushed.
  Two blocks laid side by side; a row made anew.
-/
import Derived.Test.YtejihgfigclppaaGreatMSat
import Derived.Test.YtejihgfigclppaaGreatSortPure
import Derived.Sort.Grow
import Derived.Shelf.SlSortCmp.KitK
import Derived.Test.YtejihgfigclppaaGreatMRd
import Derived.Deep.LoopGhost
namespace Go.Proofs.YtejihgfigclppaaGreat
open Go.RowKit Go.Sort
set_option linter.unusedVariables false

/-- draws and new blocks alone -/
def Grew (w w' : World) : Prop := ∃ (q : Nat) (os : Array Obj), w' = grow (w.drewN q) os
theorem Grew.refl (w : World) : Grew w w := ⟨0, #[], by rw [grow_empty]; rfl⟩
theorem Grew.alloc {w w1 : World} (h : Grew w w1) (o : Obj) : Grew w (w1.alloc o) := by
  obtain ⟨q, os, rfl⟩ := h
  exact ⟨q, os ++ #[o], by rw [alloc_eq_grow, grow_grow]⟩
theorem Grew.trans {a b c : World} (h : Grew a b) (k : Grew b c) : Grew a c := by
  obtain ⟨q, os, rfl⟩ := h
  obtain ⟨q', os', rfl⟩ := k
  exact ⟨q + q', os ++ os', by rw [← World.drewN_drewN, ← grow_grow]; rfl⟩
theorem Grew.below {w w' : World} (h : Grew w w') : Below w.heap.size w w' := by
  obtain ⟨q, os, rfl⟩ := h
  exact ⟨rfl, rfl, rfl, by simp [World.drewN], fun k hk => heap_grow_old _ _ (by simpa [World.drewN] using hk)⟩

theorem cell_grown {W : World} {b o : Nat} {v : Value} (hlt : b < W.heap.size) (hc : W.cell? ⟨b, o, none⟩ = some v) : ∀ n os, (grow (W.drewN n) os).cell? ⟨b, o, none⟩ = some v := fun n os =>
  (World.cell?_of_block (a := ⟨b, o, none⟩) (heap_grow_old (W.drewN n) os hlt)).trans hc

def dotLt (a b : Dot) : Bool := decide (a.node < b.node ∨ (a.node = b.node ∧ a.seq < b.seq))
def evLater (a b : Ev) : Bool := if a.time = b.time then dotLt b.dot a.dot else decide (b.time < a.time)
theorem dotLt_iff (a b : Dot) : dotLt a b = true ↔ (a.node < b.node ∨ (a.node = b.node ∧ a.seq < b.seq)) := decide_eq_true_iff

theorem before_any (a b : Dot) (w : World) :
    Calls Tryz.prog 133 #[.agg #[.int .i64 a.node, .int .i64 a.seq], .agg #[.int .i64 b.node, .int .i64 b.seq]] w fun e w' => e = .returned (.bool (dotLt a b)) ∧ Grew w w' := by
  have hx : Hid (dotLt a b = decide (a.node < b.node ∨ (a.node = b.node ∧ a.seq < b.seq))) := rfl
  by_cases h1 : a.node < b.node
  · have hb : Hid (dotLt a b = true) := by show _ = _; rw [hx.out]; exact decide_eq_true (.inl h1)
    go_enter Tryz.func133, Tryz.ntmps133
    go_wp2
    go_ret
    exact ⟨retB hb.out.symm, ((Grew.refl _).alloc _).alloc _⟩
  · by_cases h2 : a.node = b.node
    · have hb : Hid (dotLt a b = decide (a.seq < b.seq)) := by show _ = _; rw [hx.out]; exact decide_eq_decide.2 ⟨fun h => by omega, fun h => .inr ⟨h2, h⟩⟩
      have h3 : (a.node == b.node) = true := beq_iff_eq.2 h2
      have H2 := Lib.hid h2
      have h4 : a.node ≤ b.node := by omega
      have h5 : b.node ≤ a.node := by omega
      clear h2
      go_enter Tryz.func133, Tryz.ntmps133
      go_wp2
      all_goals go_ret
      all_goals exact ⟨retB (by rw [hb.out]; try rfl), ((Grew.refl _).alloc _).alloc _⟩
    · have hb : Hid (dotLt a b = false) := by show _ = _; rw [hx.out]; exact decide_eq_false (fun h => by omega)
      have h3 : (a.node == b.node) = false := beq_eq_false_iff_ne.2 h2
      go_enter Tryz.func133, Tryz.ntmps133
      go_wp2
      go_ret
      exact ⟨retB hb.out.symm, ((Grew.refl _).alloc _).alloc _⟩

/-- the latest first -/
def cmpLater (x y : PEv) : Int := if evLater x.2 y.2 = true then -1 else if evLater y.2 x.2 = true then 1 else 0
theorem ltOf_later (x y : PEv) : ltOf cmpLater x y = evLater x.2 y.2 := by
  unfold ltOf cmpLater
  cases h : evLater x.2 y.2 <;> cases h2 : evLater y.2 x.2 <;> simp
theorem evLater_iff (a b : Ev) : evLater a b = true ↔ (b.time < a.time ∨ (a.time = b.time ∧ (b.dot.node < a.dot.node ∨ (b.dot.node = a.dot.node ∧ b.dot.seq < a.dot.seq)))) := by
  unfold evLater
  split
  · rw [dotLt_iff]; omega
  · rw [decide_eq_true_iff]; omega
theorem evLater_false (a b : Ev) : evLater a b = false ↔ ¬ (b.time < a.time ∨ (a.time = b.time ∧ (b.dot.node < a.dot.node ∨ (b.dot.node = a.dot.node ∧ b.dot.seq < a.dot.seq)))) := by
  rw [← evLater_iff]; simp
theorem swo_later : SWO (ltOf cmpLater) where
  irrefl x := by rw [ltOf_later, evLater_false]; omega
  trans x y z h1 h2 := by rw [ltOf_later, evLater_iff] at *; omega
  ntrans x y z h1 h2 := by rw [ltOf_later, evLater_false] at *; omega


/-- the newest first -/
def cmpNewer (x y : PEv) : Int := if y.2.dot.seq < x.2.dot.seq then -1 else if x.2.dot.seq < y.2.dot.seq then 1 else 0
theorem ltOf_newer (x y : PEv) : ltOf cmpNewer x y = decide (y.2.dot.seq < x.2.dot.seq) := by
  unfold ltOf cmpNewer
  split
  · simp [*]
  · split <;> simp [*]
theorem swo_newer : SWO (ltOf cmpNewer) where
  irrefl x := by rw [ltOf_newer]; simp
  trans x y z h1 h2 := by rw [ltOf_newer] at *; simp at *; omega
  ntrans x y z h1 h2 := by rw [ltOf_newer] at *; simp at *; omega
end Go.Proofs.YtejihgfigclppaaGreat
namespace Go.Proofs.YtejihgfigclppaaGreat
open Go.RowKit Go.Sort
set_option linter.unusedVariables false

theorem infoEv : (Tryz.prog.info? 112).map (fun i => (i.zero, i.size, i.bytes)) = some (some (.agg #[.int .i64 0, .int .i64 0, .int .i64 0, .int .i64 0, .int .i64 0, .int .i64 0, .int .i64 0, .int .i64 0, .int .i64 0, .int .i64 0, .int .i64 0, .int .i64 0, .int .i64 0, .slice none 0 0]), 14, 128) := by kernel_rfl

theorem slAt_some {w : World} {oa : Option Addr} {n cap : Nat} {l : List PEv} (h : SlAt pcells w (.slice oa n cap) l) (i : Nat) (hi : i < l.length) : ∃ b off, oa = some ⟨b, off, none⟩ :=
  h.plain pcells_len (by decide) (by intro e; rw [e] at hi; exact absurd hi (by simp))
structure Acc (B e ed : Nat) (w : World) (v : Value) (qs : List PEv) : Prop where
  row : Owns pcells 14 B e w v qs
  rem : ∀ q ∈ qs, Owns Dot.cells 2 B ed w q.1.val q.2.rem ∧ (q.1.val.ownBlock = none ∨ q.1.val.ownBlock ≠ v.ownBlock)

theorem Acc.nil (B e ed : Nat) (w : World) : Acc B e ed w (.slice none 0 0) [] := ⟨Owns.nil _ _ _ _ _, fun q hq => by cases hq⟩

theorem Acc.below {B e ed : Nat} {w w' : World} {v : Value} {qs : List PEv} {C : Nat} (h : Acc B e ed w v qs) (hb : Below C w w') (hC : w.heap.size ≤ C) : Acc B e ed w' v qs :=
  ⟨h.row.below hb hC, fun q hq => ⟨(h.rem q hq).1.below hb hC, (h.rem q hq).2⟩⟩

theorem Acc.lower {B B' e ed : Nat} {w : World} {v : Value} {qs : List PEv} (h : Acc B e ed w v qs) (hb : B' ≤ B) : Acc B' e ed w v qs := ⟨h.row.lower hb, fun q hq => ⟨(h.rem q hq).1.lower hb, (h.rem q hq).2⟩⟩

/-- one more, behind an append -/
theorem Acc.push {B e ed : Nat} {W w' : World} {v v' : Value} {qs ms : List PEv} (h : Acc B e ed W v qs)
    (hr : ∀ q ∈ ms, Owns Dot.cells 2 B ed W q.1.val q.2.rem ∧ (q.1.val.ownBlock = none ∨ q.1.val.ownBlock ≠ v.ownBlock))
    (ho : Owns pcells 14 B e w' v' (qs ++ ms)) (hg : W.grownBy w' v.ownBlock) (hv : v'.ownBlock = v.ownBlock ∨ ∀ g, v'.ownBlock = some g → W.heap.size ≤ g) : Acc B e ed w' v' (qs ++ ms) := by
  refine ⟨ho, fun q hq => ?_⟩
  have hq' : Owns Dot.cells 2 B ed W q.1.val q.2.rem ∧ (q.1.val.ownBlock = none ∨ q.1.val.ownBlock ≠ v.ownBlock) := by
    rcases List.mem_append.1 hq with hq | hq
    · exact h.rem q hq
    · exact hr q hq
  refine ⟨hq'.1.kept hg hq'.2, ?_⟩
  rcases hv with hv | hv
  · rw [hv]; exact hq'.2
  · cases hb : q.1.val.ownBlock with
    | none => exact .inl rfl
    | some g =>
      refine .inr fun e2 => ?_
      have h1 := (hq'.1.lt g hb).2
      have h2 := hv g e2.symm
      omega

/-- the row is rewritten with the same events in another order -/
theorem Acc.perm {B e ed : Nat} {W w' : World} {v : Value} {qs qs' : List PEv} (h : Acc B e ed W v qs) (ho : Owns pcells 14 B e w' v qs') (hg : W.grownBy w' v.ownBlock) (hm : ∀ q ∈ qs', q ∈ qs) : Acc B e ed w' v qs' :=
  ⟨ho, fun q hq => ⟨(h.rem q (hm q hq)).1.kept hg (h.rem q (hm q hq)).2, (h.rem q (hm q hq)).2⟩⟩

theorem Acc.evs {B e ed : Nat} {w : World} {v : Value} {qs : List PEv} (h : Acc B e ed w v qs) : EvsAt w v qs := ⟨h.row.at, fun q hq => (h.rem q hq).1.at⟩

theorem stab_mem {α : Type} {lt : α → α → Bool} (hO : SWO lt) {l l' : List α} (h : StabL lt l l') : ∀ x ∈ l', x ∈ l := fun x hx => by
  have : x ∈ l'.filter (eqv lt x) := List.mem_filter.2 ⟨hx, eqv_refl hO x⟩
  rw [h x] at this
  exact (List.mem_filter.1 this).1

/-- told of the events alone -/
theorem stable_map {lt : PEv → PEv → Bool} {lt2 : Ev → Ev → Bool} (hlt : ∀ x y, lt x y = lt2 x.2 y.2) {l l' : List PEv} (h : stableOf lt l l') : stableOf lt2 (l.map (·.2)) (l'.map (·.2)) := by
  refine ⟨?_, fun y => ?_⟩
  · have := h.1
    unfold SortedL at *
    rw [List.pairwise_map]
    exact this.imp fun {a b} hab => by rw [← hlt]; exact hab
  · have e : ∀ (x : PEv), (fun a : PEv => eqv lt2 x.2 a.2) = eqv lt x := fun x => by funext a; simp [eqv, hlt]
    have k := h.2 (default, y)
    rw [List.filter_map, List.filter_map]
    have e2 : (eqv lt2 y ∘ fun x : PEv => x.2) = eqv lt (default, y) := by rw [← e (default, y)]; rfl
    rw [e2, k]

/-- the worlds of one round: the event boxed, its dots cloned, the clone stored, the event laid for the append -/
theorem round_below {wr w1 : World} {o lit : Obj} {p : Addr} {u : Value} (hp : p.block = wr.heap.size) (hb : Below (wr.alloc o).heap.size (wr.alloc o) w1) : Below wr.heap.size wr ((w1.setCell p u).alloc lit) := by
  have h1 : Below wr.heap.size wr w1 := ((Below.refl _ _).alloc (Nat.le_refl _) o).trans (hb.mono (by simp))
  have h2 := h1.size
  exact (h1.setCell (by omega) u).alloc (by simp [World.setCell]; omega) lit

theorem acc_round {B e ed : Nat} {wr w1 w' : World} {o lit : Obj} {v v' : Value} {qs : List PEv} {hd : Hdr} {ev : Ev} {p : Addr} {u : Value} (hp : p.block = wr.heap.size) (hB : B ≤ wr.heap.size)
    (h : Acc B e ed wr v qs) (hb : Below (wr.alloc o).heap.size (wr.alloc o) w1) (hc : Owns Dot.cells 2 (wr.alloc o).heap.size ed w1 hd.val ev.rem)
    (ho : Owns pcells 14 B e w' v' (qs ++ [(hd, ev)])) (hg : ((w1.setCell p u).alloc lit).grownBy w' v.ownBlock) (hv : v'.ownBlock = v.ownBlock ∨ ∀ g, v'.ownBlock = some g → w1.heap.size + 1 ≤ g) :
    Acc B e ed w' v' (qs ++ [(hd, ev)]) ∧ Below B wr w' := by
  have h3 := round_below (lit := lit) (u := u) hp hb
  have hs : (wr.alloc o).heap.size = wr.heap.size + 1 := by simp
  refine ⟨(h.below h3 (Nat.le_refl _)).push (fun q hq => ?_) ho hg (by simpa [World.setCell] using hv), (h3.mono hB).grown hg (Nat.le_trans hB h3.size) fun k hk => (h.row.lt k hk).1⟩
  obtain rfl : q = (hd, ev) := by simpa using hq
  refine ⟨(hc.lower (by omega)).keep fun g hg2 => ?_, ?_⟩
  · have hl := hc.lt g hg2
    rw [Below.heap_alloc _ _ _ (by simp [World.setCell]; exact hl.2), Below.heap_setCell _ _ _ _ (by omega)]
  · cases hx : hd.val.ownBlock with
    | none => exact .inl rfl
    | some g =>
      refine .inr fun e2 => ?_
      have h1 := (hc.lt g hx).1
      have h2 := (h.row.lt g e2.symm).2
      omega
end Go.Proofs.YtejihgfigclppaaGreat
namespace Go.Proofs.YtejihgfigclppaaGreat
open Go.RowKit Go.Lib
set_option linter.unusedVariables false
theorem alloc2 (w : World) (o0 o1 : Obj) : ((w.alloc o0).alloc o1).heap[w.heap.size]? = some o0 ∧ ((w.alloc o0).alloc o1).heap[w.heap.size + 1]? = some o1 ∧ Below w.heap.size w ((w.alloc o0).alloc o1) ∧ ((w.alloc o0).alloc o1).heap.size = w.heap.size + 2 := by
  have s1 : (w.alloc o0).heap.size = w.heap.size + 1 := World.size_alloc _ _
  refine ⟨?_, ?_, ((Below.refl _ _).alloc (Nat.le_refl _) _).alloc (by omega) _, by rw [World.size_alloc, s1]⟩
  · rw [Below.heap_alloc _ _ _ (by omega), heap_alloc_new]
  · rw [← s1, heap_alloc_new]
theorem owns_made {e : Nat} (W : World) (n : Nat) (hn : W.heap.size = n) : Owns Dot.cells 2 n e (W.alloc (.cells #[] e)) (.slice (some ⟨n, 0, none⟩) 0 0) [] := by
  subst hn
  exact World.ownsRow_made W #[] 0 (Nat.le_refl _) (by decide) rfl
/-- the cells of dot i -/
theorem SlAt.dot {w : World} {b off n cap : Nat} {ds : List Dot} (h : SlAt Dot.cells w (.slice (some ⟨b, off, none⟩) n cap) ds) (i : Nat) (hi : i < ds.length) : ∃ d, ds[i]? = some d ∧ w.cell? ⟨b, off + i * 2, none⟩ = some (.int .i64 d.node) ∧ w.cell? ⟨b, off + i * 2 + 1, none⟩ = some (.int .i64 d.seq) := by
  have e : ∀ c, off + (i * 2 + c) = off + i * 2 + c := fun c => by omega
  have g : ∀ c, c < 2 → w.cell? ⟨b, off + i * 2 + c, none⟩ = (Dot.cells ds[i])[c]? := fun c hc => by rw [← e]; exact h.cell Dot.cells_len hi hc
  exact ⟨ds[i], List.getElem?_eq_getElem hi, g 0 (by decide), g 1 (by decide)⟩
end Go.Proofs.YtejihgfigclppaaGreat
