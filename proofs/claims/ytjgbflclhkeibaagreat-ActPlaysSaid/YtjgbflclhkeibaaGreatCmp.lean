/-
  Which of two dots, of two events comes first: event.before, event.Later, policy.later.compare, and window.Of's own order. Each boxes its parameters in new blocks and turns nothing.
-/
import Derived.Test.YtjgbflclhkeibaaGreatMEv
import Derived.Sort.Grow
import Derived.Shelf.SlSortCmp.KitK
namespace Go.Proofs.YtjgbflclhkeibaaGreat
open Go.RowKit Go.Sort
set_option linter.unusedVariables false

/-- draws and new blocks alone -/
def Grew (w w' : World) : Prop := ∃ (q : Nat) (os : Array Obj), w' = grow (w.drewN q) os
theorem Grew.refl (w : World) : Grew w w := ⟨0, #[], by rw [grow_empty]; rfl⟩
theorem Grew.alloc {w w1 : World} (h : Grew w w1) (o : Obj) : Grew w (w1.alloc o) := by
  obtain ⟨q, os, rfl⟩ := h
  exact ⟨q, os ++ #[o], by rw [alloc_eq_grow, grow_grow]⟩
theorem Grew.trans {a b c : World} (h : Grew a b) (k : Grew b c) : Grew a c := by
  obtain ⟨q, os, rfl⟩ := h
  obtain ⟨q', os', rfl⟩ := k
  exact ⟨q + q', os ++ os', by rw [← World.drewN_drewN, ← grow_grow]; rfl⟩
theorem Grew.below {w w' : World} (h : Grew w w') : Below w.heap.size w w' := by
  obtain ⟨q, os, rfl⟩ := h
  exact ⟨rfl, rfl, rfl, by simp [World.drewN], fun k hk => heap_grow_old _ _ (by simpa [World.drewN] using hk)⟩

def dotLt (a b : Dot) : Bool := decide (a.node < b.node ∨ (a.node = b.node ∧ a.seq < b.seq))
def evLater (a b : Ev) : Bool := if a.time = b.time then dotLt b.dot a.dot else decide (b.time < a.time)
theorem dotLt_iff (a b : Dot) : dotLt a b = true ↔ (a.node < b.node ∨ (a.node = b.node ∧ a.seq < b.seq)) := decide_eq_true_iff

theorem before_any (a b : Dot) (w : World) :
    Calls Tryz.prog 120 #[.agg #[.int .i64 a.node, .int .i64 a.seq], .agg #[.int .i64 b.node, .int .i64 b.seq]] w fun e w' => e = .returned (.bool (dotLt a b)) ∧ Grew w w' := by
  have hx : Hid (dotLt a b = decide (a.node < b.node ∨ (a.node = b.node ∧ a.seq < b.seq))) := rfl
  by_cases h1 : a.node < b.node
  · have hb : Hid (dotLt a b = true) := by show _ = _; rw [hx.out]; exact decide_eq_true (.inl h1)
    go_enter Tryz.func120, Tryz.ntmps120
    go_wp2
    go_ret
    exact ⟨retB hb.out.symm, ((Grew.refl _).alloc _).alloc _⟩
  · by_cases h2 : a.node = b.node
    · have hb : Hid (dotLt a b = decide (a.seq < b.seq)) := by show _ = _; rw [hx.out]; exact decide_eq_decide.2 ⟨fun h => by omega, fun h => .inr ⟨h2, h⟩⟩
      have h3 : (a.node == b.node) = true := beq_iff_eq.2 h2
      have H2 := Lib.hid h2
      have h4 : a.node ≤ b.node := by omega
      have h5 : b.node ≤ a.node := by omega
      clear h2
      go_enter Tryz.func120, Tryz.ntmps120
      go_wp2
      all_goals go_ret
      all_goals exact ⟨retB (by rw [hb.out]; try rfl), ((Grew.refl _).alloc _).alloc _⟩
    · have hb : Hid (dotLt a b = false) := by show _ = _; rw [hx.out]; exact decide_eq_false (fun h => by omega)
      have h3 : (a.node == b.node) = false := beq_eq_false_iff_ne.2 h2
      go_enter Tryz.func120, Tryz.ntmps120
      go_wp2
      go_ret
      exact ⟨retB hb.out.symm, ((Grew.refl _).alloc _).alloc _⟩
theorem later_any (x y : PEv) (w : World) :
    Calls Tryz.prog 98 #[.agg (pcells x).toArray, .agg (pcells y).toArray] w fun e w' => e = .returned (.bool (evLater x.2 y.2)) ∧ Grew w w' := by
  obtain ⟨rx, a⟩ := x
  obtain ⟨ry, b⟩ := y
  show Calls Tryz.prog 98 #[.agg #[.int .i64 a.dot.node, .int .i64 a.dot.seq, .int .i64 a.time, .int .i64 a.kind, .int .i64 a.work, .int .i64 a.value, .int .i64 a.pol.mn, .int .i64 a.pol.mx, .int .i64 a.pol.goal, .int .i64 a.pol.slack, .int .i64 a.pol.up, .int .i64 a.pol.down, .int .i64 a.pol.cool, rx.val], .agg #[.int .i64 b.dot.node, .int .i64 b.dot.seq, .int .i64 b.time, .int .i64 b.kind, .int .i64 b.work, .int .i64 b.value, .int .i64 b.pol.mn, .int .i64 b.pol.mx, .int .i64 b.pol.goal, .int .i64 b.pol.slack, .int .i64 b.pol.up, .int .i64 b.pol.down, .int .i64 b.pol.cool, ry.val]] w fun e w' => e = .returned (.bool (evLater a b)) ∧ Grew w w'
  generalize rx.val = vx
  generalize ry.val = vy
  have hbf := before_any b.dot a.dot
  have HB := Lib.hid hbf
  clear hbf
  by_cases h1 : a.time = b.time
  · have hb : Hid (evLater a b = dotLt b.dot a.dot) := by show _ = _; unfold evLater; rw [if_pos h1]
    have h2 : (a.time != b.time) = false := by rw [bne_eq_false_iff_eq]; exact h1
    clear h1
    go_enter Tryz.func98, Tryz.ntmps98
    go_wp2_with fail
    refine (HB.out _).mono ?_
    rintro e w1 ⟨rfl, hg⟩
    have HG := Lib.hid hg
    clear hg
    go_wp2
    go_ret
    exact ⟨retB hb.out.symm, (((Grew.refl _).alloc _).alloc _).trans HG.out⟩
  · have hb : Hid (evLater a b = decide (b.time < a.time)) := by show _ = _; unfold evLater; rw [if_neg h1]
    have h2 : (a.time != b.time) = true := by rw [bne_iff_ne]; exact h1
    clear h1
    go_enter Tryz.func98, Tryz.ntmps98
    go_wp2
    go_ret
    exact ⟨retB hb.out.symm, ((Grew.refl _).alloc _).alloc _⟩

/-- the latest first -/
def cmpLater (x y : PEv) : Int := if evLater x.2 y.2 = true then -1 else if evLater y.2 x.2 = true then 1 else 0
theorem ltOf_later (x y : PEv) : ltOf cmpLater x y = evLater x.2 y.2 := by
  unfold ltOf cmpLater
  cases h : evLater x.2 y.2 <;> cases h2 : evLater y.2 x.2 <;> simp
theorem evLater_iff (a b : Ev) : evLater a b = true ↔ (b.time < a.time ∨ (a.time = b.time ∧ (b.dot.node < a.dot.node ∨ (b.dot.node = a.dot.node ∧ b.dot.seq < a.dot.seq)))) := by
  unfold evLater
  split
  · rw [dotLt_iff]; omega
  · rw [decide_eq_true_iff]; omega
theorem evLater_false (a b : Ev) : evLater a b = false ↔ ¬ (b.time < a.time ∨ (a.time = b.time ∧ (b.dot.node < a.dot.node ∨ (b.dot.node = a.dot.node ∧ b.dot.seq < a.dot.seq)))) := by
  rw [← evLater_iff]; simp
theorem swo_later : SWO (ltOf cmpLater) where
  irrefl x := by rw [ltOf_later, evLater_false]; omega
  trans x y z h1 h2 := by rw [ltOf_later, evLater_iff] at *; omega
  ntrans x y z h1 h2 := by rw [ltOf_later, evLater_false] at *; omega

theorem compare_any (x y : PEv) (w : World) :
    Calls Tryz.prog 81 #[.agg (pcells x).toArray, .agg (pcells y).toArray] w fun e w' => e = .returned (.int .i64 (cmpLater x y)) ∧ Grew w w' := by
  have h1 := later_any x y
  have h2 := later_any y x
  unfold cmpLater
  generalize evLater x.2 y.2 = p at h1
  generalize evLater y.2 x.2 = q at h2
  have H1 := Lib.hid h1
  have H2 := Lib.hid h2
  clear h1 h2
  obtain ⟨rx, a⟩ := x
  obtain ⟨ry, b⟩ := y
  show Calls Tryz.prog 81 #[.agg #[.int .i64 a.dot.node, .int .i64 a.dot.seq, .int .i64 a.time, .int .i64 a.kind, .int .i64 a.work, .int .i64 a.value, .int .i64 a.pol.mn, .int .i64 a.pol.mx, .int .i64 a.pol.goal, .int .i64 a.pol.slack, .int .i64 a.pol.up, .int .i64 a.pol.down, .int .i64 a.pol.cool, rx.val], .agg #[.int .i64 b.dot.node, .int .i64 b.dot.seq, .int .i64 b.time, .int .i64 b.kind, .int .i64 b.work, .int .i64 b.value, .int .i64 b.pol.mn, .int .i64 b.pol.mx, .int .i64 b.pol.goal, .int .i64 b.pol.slack, .int .i64 b.pol.up, .int .i64 b.pol.down, .int .i64 b.pol.cool, ry.val]] w _
  change Hid (∀ w, Calls Tryz.prog 98 #[.agg #[.int .i64 a.dot.node, .int .i64 a.dot.seq, .int .i64 a.time, .int .i64 a.kind, .int .i64 a.work, .int .i64 a.value, .int .i64 a.pol.mn, .int .i64 a.pol.mx, .int .i64 a.pol.goal, .int .i64 a.pol.slack, .int .i64 a.pol.up, .int .i64 a.pol.down, .int .i64 a.pol.cool, rx.val], .agg #[.int .i64 b.dot.node, .int .i64 b.dot.seq, .int .i64 b.time, .int .i64 b.kind, .int .i64 b.work, .int .i64 b.value, .int .i64 b.pol.mn, .int .i64 b.pol.mx, .int .i64 b.pol.goal, .int .i64 b.pol.slack, .int .i64 b.pol.up, .int .i64 b.pol.down, .int .i64 b.pol.cool, ry.val]] w _) at H1
  change Hid (∀ w, Calls Tryz.prog 98 #[.agg #[.int .i64 b.dot.node, .int .i64 b.dot.seq, .int .i64 b.time, .int .i64 b.kind, .int .i64 b.work, .int .i64 b.value, .int .i64 b.pol.mn, .int .i64 b.pol.mx, .int .i64 b.pol.goal, .int .i64 b.pol.slack, .int .i64 b.pol.up, .int .i64 b.pol.down, .int .i64 b.pol.cool, ry.val], .agg #[.int .i64 a.dot.node, .int .i64 a.dot.seq, .int .i64 a.time, .int .i64 a.kind, .int .i64 a.work, .int .i64 a.value, .int .i64 a.pol.mn, .int .i64 a.pol.mx, .int .i64 a.pol.goal, .int .i64 a.pol.slack, .int .i64 a.pol.up, .int .i64 a.pol.down, .int .i64 a.pol.cool, rx.val]] w _) at H2
  generalize rx.val = vx at *
  generalize ry.val = vy at *
  cases p
  · cases q
    all_goals
      go_enter Tryz.func81, Tryz.ntmps81
      go_wp2_with fail
      refine (H1.out _).mono ?_
      rintro e w1 ⟨rfl, hg⟩
      obtain ⟨hc, hf⟩ := bcell hg.below
      have hz : w.heap.size + 1 < w1.heap.size := by have := hg.below.size; simp at this; omega
      have HG := Lib.hid hg
      clear hg
      go_wp2_with fail
      refine (H2.out _).mono ?_
      rintro e w2 ⟨rfl, hg2⟩
      have HG2 := Lib.hid hg2
      clear hg2
      go_wp2
      go_ret
      exact ⟨rfl, ((((Grew.refl _).alloc _).alloc _).trans HG.out).trans HG2.out⟩
  · go_enter Tryz.func81, Tryz.ntmps81
    go_wp2_with fail
    refine (H1.out _).mono ?_
    rintro e w1 ⟨rfl, hg⟩
    have HG := Lib.hid hg
    clear hg
    go_wp2
    go_ret
    exact ⟨rfl, (((Grew.refl _).alloc _).alloc _).trans HG.out⟩

/-- the newest first -/
def cmpNewer (x y : PEv) : Int := if y.2.dot.seq < x.2.dot.seq then -1 else if x.2.dot.seq < y.2.dot.seq then 1 else 0
theorem ltOf_newer (x y : PEv) : ltOf cmpNewer x y = decide (y.2.dot.seq < x.2.dot.seq) := by
  unfold ltOf cmpNewer
  split
  · simp [*]
  · split <;> simp [*]
theorem swo_newer : SWO (ltOf cmpNewer) where
  irrefl x := by rw [ltOf_newer]; simp
  trans x y z h1 h2 := by rw [ltOf_newer] at *; simp at *; omega
  ntrans x y z h1 h2 := by rw [ltOf_newer] at *; simp at *; omega
theorem newer_any (x y : PEv) (w : World) :
    Calls Tryz.prog 100 #[.agg (pcells x).toArray, .agg (pcells y).toArray] w fun e w' => e = .returned (.int .i64 (cmpNewer x y)) ∧ Grew w w' := by
  obtain ⟨rx, a⟩ := x
  obtain ⟨ry, b⟩ := y
  unfold cmpNewer
  show Calls Tryz.prog 100 #[.agg #[.int .i64 a.dot.node, .int .i64 a.dot.seq, .int .i64 a.time, .int .i64 a.kind, .int .i64 a.work, .int .i64 a.value, .int .i64 a.pol.mn, .int .i64 a.pol.mx, .int .i64 a.pol.goal, .int .i64 a.pol.slack, .int .i64 a.pol.up, .int .i64 a.pol.down, .int .i64 a.pol.cool, rx.val], .agg #[.int .i64 b.dot.node, .int .i64 b.dot.seq, .int .i64 b.time, .int .i64 b.kind, .int .i64 b.work, .int .i64 b.value, .int .i64 b.pol.mn, .int .i64 b.pol.mx, .int .i64 b.pol.goal, .int .i64 b.pol.slack, .int .i64 b.pol.up, .int .i64 b.pol.down, .int .i64 b.pol.cool, ry.val]] w fun e w' => e = .returned (.int .i64 (if b.dot.seq < a.dot.seq then -1 else if a.dot.seq < b.dot.seq then 1 else 0)) ∧ Grew w w'
  generalize rx.val = vx
  generalize ry.val = vy
  by_cases h1 : b.dot.seq < a.dot.seq
  · rw [if_pos h1]
    go_enter Tryz.func100, Tryz.ntmps100
    go_wp2
    go_ret
    exact ⟨rfl, ((Grew.refl _).alloc _).alloc _⟩
  · rw [if_neg h1]
    by_cases h2 : a.dot.seq < b.dot.seq
    · rw [if_pos h2]
      go_enter Tryz.func100, Tryz.ntmps100
      go_wp2
      go_ret
      exact ⟨rfl, ((Grew.refl _).alloc _).alloc _⟩
    · rw [if_neg h2]
      go_enter Tryz.func100, Tryz.ntmps100
      go_wp2
      go_ret
      exact ⟨rfl, ((Grew.refl _).alloc _).alloc _⟩
end Go.Proofs.YtjgbflclhkeibaaGreat
