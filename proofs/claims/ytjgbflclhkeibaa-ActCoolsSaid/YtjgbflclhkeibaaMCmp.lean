/-
  Which of two dots, of two events comes first: event.before, event.Later, policy.later.compare, and window.Of's own order. Each boxes its parameters in new blocks and turns nothing.
  policy.Sets: the Sets of a workload among events, the latest first: a stable sorting of what is filtered, in new memory.
  policy.Winner: the policy and the dot of the latest Set of a workload, if there is one.
-/
import Derived.Test.YtjgbflclhkeibaaMEv
import Derived.Test.YtjgbflclhkeibaaSortPure
import Derived.Sort.Grow
import Derived.Shelf.SlSortCmp.KitK
import Derived.Test.YtjgbflclhkeibaaMSortSt
import Derived.BigQuiet
import Derived.StillTailTactics
namespace Go.Proofs.Ytjgbflclhkeibaa
open Go.RowKit Go.Sort
set_option linter.unusedVariables false

/-- draws and new blocks alone -/
def Grew (w w' : World) : Prop := ∃ (q : Nat) (os : Array Obj), w' = grow (w.drewN q) os
theorem Grew.refl (w : World) : Grew w w := ⟨0, #[], by rw [grow_empty]; rfl⟩
theorem Grew.alloc {w w1 : World} (h : Grew w w1) (o : Obj) : Grew w (w1.alloc o) := by
  obtain ⟨q, os, rfl⟩ := h
  exact ⟨q, os ++ #[o], by rw [alloc_eq_grow, grow_grow]⟩
theorem Grew.trans {a b c : World} (h : Grew a b) (k : Grew b c) : Grew a c := by
  obtain ⟨q, os, rfl⟩ := h
  obtain ⟨q', os', rfl⟩ := k
  exact ⟨q + q', os ++ os', by rw [← World.drewN_drewN, ← grow_grow]; rfl⟩
theorem Grew.below {w w' : World} (h : Grew w w') : Below w.heap.size w w' := by
  obtain ⟨q, os, rfl⟩ := h
  exact ⟨rfl, rfl, rfl, by simp [World.drewN], fun k hk => heap_grow_old _ _ (by simpa [World.drewN] using hk)⟩

def dotLt (a b : Dot) : Bool := decide (a.node < b.node ∨ (a.node = b.node ∧ a.seq < b.seq))
def evLater (a b : Ev) : Bool := if a.time = b.time then dotLt b.dot a.dot else decide (b.time < a.time)
theorem dotLt_iff (a b : Dot) : dotLt a b = true ↔ (a.node < b.node ∨ (a.node = b.node ∧ a.seq < b.seq)) := decide_eq_true_iff

theorem before_any (a b : Dot) (w : World) :
    Calls Try.prog 85 #[.agg #[.int .i64 a.node, .int .i64 a.seq], .agg #[.int .i64 b.node, .int .i64 b.seq]] w fun e w' => e = .returned (.bool (dotLt a b)) ∧ Grew w w' := by
  have hx : Hid (dotLt a b = decide (a.node < b.node ∨ (a.node = b.node ∧ a.seq < b.seq))) := rfl
  by_cases h1 : a.node < b.node
  · have hb : Hid (dotLt a b = true) := by show _ = _; rw [hx.out]; exact decide_eq_true (.inl h1)
    go_enter Try.func85, Try.ntmps85
    go_wp2
    go_ret
    exact ⟨retB hb.out.symm, ((Grew.refl _).alloc _).alloc _⟩
  · by_cases h2 : a.node = b.node
    · have hb : Hid (dotLt a b = decide (a.seq < b.seq)) := by show _ = _; rw [hx.out]; exact decide_eq_decide.2 ⟨fun h => by omega, fun h => .inr ⟨h2, h⟩⟩
      have h3 : (a.node == b.node) = true := beq_iff_eq.2 h2
      have H2 := Lib.hid h2
      have h4 : a.node ≤ b.node := by omega
      have h5 : b.node ≤ a.node := by omega
      clear h2
      go_enter Try.func85, Try.ntmps85
      go_wp2
      all_goals go_ret
      all_goals exact ⟨retB (by rw [hb.out]; try rfl), ((Grew.refl _).alloc _).alloc _⟩
    · have hb : Hid (dotLt a b = false) := by show _ = _; rw [hx.out]; exact decide_eq_false (fun h => by omega)
      have h3 : (a.node == b.node) = false := beq_eq_false_iff_ne.2 h2
      go_enter Try.func85, Try.ntmps85
      go_wp2
      go_ret
      exact ⟨retB hb.out.symm, ((Grew.refl _).alloc _).alloc _⟩
theorem later_any (x y : PEv) (w : World) :
    Calls Try.prog 64 #[.agg (pcells x).toArray, .agg (pcells y).toArray] w fun e w' => e = .returned (.bool (evLater x.2 y.2)) ∧ Grew w w' := by
  obtain ⟨rx, a⟩ := x
  obtain ⟨ry, b⟩ := y
  show Calls Try.prog 64 #[.agg #[.int .i64 a.dot.node, .int .i64 a.dot.seq, .int .i64 a.time, .int .i64 a.kind, .int .i64 a.work, .int .i64 a.value, .int .i64 a.pol.mn, .int .i64 a.pol.mx, .int .i64 a.pol.goal, .int .i64 a.pol.slack, .int .i64 a.pol.up, .int .i64 a.pol.down, .int .i64 a.pol.cool, rx.val], .agg #[.int .i64 b.dot.node, .int .i64 b.dot.seq, .int .i64 b.time, .int .i64 b.kind, .int .i64 b.work, .int .i64 b.value, .int .i64 b.pol.mn, .int .i64 b.pol.mx, .int .i64 b.pol.goal, .int .i64 b.pol.slack, .int .i64 b.pol.up, .int .i64 b.pol.down, .int .i64 b.pol.cool, ry.val]] w fun e w' => e = .returned (.bool (evLater a b)) ∧ Grew w w'
  generalize rx.val = vx
  generalize ry.val = vy
  have hbf := before_any b.dot a.dot
  have HB := Lib.hid hbf
  clear hbf
  by_cases h1 : a.time = b.time
  · have hb : Hid (evLater a b = dotLt b.dot a.dot) := by show _ = _; unfold evLater; rw [if_pos h1]
    have h2 : (a.time != b.time) = false := by rw [bne_eq_false_iff_eq]; exact h1
    clear h1
    go_enter Try.func64, Try.ntmps64
    go_wp2_with fail
    refine (HB.out _).mono ?_
    rintro e w1 ⟨rfl, hg⟩
    have HG := Lib.hid hg
    clear hg
    go_wp2
    go_ret
    exact ⟨retB hb.out.symm, (((Grew.refl _).alloc _).alloc _).trans HG.out⟩
  · have hb : Hid (evLater a b = decide (b.time < a.time)) := by show _ = _; unfold evLater; rw [if_neg h1]
    have h2 : (a.time != b.time) = true := by rw [bne_iff_ne]; exact h1
    clear h1
    go_enter Try.func64, Try.ntmps64
    go_wp2
    go_ret
    exact ⟨retB hb.out.symm, ((Grew.refl _).alloc _).alloc _⟩

/-- the latest first -/
def cmpLater (x y : PEv) : Int := if evLater x.2 y.2 = true then -1 else if evLater y.2 x.2 = true then 1 else 0
theorem ltOf_later (x y : PEv) : ltOf cmpLater x y = evLater x.2 y.2 := by
  unfold ltOf cmpLater
  cases h : evLater x.2 y.2 <;> cases h2 : evLater y.2 x.2 <;> simp
theorem evLater_iff (a b : Ev) : evLater a b = true ↔ (b.time < a.time ∨ (a.time = b.time ∧ (b.dot.node < a.dot.node ∨ (b.dot.node = a.dot.node ∧ b.dot.seq < a.dot.seq)))) := by
  unfold evLater
  split
  · rw [dotLt_iff]; omega
  · rw [decide_eq_true_iff]; omega
theorem evLater_false (a b : Ev) : evLater a b = false ↔ ¬ (b.time < a.time ∨ (a.time = b.time ∧ (b.dot.node < a.dot.node ∨ (b.dot.node = a.dot.node ∧ b.dot.seq < a.dot.seq)))) := by
  rw [← evLater_iff]; simp
theorem swo_later : SWO (ltOf cmpLater) where
  irrefl x := by rw [ltOf_later, evLater_false]; omega
  trans x y z h1 h2 := by rw [ltOf_later, evLater_iff] at *; omega
  ntrans x y z h1 h2 := by rw [ltOf_later, evLater_false] at *; omega

theorem compare_any (x y : PEv) (w : World) :
    Calls Try.prog 47 #[.agg (pcells x).toArray, .agg (pcells y).toArray] w fun e w' => e = .returned (.int .i64 (cmpLater x y)) ∧ Grew w w' := by
  have h1 := later_any x y
  have h2 := later_any y x
  unfold cmpLater
  generalize evLater x.2 y.2 = p at h1
  generalize evLater y.2 x.2 = q at h2
  have H1 := Lib.hid h1
  have H2 := Lib.hid h2
  clear h1 h2
  obtain ⟨rx, a⟩ := x
  obtain ⟨ry, b⟩ := y
  show Calls Try.prog 47 #[.agg #[.int .i64 a.dot.node, .int .i64 a.dot.seq, .int .i64 a.time, .int .i64 a.kind, .int .i64 a.work, .int .i64 a.value, .int .i64 a.pol.mn, .int .i64 a.pol.mx, .int .i64 a.pol.goal, .int .i64 a.pol.slack, .int .i64 a.pol.up, .int .i64 a.pol.down, .int .i64 a.pol.cool, rx.val], .agg #[.int .i64 b.dot.node, .int .i64 b.dot.seq, .int .i64 b.time, .int .i64 b.kind, .int .i64 b.work, .int .i64 b.value, .int .i64 b.pol.mn, .int .i64 b.pol.mx, .int .i64 b.pol.goal, .int .i64 b.pol.slack, .int .i64 b.pol.up, .int .i64 b.pol.down, .int .i64 b.pol.cool, ry.val]] w _
  change Hid (∀ w, Calls Try.prog 64 #[.agg #[.int .i64 a.dot.node, .int .i64 a.dot.seq, .int .i64 a.time, .int .i64 a.kind, .int .i64 a.work, .int .i64 a.value, .int .i64 a.pol.mn, .int .i64 a.pol.mx, .int .i64 a.pol.goal, .int .i64 a.pol.slack, .int .i64 a.pol.up, .int .i64 a.pol.down, .int .i64 a.pol.cool, rx.val], .agg #[.int .i64 b.dot.node, .int .i64 b.dot.seq, .int .i64 b.time, .int .i64 b.kind, .int .i64 b.work, .int .i64 b.value, .int .i64 b.pol.mn, .int .i64 b.pol.mx, .int .i64 b.pol.goal, .int .i64 b.pol.slack, .int .i64 b.pol.up, .int .i64 b.pol.down, .int .i64 b.pol.cool, ry.val]] w _) at H1
  change Hid (∀ w, Calls Try.prog 64 #[.agg #[.int .i64 b.dot.node, .int .i64 b.dot.seq, .int .i64 b.time, .int .i64 b.kind, .int .i64 b.work, .int .i64 b.value, .int .i64 b.pol.mn, .int .i64 b.pol.mx, .int .i64 b.pol.goal, .int .i64 b.pol.slack, .int .i64 b.pol.up, .int .i64 b.pol.down, .int .i64 b.pol.cool, ry.val], .agg #[.int .i64 a.dot.node, .int .i64 a.dot.seq, .int .i64 a.time, .int .i64 a.kind, .int .i64 a.work, .int .i64 a.value, .int .i64 a.pol.mn, .int .i64 a.pol.mx, .int .i64 a.pol.goal, .int .i64 a.pol.slack, .int .i64 a.pol.up, .int .i64 a.pol.down, .int .i64 a.pol.cool, rx.val]] w _) at H2
  generalize rx.val = vx at *
  generalize ry.val = vy at *
  cases p
  · cases q
    all_goals
      go_enter Try.func47, Try.ntmps47
      go_wp2_with fail
      refine (H1.out _).mono ?_
      rintro e w1 ⟨rfl, hg⟩
      obtain ⟨hc, hf⟩ := bcell hg.below
      have hz : w.heap.size + 1 < w1.heap.size := by have := hg.below.size; simp at this; omega
      have HG := Lib.hid hg
      clear hg
      go_wp2_with fail
      refine (H2.out _).mono ?_
      rintro e w2 ⟨rfl, hg2⟩
      have HG2 := Lib.hid hg2
      clear hg2
      go_wp2
      go_ret
      exact ⟨rfl, ((((Grew.refl _).alloc _).alloc _).trans HG.out).trans HG2.out⟩
  · go_enter Try.func47, Try.ntmps47
    go_wp2_with fail
    refine (H1.out _).mono ?_
    rintro e w1 ⟨rfl, hg⟩
    have HG := Lib.hid hg
    clear hg
    go_wp2
    go_ret
    exact ⟨rfl, (((Grew.refl _).alloc _).alloc _).trans HG.out⟩

/-- the newest first -/
def cmpNewer (x y : PEv) : Int := if y.2.dot.seq < x.2.dot.seq then -1 else if x.2.dot.seq < y.2.dot.seq then 1 else 0
theorem ltOf_newer (x y : PEv) : ltOf cmpNewer x y = decide (y.2.dot.seq < x.2.dot.seq) := by
  unfold ltOf cmpNewer
  split
  · simp [*]
  · split <;> simp [*]
theorem swo_newer : SWO (ltOf cmpNewer) where
  irrefl x := by rw [ltOf_newer]; simp
  trans x y z h1 h2 := by rw [ltOf_newer] at *; simp at *; omega
  ntrans x y z h1 h2 := by rw [ltOf_newer] at *; simp at *; omega
theorem newer_any (x y : PEv) (w : World) :
    Calls Try.prog 87 #[.agg (pcells x).toArray, .agg (pcells y).toArray] w fun e w' => e = .returned (.int .i64 (cmpNewer x y)) ∧ Grew w w' := by
  obtain ⟨rx, a⟩ := x
  obtain ⟨ry, b⟩ := y
  unfold cmpNewer
  show Calls Try.prog 87 #[.agg #[.int .i64 a.dot.node, .int .i64 a.dot.seq, .int .i64 a.time, .int .i64 a.kind, .int .i64 a.work, .int .i64 a.value, .int .i64 a.pol.mn, .int .i64 a.pol.mx, .int .i64 a.pol.goal, .int .i64 a.pol.slack, .int .i64 a.pol.up, .int .i64 a.pol.down, .int .i64 a.pol.cool, rx.val], .agg #[.int .i64 b.dot.node, .int .i64 b.dot.seq, .int .i64 b.time, .int .i64 b.kind, .int .i64 b.work, .int .i64 b.value, .int .i64 b.pol.mn, .int .i64 b.pol.mx, .int .i64 b.pol.goal, .int .i64 b.pol.slack, .int .i64 b.pol.up, .int .i64 b.pol.down, .int .i64 b.pol.cool, ry.val]] w fun e w' => e = .returned (.int .i64 (if b.dot.seq < a.dot.seq then -1 else if a.dot.seq < b.dot.seq then 1 else 0)) ∧ Grew w w'
  generalize rx.val = vx
  generalize ry.val = vy
  by_cases h1 : b.dot.seq < a.dot.seq
  · rw [if_pos h1]
    go_enter Try.func87, Try.ntmps87
    go_wp2
    go_ret
    exact ⟨rfl, ((Grew.refl _).alloc _).alloc _⟩
  · rw [if_neg h1]
    by_cases h2 : a.dot.seq < b.dot.seq
    · rw [if_pos h2]
      go_enter Try.func87, Try.ntmps87
      go_wp2
      go_ret
      exact ⟨rfl, ((Grew.refl _).alloc _).alloc _⟩
    · rw [if_neg h2]
      go_enter Try.func87, Try.ntmps87
      go_wp2
      go_ret
      exact ⟨rfl, ((Grew.refl _).alloc _).alloc _⟩
end Go.Proofs.Ytjgbflclhkeibaa
namespace Go.Proofs.Ytjgbflclhkeibaa
open Go.Shelf Go.RowKit Go.Lib Go.Sort
set_option linter.unusedVariables false

theorem infoEv : (Try.prog.info? 36).map (fun i => (i.zero, i.size, i.bytes)) = some (some (.agg #[.int .i64 0, .int .i64 0, .int .i64 0, .int .i64 0, .int .i64 0, .int .i64 0, .int .i64 0, .int .i64 0, .int .i64 0, .int .i64 0, .int .i64 0, .int .i64 0, .int .i64 0, .slice none 0 0]), 14, 128) := by kernel_rfl

theorem slAt_some {w : World} {oa : Option Addr} {n cap : Nat} {l : List PEv} (h : SlAt pcells w (.slice oa n cap) l) (i : Nat) (hi : i < l.length) : ∃ b off, oa = some ⟨b, off, none⟩ :=
  h.plain pcells_len (by decide) (by intro e; rw [e] at hi; exact absurd hi (by simp))
def isSet (work : Int) (e : Ev) : Bool := e.kind == 2 && e.work == work
theorem infoLa : (Try.prog.info? 103).map (fun i => (i.zero, i.size, i.bytes)) = some (some (.agg #[.int .i64 0, .int .i64 0, .int .i64 0, .int .i64 0, .int .i64 0, .int .i64 0, .int .i64 0, .int .i64 0, .int .i64 0, .int .i64 0, .int .i64 0, .int .i64 0, .int .i64 0, .slice none 0 0]), 14, 128) := by kernel_rfl

/-- what Sets leaves -/
def SetsPost (ps : List PEv) (work : Int) (w : World) (e : Ending) (w' : World) : Prop :=
  ∃ v qs, e = .returned v ∧ stableOf evLater ((ps.map (·.2)).filter (isSet work)) (qs.map (·.2)) ∧ Acc w.heap.size 36 33 w' v qs ∧ Below w.heap.size w w'

/-- the filtering so far -/
theorem take_filter (f : Ev → Bool) (ps : List PEv) (i : Nat) (p : PEv) (hp : ps[i]? = some p) : ((ps.take (i + 1)).map (·.2)).filter f = ((ps.take i).map (·.2)).filter f ++ (if f p.2 then [p.2] else []) := by
  rw [List.take_succ_eq_append_getElem (List.getElem?_eq_some_iff.1 hp).1, (List.getElem?_eq_some_iff.1 hp).2, List.map_append, List.filter_append]
  simp [List.filter_cons]

set_option maxHeartbeats 8000000 in
theorem sets_any (oa : Option Addr) (cap : Nat) (ps : List PEv) (work : Int) (w : World) (h : EvsAt w (.slice oa ps.length cap) ps) (hl : ps.length ≤ 1000000) (hr : ∀ p ∈ ps, p.2.rem.length ≤ 1000000) :
    Calls Try.prog 28 #[.slice oa ps.length cap, .int .i64 work] w (SetsPost ps work w) := by
  have HE := Lib.hid h
  have HR := Lib.hid hr
  clear h hr
  go_enter Try.func28, Try.ntmps28
  go_wp2_with fail
  go_loopg [5, 13] ps.length (fun gk s5 s13 wr => ∃ (i : Nat) (oq : Option Addr) (cq : Nat) (qs : List PEv), s13 = .int .i64 i ∧ s5 = .slice oq qs.length cq ∧ i ≤ ps.length ∧ ps.length - i ≤ gk ∧ qs.length ≤ i ∧ Hid (Acc w.heap.size 103 33 wr (.slice oq qs.length cq) qs) ∧ Hid (qs.map (·.2) = ((ps.take i).map (·.2)).filter (isSet work)) ∧ Hid (Below w.heap.size w wr))
  case atStart => exact ⟨0, none, 0, [], rfl, rfl, Nat.zero_le _, Nat.le_refl _, Nat.le_refl _, Acc.nil _ _ _ _, by show _ = _; simp, Below.refl _ _⟩
  case round =>
    obtain ⟨i, oq, cq, qs, rfl, rfl, hi, hg, hqi, HO, HQ, HB⟩ := hrel
    by_cases hlt : i < ps.length
    · have hltz : (i : Int) < (ps.length : Int) := by omega
      have hsl : SlAt pcells wr (.slice oa ps.length cap) ps := HE.out.1.below pcells_len (by decide) HB.out (Nat.le_refl _)
      obtain ⟨b, off, rfl⟩ := slAt_some hsl i hlt
      obtain ⟨ra, rn, rc, ev, hp, c0, c1, c2, c3, c4, c5, c6, c7, c8, c9, c10, c11, c12, c13⟩ := hsl.ev i hlt
      have hmem : (⟨⟨ra, rn, rc⟩, ev⟩ : PEv) ∈ ps := List.mem_of_getElem? hp
      have hrem : SlAt Dot.cells wr (.slice ra rn rc) ev.rem := (HE.out.2 _ hmem).below Dot.cells_len (by decide) HB.out (Nat.le_refl _)
      have hrl : ev.rem.length ≤ 1000000 := HR.out _ hmem
      have htf := take_filter (isSet work) ps i _ hp
      have HREM := Lib.hid hrem
      have HTF := Lib.hid htf
      clear hsl hp hmem hrem htf
      by_cases hk : (ev.kind == 2) = true
      · by_cases hw : (ev.work == work) = true
        · have his : Hid (isSet work ev = true) := by show _ = _; unfold isSet; rw [hk, hw]; rfl
          go_wp2_with fail
          refine (cloneDot_any _ ev.rem _ (HREM.out.below Dot.cells_len (by decide) ((Below.refl _ _).alloc (Nat.le_refl _) _) (Nat.le_refl _)) hrl).mono ?_
          rintro e w1 ⟨⟨ha, hn, hc⟩, rfl, hown, hb⟩
          obtain ⟨hcell, hfr⟩ := bcell hb
          have hz : wr.heap.size < w1.heap.size := by have := hb.size; simp at this; omega
          have HOWN := Lib.hid hown
          have HB1 := Lib.hid hb
          clear hown hb
          simp only [Hdr.val]
          go_wp2_with (at_builtin; go_loud (refine wpList_app pcells 14 pcells_len (by decide) pcells_one _ rfl _ _ 101 rfl w.heap.size 103 _ 128 Try.underlying101 infoLa rfl _ qs rfl ?h1 _ [(⟨ha, hn, hc⟩, ev)] rfl ?h2 ?h3 ?h4 ?h5 ?_))
          case h1 => exact HO.out.row.below (round_below rfl HB1.out) (Nat.le_refl _)
          case h2 =>
            have hn := slAt_new (enc := pcells) (w1.setCell ⟨wr.heap.size, 13, none⟩ (.slice ha hn hc)) (pcells (⟨ha, hn, hc⟩, ev)).toArray 103 1 1 (0, 0) [(⟨ha, hn, hc⟩, ev)] rfl rfl (by decide)
            rw [World.size_setCell] at hn
            exact hn
          case h3 => simp only [List.length_cons, List.length_nil]; omega
          case h4 => simp only [List.length_cons, List.length_nil]; omega
          case h5 => exact Nat.le_trans HB.out.size (round_below rfl HB1.out).size
          intro v' w' hown2 hg2 hv2
          obtain ⟨hacc, hbb⟩ := acc_round rfl HB.out.size HO.out HB1.out HOWN.out hown2 hg2 hv2
          obtain ⟨oq', cq', hv'⟩ := slAt_slice hown2.at
          rw [hv'] at hacc ⊢
          have HACC := Lib.hid hacc
          have HBB := Lib.hid hbb
          clear hacc hbb hown2 hg2 hv2 hcell hfr
          go_wp2_with fail
          go_roundg (ps.length - (i + 1))
          case measure => omega
          case rel => exact ⟨i + 1, oq', cq', qs ++ [((⟨ha, hn, hc⟩ : Hdr), ev)], by go_num, rfl, by omega, Nat.le_refl _, by simp only [List.length_append, List.length_cons, List.length_nil]; omega, HACC, by show _ = _; rw [HTF.out, his.out, List.map_append, HQ.out]; rfl, HB.out.trans HBB.out⟩
        · have hw' : (ev.work == work) = false := by simpa using hw
          have his : Hid (isSet work ev = false) := by show _ = _; unfold isSet; rw [hw', Bool.and_false]
          clear hw
          go_wp2_with fail
          go_roundg (ps.length - (i + 1))
          case measure => omega
          case rel => exact ⟨i + 1, oq, cq, qs, by go_num, rfl, by omega, Nat.le_refl _, by omega, HO.out.below ((Below.refl _ _).alloc (Nat.le_refl _) _) (Nat.le_refl _), by show _ = _; rw [HTF.out, his.out, HQ.out]; simp, HB.out.trans ((Below.refl _ _).alloc HB.out.size _)⟩
      · have hk' : (ev.kind == 2) = false := by simpa using hk
        have his : Hid (isSet work ev = false) := by show _ = _; unfold isSet; rw [hk', Bool.false_and]
        clear hk
        go_wp2_with fail
        go_roundg (ps.length - (i + 1))
        case measure => omega
        case rel => exact ⟨i + 1, oq, cq, qs, by go_num, rfl, by omega, Nat.le_refl _, by omega, HO.out.below ((Below.refl _ _).alloc (Nat.le_refl _) _) (Nat.le_refl _), by show _ = _; rw [HTF.out, his.out, HQ.out]; simp, HB.out.trans ((Below.refl _ _).alloc HB.out.size _)⟩
    · have hltz : ¬ (i : Int) < (ps.length : Int) := by omega
      obtain rfl : i = ps.length := by omega
      have hq2 : Hid (qs.map (·.2) = (ps.map (·.2)).filter (isSet work)) := by show _ = _; rw [HQ.out, List.take_length]
      have eg : ∀ args w, (callFunc 47 args).run Try.prog w = .ok (.enter 47 args) w := enters_of Try.func47 (by kernel_rfl) rfl
      have hsort := sortStableLa pcells pcells_len pcells_one cmpLater swo_later 47 #[] w.heap.size 103 _ qs wr eg (fun W x y => compare_any x y W) HO.out.row (by omega)
      have HS := Lib.hid hsort
      clear hsort eg
      go_wp2_with fail
      refine HS.out.mono ?_
      rintro e w1 ⟨rfl, ls, hso, hll, hown, hg⟩
      have hacc : Acc w.heap.size 103 33 w1 (.slice oq qs.length cq) ls := HO.out.perm hown hg (stab_mem swo_later hso.2)
      have hb1 : Below w.heap.size w w1 := HB.out.grown hg HB.out.size fun k hk => (HO.out.row.lt k hk).1
      have hst : stableOf evLater ((ps.map (·.2)).filter (isSet work)) (ls.map (·.2)) := by rw [← hq2.out]; exact stable_map (fun x y => by rw [ltOf_later]) hso
      have HACC := Lib.hid hacc
      have HB1 := Lib.hid hb1
      have HST := Lib.hid hst
      rw [← hll]
      have hll2 : ls.length ≤ ps.length := by omega
      have hll := Lib.hid hll
      clear hacc hb1 hst hso hown hg HO HB HQ hq2 HS hqi
      go_wp2_with fail
      go_loopg [8, 39] ls.length (fun gk s8 s39 wr => ∃ (j : Nat) (ov : Option Addr) (cv : Nat), s39 = .int .i64 j ∧ s8 = .slice ov j cv ∧ j ≤ ls.length ∧ ls.length - j ≤ gk ∧ Hid (Owns pcells 14 w1.heap.size 36 wr (.slice ov j cv) (ls.take j)) ∧ Hid (Below w1.heap.size w1 wr))
      case atStart => exact ⟨0, none, 0, rfl, rfl, Nat.zero_le _, Nat.le_refl _, Owns.nil _ _ _ _ _, Below.refl _ _⟩
      case round =>
        obtain ⟨j, ov, cv, rfl, rfl, hj, hg2, HO, HB⟩ := hrel
        by_cases hlt : j < ls.length
        · have hltz : (j : Int) < (ls.length : Int) := by omega
          have hsl : SlAt pcells wr (.slice oq ls.length cq) ls := by
            have h := HACC.out.evs.1
            rw [← hll.out] at h
            exact h.below pcells_len (by decide) HB.out (Nat.le_refl _)
          obtain ⟨b, off, rfl⟩ := slAt_some hsl j hlt
          obtain ⟨ra, rn, rc, ev, hp, c0, c1, c2, c3, c4, c5, c6, c7, c8, c9, c10, c11, c12, c13⟩ := hsl.ev j hlt
          have htk : ls.take (j + 1) = ls.take j ++ [((⟨ra, rn, rc⟩ : Hdr), ev)] := by
            rw [List.take_succ_eq_append_getElem hlt, (List.getElem?_eq_some_iff.1 hp).2]
          have HTK := Lib.hid htk
          have htl : (ls.take j).length ≤ ls.length := by rw [List.length_take]; omega
          have htl2 : (ls.take (j + 1)).length = j + 1 := by rw [List.length_take]; omega
          have HTL := Lib.hid htl2
          clear hsl hp htk htl2
          go_wp2_with (at_builtin; go_loud (refine wpList_app pcells 14 pcells_len (by decide) pcells_one _ rfl _ _ 28 rfl w1.heap.size 36 _ 128 Try.underlying28 infoEv rfl _ (ls.take j) rfl ?h1 _ [((⟨ra, rn, rc⟩ : Hdr), ev)] rfl ?h2 ?h3 ?h4 ?h5 ?_))
          case h1 => exact HO.out.below (((Below.refl _ _).alloc (Nat.le_refl _) _).alloc (by simp) _) (Nat.le_refl _)
          case h2 =>
            have hn := slAt_new (enc := pcells) (wr.alloc (.cells (pcells (⟨ra, rn, rc⟩, ev)).toArray 103)) (pcells (⟨ra, rn, rc⟩, ev)).toArray 36 1 1 (0, 0) [((⟨ra, rn, rc⟩ : Hdr), ev)] rfl rfl (by decide)
            rw [World.size_alloc] at hn
            exact hn
          case h3 => simp only [List.length_cons, List.length_nil]; omega
          case h4 => simp only [List.length_cons, List.length_nil]; omega
          case h5 => have := HB.out.size; simp; omega
          intro v' w' hown2 hg2 hv2
          have hbb : Below w1.heap.size wr w' := (((Below.refl _ _).alloc HB.out.size _).alloc (by have := HB.out.size; simp; omega) _).grown hg2 (by have := HB.out.size; simp; omega) fun k hk => (HO.out.lt k hk).1
          obtain ⟨oq', cq', hv'⟩ := slAt_slice hown2.at
          rw [← HTK.out] at hv' hown2
          rw [HTL.out] at hv'
          rw [hv'] at hown2 ⊢
          have HOW := Lib.hid hown2
          have HBB := Lib.hid hbb
          clear hbb hown2 hg2 hv2
          go_wp2_with fail
          go_roundg (ls.length - (j + 1))
          case measure => omega
          case rel => exact ⟨j + 1, oq', cq', by go_num, rfl, by omega, Nat.le_refl _, HOW, HB.out.trans HBB.out⟩
        · have hltz : ¬ (j : Int) < (ls.length : Int) := by omega
          obtain rfl : j = ls.length := by omega
          go_wp2_with fail
          go_ret
          have e1 : ls.take ls.length = ls := List.take_length
          have ho := HO.out
          rw [e1] at ho
          refine ⟨.slice ov ls.length cv, ls, by rw [hll.out]; rfl, HST.out, ?_, HB1.out.trans (HB.out.mono HB1.out.size)⟩
          refine ⟨ho.lower HB1.out.size, fun q hq => ?_⟩
          have hq2 := (HACC.out.rem q hq).1
          refine ⟨hq2.below HB.out (Nat.le_refl _), ?_⟩
          cases hx : q.1.val.ownBlock with
          | none => exact .inl rfl
          | some g =>
            refine .inr fun e2 => ?_
            have h1 := (hq2.lt g hx).2
            have h2 := (ho.lt g e2.symm).1
            omega
end Go.Proofs.Ytjgbflclhkeibaa
namespace Go.Proofs.Ytjgbflclhkeibaa
open Go.Shelf Go.RowKit Go.Lib Go.Sort
set_option linter.unusedVariables false

theorem swo_evLater : SWO evLater where
  irrefl x := by rw [evLater_false]; omega
  trans x y z h1 h2 := by rw [evLater_iff] at *; omega
  ntrans x y z h1 h2 := by rw [evLater_false] at *; omega

def winV : List Ev → Value
  | [] => .tuple #[.agg #[.int .i64 0, .int .i64 0, .int .i64 0, .int .i64 0, .int .i64 0, .int .i64 0, .int .i64 0], .agg #[.int .i64 0, .int .i64 0], .bool false]
  | e :: _ => .tuple #[.agg #[.int .i64 e.pol.mn, .int .i64 e.pol.mx, .int .i64 e.pol.goal, .int .i64 e.pol.slack, .int .i64 e.pol.up, .int .i64 e.pol.down, .int .i64 e.pol.cool], .agg #[.int .i64 e.dot.node, .int .i64 e.dot.seq], .bool true]
def WinPost (ps : List PEv) (work : Int) (w : World) (e : Ending) (w' : World) : Prop :=
  ∃ l, stableOf evLater ((ps.map (·.2)).filter (isSet work)) l ∧ e = .returned (winV l) ∧ Below w.heap.size w w'

set_option maxHeartbeats 4000000 in
theorem winner_any (oa : Option Addr) (cap : Nat) (ps : List PEv) (work : Int) (w : World) (h : EvsAt w (.slice oa ps.length cap) ps) (hl : ps.length ≤ 1000000) (hr : ∀ p ∈ ps, p.2.rem.length ≤ 1000000) :
    Calls Try.prog 15 #[.slice oa ps.length cap, .int .i64 work] w (WinPost ps work w) := by
  have hs := fun (W : World) (hE : EvsAt W (.slice oa ps.length cap) ps) => sets_any oa cap ps work W hE hl hr
  have HS := Lib.hid hs
  have HE := Lib.hid h
  clear hs h hr
  go_enter Try.func15, Try.ntmps15
  go_wp2_with fail
  refine (HS.out _ (HE.out.below (((Below.refl _ _).alloc (Nat.le_refl _) _).alloc (by simp) _) (Nat.le_refl _))).mono ?_
  rintro e w1 ⟨v, qs, rfl, hst, hacc, hb⟩
  obtain ⟨hcell, hfr⟩ := bcell hb
  have hz : w.heap.size + 1 < w1.heap.size := by have := hb.size; simp at this; omega
  have HST := Lib.hid hst
  have HACC := Lib.hid hacc
  have HB := Lib.hid hb
  obtain ⟨ov, cv, rfl⟩ := slAt_slice hacc.row.at
  clear hst hb
  cases qs with
  | nil =>
    clear hacc
    go_wp2_with fail
    refine bodyPost_ret (v := winV []) (by simp [results, Try.results15, go_sem, winV, cell_set, hcell]) rfl ⟨[], HST.out, rfl, ?_⟩
    have hb1 : RowKit.Below w.heap.size w w1 := (((RowKit.Below.refl _ _).alloc (Nat.le_refl _) _).alloc (by simp) _).trans (HB.out.mono (by simp; omega))
    clear hcell hfr
    go_grown
  | cons q qs =>
    have hsl := hacc.evs.1
    obtain ⟨b, off, rfl⟩ := slAt_some hsl 0 (by simp)
    obtain ⟨ra, rn, rc, ev, hp, c0, c1, c2, c3, c4, c5, c6, c7, c8, c9, c10, c11, c12, c13⟩ := hsl.ev 0 (by simp)
    have hbs : w.heap.size + 2 ≤ b := by
      have := (hacc.row.lt b rfl).1
      simpa using this
    have HP := Lib.hid hp
    have len0 : (((q :: qs).length : Int) == 0) = false := by simp; omega
    clear hp hsl hacc
    simp only [Nat.zero_mul, Nat.add_zero] at c0 c1 c2 c3 c4 c5 c6 c7 c8 c9 c10 c11 c12 c13
    go_wp2_with fail
    go_region
    all_goals
      go_wp2_with fail
      refine bodyPost_ret (v := winV ((q :: qs).map (·.2))) ?_ rfl ⟨_, HST.out, rfl, ?_⟩
      · have e : q = (⟨ra, rn, rc⟩, ev) := by have := HP.out; simpa using this
        subst e
        simp [results, Try.results15, go_sem, winV, cell_set, hcell]
      · have hb1 : RowKit.Below w.heap.size w w1 := (((RowKit.Below.refl _ _).alloc (Nat.le_refl _) _).alloc (by simp) _).trans (HB.out.mono (by simp; omega))
        clear hcell hfr
        go_grown
end Go.Proofs.Ytjgbflclhkeibaa
