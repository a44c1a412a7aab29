/-
  event.named and event.Right walked: whether an event may be.
  event.Right walked: whether an event may be.
-/
import Derived.Test.YtenkfnhcdfmkaaaGreatMDotClose
import Derived.Test.YtenkfnhcdfmkaaaGreatMDotP
namespace Go.Proofs.YtenkfnhcdfmkaaaGreat
open Go.Shelf Go.RowKit Go.Lib Go.Sort
set_option linter.unusedVariables false
def NamedTo (own : Dot) (l : List Dot) (i : Nat) : Prop := RemRight own (l.take i)
theorem namedTo_zero (own : Dot) (l : List Dot) : NamedTo own l 0 := ⟨fun d hd => by simp at hd, by simp⟩
theorem namedTo_step {own : Dot} {l : List Dot} {i : Nat} (h : NamedTo own l i) (hi : i < l.length) (h1 : May l[i]) (h2 : l[i] ≠ own) (h3 : ∀ hz : 0 < i, Before (l[i - 1]'(by omega)) l[i]) : NamedTo own l (i + 1) := by
 unfold NamedTo RemRight at *
 rw [List.take_succ_eq_append_getElem hi]
 refine ⟨fun d hd => ?_, List.pairwise_append.2 ⟨h.2, List.pairwise_singleton _ _, fun x hx y hy => ?_⟩⟩
 ·rcases List.mem_append.1 hd with hd | hd
  ·exact h.1 d hd
  ·obtain rfl : d = l[i] := by simpa using hd
   exact ⟨h1, h2⟩
 ·obtain rfl : y = l[i] := by simpa using hy
  obtain ⟨j, hj, rfl⟩ := List.mem_iff_getElem.1 hx
  have hji : j < i := by rw [List.length_take] at hj; omega
  rw [List.getElem_take]
  have h4 := h3 (by omega)
  by_cases e : j = i - 1
  ·subst e; exact h4
  ·refine Before.trans ?_ h4
   have := List.pairwise_iff_getElem.1 h.2 j (i - 1) hj (by rw [List.length_take]; omega) (by omega)
   rwa [List.getElem_take, List.getElem_take] at this
theorem run_eql_dot (a b : Dot) (w : World) : (binOp .eql 40 (.agg #[.int .i64 a.node, .int .i64 a.seq]) (.agg #[.int .i64 b.node, .int .i64 b.seq])).run Tryz.prog w = .ok (.bool (a.node == b.node && a.seq == b.seq)) w := by
 go_simp
 by_cases h1 : a.node = b.node
 ·by_cases h2 : a.seq = b.seq <;> simp [h1, h2]
 ·simp [h1]
def remB (own : Dot) (l : List Dot) : Bool := decide (RemRight own l)
theorem empty_has (d : Dot) : hasB DSet.none d = false := by
 unfold hasB
 rw [DSet.grid_none]
 rfl
theorem addNone_any (d : Dot) (w : World) : Calls Tryz.prog 77 #[.agg #[.int .i64 0, .int .i64 0, .int .i64 0, .int .i64 0, .int .i64 0, .int .i64 0, .int .i64 0, .int .i64 0, .slice none 0 0], .agg #[.int .i64 d.node, .int .i64 d.seq]] w
  fun e w' => ∃ (u : Nat → Int) (v : Hdr) (c : Int), e = .returned (.tuple #[.agg #[.int .i64 (u 0), .int .i64 (u 1), .int .i64 (u 2), .int .i64 (u 3), .int .i64 (u 4), .int .i64 (u 5), .int .i64 (u 6), .int .i64 (u 7), .slice v.a v.n v.c], .int .i64 c]) ∧ c = (if May d then 0 else 2) ∧ Below w.heap.size w w' := by
 refine (add_any none 0 DSet.none d w (SlAt.nil _ _) (by decide)).mono ?_
 rintro e w' ⟨⟨o2, n2, c2⟩, t, c, rfl, _, hb, hc⟩
 refine ⟨t.u, ⟨o2, n2, c2⟩, c, rfl, ?_, hb⟩
 rcases hc with ⟨h1, h2, _⟩ | ⟨_, h2, _⟩ | ⟨h1, _, h2, _⟩
 ·rw [if_neg h1, h2]
 ·rw [empty_has] at h2; cases h2
 ·rw [if_pos h1, h2]
set_option maxHeartbeats 8000000 in
theorem named_any (own : Dot) (oa : Option Addr) (cap : Nat) (l : List Dot) (w : World) (h : SlAt Dot.cells w (.slice oa l.length cap) l) (hl : l.length ≤ 1000000) :
  Calls Tryz.prog 88 #[.agg #[.int .i64 own.node, .int .i64 own.seq], .slice oa l.length cap] w fun e w' => e = .returned (.bool (remB own l)) ∧ Below w.heap.size w w' := by
 have hb2 := ((Below.refl w.heap.size w).alloc (Nat.le_refl _) (.cells #[.int .i64 own.node, .int .i64 own.seq] 40)).alloc (by simp) (.cells #[.int .i64 0, .int .i64 0, .int .i64 0, .int .i64 0, .int .i64 0, .int .i64 0, .int .i64 0, .int .i64 0, .slice none 0 0] 48)
 have hr0 : ((w.alloc (.cells #[.int .i64 own.node, .int .i64 own.seq] 40)).alloc (.cells #[.int .i64 0, .int .i64 0, .int .i64 0, .int .i64 0, .int .i64 0, .int .i64 0, .int .i64 0, .int .i64 0, .slice none 0 0] 48)).heap[w.heap.size]? = some (.cells #[.int .i64 own.node, .int .i64 own.seq] 40) := by
  rw [Below.heap_alloc _ _ _ (by simp), heap_alloc_new]
 have hr1 : ((w.alloc (.cells #[.int .i64 own.node, .int .i64 own.seq] 40)).alloc (.cells #[.int .i64 0, .int .i64 0, .int .i64 0, .int .i64 0, .int .i64 0, .int .i64 0, .int .i64 0, .int .i64 0, .slice none 0 0] 48)).heap[w.heap.size + 1]? = some (.cells #[.int .i64 0, .int .i64 0, .int .i64 0, .int .i64 0, .int .i64 0, .int .i64 0, .int .i64 0, .int .i64 0, .slice none 0 0] 48) := by
  have := heap_alloc_new (w.alloc (.cells #[.int .i64 own.node, .int .i64 own.seq] 40)) (.cells #[.int .i64 0, .int .i64 0, .int .i64 0, .int .i64 0, .int .i64 0, .int .i64 0, .int .i64 0, .int .i64 0, .slice none 0 0] 48)
  rwa [World.size_alloc] at this
 have HS := Lib.hid h
 have HB2 := Lib.hid hb2
 have HR0 := Lib.hid hr0
 have HR1 := Lib.hid hr1
 clear h hb2 hr0 hr1
 go_enter Tryz.func88, Tryz.ntmps88
 go_wp2_with fail
 generalize (w.alloc (.cells #[.int .i64 own.node, .int .i64 own.seq] 40)).alloc (.cells #[.int .i64 0, .int .i64 0, .int .i64 0, .int .i64 0, .int .i64 0, .int .i64 0, .int .i64 0, .int .i64 0, .slice none 0 0] 48) = w1 at *
 have hlt1 : w.heap.size + 1 < w1.heap.size := (Array.getElem?_eq_some_iff.1 HR1.out).1
 have hmx : Tryz.prog.follows .mixedOrders = true := by kernel_rfl
 go_loopg [13] l.length (fun gk s13 wr => ∃ (i : Nat), s13 = .int .i64 i ∧ i ≤ l.length ∧ l.length - i ≤ gk ∧ Hid (NamedTo own l i) ∧ Hid (Below w1.heap.size w1 wr))
 case atStart => exact ⟨0, rfl, Nat.zero_le _, Nat.le_refl _, namedTo_zero _ _, Below.refl _ _⟩
 case round =>
  obtain ⟨i, rfl, hi, hg, HP, HB⟩ := hrel
  by_cases hlt : i < l.length
  ·have hltz : (i : Int) < (l.length : Int) := by omega
   have hbr := HB2.out.trans (HB.out.mono HB2.out.size)
   have hsl := HS.out.below Dot.cells_len (by decide) hbr (Nat.le_refl _)
   obtain ⟨b, off, rfl⟩ := hsl.plain Dot.cells_len (by decide) (by intro e; rw [e] at hlt; exact absurd hlt (by simp))
   have c0 : wr.cell? ⟨b, off + i * 2, none⟩ = some (.int .i64 l[i].node) := hsl.cell Dot.cells_len (i := i) (c := 0) hlt (by decide)
   have c1 : wr.cell? ⟨b, off + i * 2 + 1, none⟩ = some (.int .i64 l[i].seq) := hsl.cell Dot.cells_len (i := i) (c := 1) hlt (by decide)
   have hblt : b < wr.heap.size := World.block_lt_of_cell? wr _ c0
   have hrow0 := (HB.out.block _ (by omega)).trans HR0.out
   have hrow1 := (HB.out.block _ hlt1).trans HR1.out
   have hprev : ∀ hz : 0 < i, wr.cell? ⟨b, off + (i - 1) * 2, none⟩ = some (.int .i64 (l[i - 1]'(by omega)).node) ∧ wr.cell? ⟨b, off + (i - 1) * 2 + 1, none⟩ = some (.int .i64 (l[i - 1]'(by omega)).seq) := fun hz =>
    ⟨hsl.cell Dot.cells_len (i := i - 1) (c := 0) (by omega) (by decide), hsl.cell Dot.cells_len (i := i - 1) (c := 1) (by omega) (by decide)⟩
   have hstep := namedTo_step HP.out hlt
   have hright : ∀ hr : RemRight own l, May l[i] ∧ l[i] ≠ own ∧ ∀ hz : 0 < i, Before (l[i - 1]'(by omega)) l[i] := fun hr => ⟨(hr.1 _ (List.getElem_mem hlt)).1, (hr.1 _ (List.getElem_mem hlt)).2, fun hz => List.pairwise_iff_getElem.1 hr.2 (i - 1) i (by omega) hlt (by omega)⟩
   generalize l[i] = d at *
   have hbd := (Below.refl wr.heap.size wr).alloc (Nat.le_refl _) (.cells #[.int .i64 d.node, .int .i64 d.seq] 40)
   have hnew : (wr.alloc (.cells #[.int .i64 d.node, .int .i64 d.seq] 40)).heap[wr.heap.size]? = some (.cells #[.int .i64 d.node, .int .i64 d.seq] 40) := heap_alloc_new wr _
   have hszz := HB.out.size
   have hrow0' := (hbd.block _ (by omega)).trans hrow0
   have hrow1' := (hbd.block _ (by omega)).trans hrow1
   have hprev' : ∀ hz : 0 < i, (wr.alloc (.cells #[.int .i64 d.node, .int .i64 d.seq] 40)).cell? ⟨b, off + (i - 1) * 2, none⟩ = some (.int .i64 (l[i - 1]'(by omega)).node) ∧ (wr.alloc (.cells #[.int .i64 d.node, .int .i64 d.seq] 40)).cell? ⟨b, off + (i - 1) * 2 + 1, none⟩ = some (.int .i64 (l[i - 1]'(by omega)).seq) := fun hz => ⟨(hbd.cell hblt).trans (hprev hz).1, (hbd.cell hblt).trans (hprev hz).2⟩
   have hltA : wr.heap.size < (wr.alloc (.cells #[.int .i64 d.node, .int .i64 d.seq] 40)).heap.size := by simp
   have HBW := Lib.hid (HB.out.trans (hbd.mono HB.out.size))
   have HPRE := Lib.hid hprev'
   have HSTEP := Lib.hid hstep
   have HRIGHT := Lib.hid hright
   clear hsl hrow0 hrow1 hprev hprev' hstep hright HP hbd hbr
   go_wp2_with fail
   generalize wr.alloc (.cells #[.int .i64 d.node, .int .i64 d.seq] 40) = W at *
   generalize wr.heap.size = db at *
   have d0 : ∀ n os, (grow (W.drewN n) os).cell? ⟨db, 0, none⟩ = some (.int .i64 d.node) := cell_grown (o := 0) hltA (cell_of_row W db 0 _ _ _ hnew)
   have d1 : ∀ n os, (grow (W.drewN n) os).cell? ⟨db, 1, none⟩ = some (.int .i64 d.seq) := cell_grown (o := 1) hltA (cell_of_row W db 1 _ _ _ hnew)
   have o0 : ∀ n os, (grow (W.drewN n) os).cell? ⟨w.heap.size, 0, none⟩ = some (.int .i64 own.node) := cell_grown (o := 0) (by omega) (cell_of_row W w.heap.size 0 _ _ _ hrow0')
   have o1 : ∀ n os, (grow (W.drewN n) os).cell? ⟨w.heap.size, 1, none⟩ = some (.int .i64 own.seq) := cell_grown (o := 1) (by omega) (cell_of_row W w.heap.size 1 _ _ _ hrow0')
   have s0 := fun o v (h : (#[.int .i64 0, .int .i64 0, .int .i64 0, .int .i64 0, .int .i64 0, .int .i64 0, .int .i64 0, .int .i64 0, .slice none 0 0] : Array Value)[o]? = some v) => cell_grown (o := o) (v := v) (by omega) ((cell_of_row W (w.heap.size + 1) o _ _ _ hrow1').trans h)
   have g0 := s0 0 _ rfl
   have g1 := s0 1 _ rfl
   have g2 := s0 2 _ rfl
   have g3 := s0 3 _ rfl
   have g4 := s0 4 _ rfl
   have g5 := s0 5 _ rfl
   have g6 := s0 6 _ rfl
   have g7 := s0 7 _ rfl
   have g8 := s0 8 _ rfl
   have hadd := fun W' => addNone_any d W'
   have HADD := Lib.hid hadd
   clear s0 hadd
   have HROW1 := Lib.hid hrow1'
   have HNEW := Lib.hid hnew
   clear hnew hrow0' hrow1' c0 c1
   by_cases ho : d = own
   ·subst ho
    have HNR := Lib.hid (fun hr : RemRight d l => (HRIGHT.out hr).2.1 rfl)
    clear HRIGHT HSTEP HPRE
    refine wp_region_quiet_grown (by assumption) (by kernel_rfl) ?_
    repeat (go_big_quiet_step (fail))
    refine wpQuiet_nil ?_
    intro _ hw'
    obtain ⟨⟨nq, osq⟩, hw''⟩ := hw'
    subst hw''
    go_wp2_with fail
    go_ret
    exact ⟨retB (decide_eq_false HNR.out).symm, HB2.out.trans ((HBW.out.trans ((Grew.below ⟨nq, osq, rfl⟩).mono HBW.out.size)).mono HB2.out.size)⟩
   ·have hdo : (d.node == own.node && d.seq == own.seq) = false := by
     rw [Bool.and_eq_false_iff, beq_eq_false_iff_ne, beq_eq_false_iff_ne]
     by_cases e : d.node = own.node
     ·exact .inr fun e2 => ho (by cases d; cases own; simp only at e e2; rw [e, e2])
     ·exact .inl e
    have hqe := fun W => run_eql_dot d own W
    simp only [hdo] at hqe
    clear hdo
    by_cases hz : 0 < i
    ·have hzb : decide (0 < i) = true := decide_eq_true hz
     have hpi : i - 1 < l.length := by omega
     obtain ⟨p0, p1⟩ := HPRE.out hz
     have hstep2 := fun (h1 : May d) (h6 : Before (l[i - 1]'hpi) d) => HSTEP.out h1 ho (fun _ => h6)
     have hright2 : RemRight own l → May d ∧ Before (l[i - 1]'hpi) d := fun hr => ⟨(HRIGHT.out hr).1, (HRIGHT.out hr).2.2 hz⟩
     generalize l[i - 1]'hpi = pd at *
     obtain ⟨p, hp⟩ : ∃ p, i - 1 = p := ⟨_, rfl⟩
     rw [hp] at p0 p1 hpi
     have hsub : (i : Int) - 1 = (p : Int) := by omega
     have hwp : IntKind.i64.wrap (p : Int) = (p : Int) := IntWalk.i64_in _ (by omega)
     have hplt : (p : Int) < (l.length : Int) := by omega
     have q0 := cell_grown (by omega) p0
     have q1 := cell_grown (by omega) p1
     have hbf := fun n os => before_any pd d (grow (W.drewN n) os)
     have HSTEP2 := Lib.hid hstep2
     have HRIGHT2 := Lib.hid hright2
     clear HSTEP HRIGHT HPRE hstep2 hright2 p0 p1 hp hz ho
     by_cases h6 : Before pd d
     ·have hlt6 : dotLt pd d = true := (dotLt_iff pd d).2 h6
      rw [hlt6] at hbf
      have HBF := Lib.hid hbf
      have H6 := Lib.hid h6
      clear hbf h6 hlt6
      refine wp_region_quiet_grown (by assumption) (by kernel_rfl) ?_
      repeat (go_big_quiet_step (first | (go_at_call 121; refine Calls.grown_of (HBF.out _ _))))
      refine wpQuiet_nil ?_
      intro _ hw'
      obtain ⟨⟨nq, osq⟩, hw''⟩ := hw'
      subst hw''
      have HB5 := Lib.hid (HBW.out.trans ((Grew.below ⟨nq, osq, rfl⟩).mono HBW.out.size) : Below w1.heap.size w1 (grow (W.drewN nq) osq))
      go_wp2_with fail
      refine (HADD.out _).mono ?_
      rintro e w6 ⟨u6, ⟨o6, n6, c6⟩, c, rfl, hc, hb6⟩
      have HB6 := Lib.hid (HB5.out.trans (hb6.mono HB5.out.size))
      clear hb6 g0 g1 g2 g3 g4 g5 g6 g7 g8 d0 d1 o0 o1
      by_cases hm : May d
      ·rw [if_pos hm] at hc
       subst hc
       have HST := Lib.hid (HSTEP2.out hm H6.out)
       clear hm
       go_wp2_with fail
       go_roundg (l.length - (i + 1))
       case measure => omega
       case rel => exact ⟨i + 1, by go_num, by omega, Nat.le_refl _, HST.out, HB6.out.alloc HB6.out.size _⟩
      ·rw [if_neg hm] at hc
       subst hc
       have HNM := Lib.hid hm
       clear hm
       go_wp2_with fail
       go_ret
       exact ⟨retB (decide_eq_false fun hr => HNM.out ((HRIGHT2.out hr).1)).symm, HB2.out.trans ((HB6.out.alloc HB6.out.size _).mono HB2.out.size)⟩
     ·have hlt6 : dotLt pd d = false := Bool.eq_false_iff.2 fun h => h6 ((dotLt_iff pd d).1 h)
      rw [hlt6] at hbf
      have HBF := Lib.hid hbf
      have H6 := Lib.hid h6
      clear hbf h6 hlt6
      refine wp_region_quiet_grown (by assumption) (by kernel_rfl) ?_
      repeat (go_big_quiet_step (first | (go_at_call 121; refine Calls.grown_of (HBF.out _ _))))
      refine wpQuiet_nil ?_
      intro _ hw'
      obtain ⟨⟨nq, osq⟩, hw''⟩ := hw'
      subst hw''
      go_wp2_with fail
      go_ret
      exact ⟨retB (decide_eq_false fun hr => H6.out (HRIGHT2.out hr).2).symm, HB2.out.trans ((HBW.out.trans ((Grew.below ⟨nq, osq, rfl⟩).mono HBW.out.size)).mono HB2.out.size)⟩
    ·have hzb : decide (0 < i) = false := decide_eq_false hz
     have HST0 := Lib.hid (fun h1 : May d => HSTEP.out h1 ho (fun hz2 => absurd hz2 hz))
     have HRT := Lib.hid (fun hr : RemRight own l => (HRIGHT.out hr).1)
     clear HSTEP HRIGHT HPRE hz ho
     refine wp_region_quiet_grown (by assumption) (by kernel_rfl) ?_
     repeat (go_big_quiet_step (fail))
     refine wpQuiet_nil ?_
     intro _ hw'
     obtain ⟨⟨nq, osq⟩, hw''⟩ := hw'
     subst hw''
     have HB5 := Lib.hid (HBW.out.trans ((Grew.below ⟨nq, osq, rfl⟩).mono HBW.out.size) : Below w1.heap.size w1 (grow (W.drewN nq) osq))
     go_wp2_with fail
     refine (HADD.out _).mono ?_
     rintro e w6 ⟨u6, ⟨o6, n6, c6⟩, c, rfl, hc, hb6⟩
     have HB6 := Lib.hid (HB5.out.trans (hb6.mono HB5.out.size))
     clear hb6 g0 g1 g2 g3 g4 g5 g6 g7 g8 d0 d1 o0 o1
     by_cases hm : May d
     ·rw [if_pos hm] at hc
      subst hc
      have HST := Lib.hid (HST0.out hm)
      clear hm
      go_wp2_with fail
      go_roundg (l.length - (i + 1))
      case measure => omega
      case rel => exact ⟨i + 1, by go_num, by omega, Nat.le_refl _, HST.out, HB6.out.alloc HB6.out.size _⟩
     ·rw [if_neg hm] at hc
      subst hc
      have HNM := Lib.hid hm
      clear hm
      go_wp2_with fail
      go_ret
      exact ⟨retB (decide_eq_false fun hr => HNM.out (HRT.out hr)).symm, HB2.out.trans ((HB6.out.alloc HB6.out.size _).mono HB2.out.size)⟩
  ·have hltz : ¬ (i : Int) < (l.length : Int) := by omega
   obtain rfl : i = l.length := by omega
   have hp := HP.out
   unfold NamedTo at hp
   rw [List.take_length] at hp
   have HP2 := Lib.hid hp
   clear hp HP
   go_wp2_with fail
   go_ret
   exact ⟨retB (decide_eq_true HP2.out).symm, HB2.out.trans (HB.out.mono HB2.out.size)⟩
end Go.Proofs.YtenkfnhcdfmkaaaGreat
namespace Go.Proofs.YtenkfnhcdfmkaaaGreat
open Go.Shelf Go.RowKit Go.Lib Go.Sort
set_option linter.unusedVariables false
theorem ev_row {W : World} {b : Nat} {ev : Ev} {v : Value} {e : TypeId} (h : W.heap[b]? = some (.cells #[.int .i64 ev.dot.node, .int .i64 ev.dot.seq, .int .i64 ev.time, .int .i64 ev.kind, .int .i64 ev.work, .int .i64 ev.value, .int .i64 ev.pol.mn, .int .i64 ev.pol.mx, .int .i64 ev.pol.goal, .int .i64 ev.pol.slack, .int .i64 ev.pol.up, .int .i64 ev.pol.down, .int .i64 ev.pol.cool, v] e)) : W.cell? ⟨b, 0, none⟩ = some (.int .i64 ev.dot.node) ∧ W.cell? ⟨b, 1, none⟩ = some (.int .i64 ev.dot.seq) ∧ W.cell? ⟨b, 2, none⟩ = some (.int .i64 ev.time) ∧ W.cell? ⟨b, 3, none⟩ = some (.int .i64 ev.kind) ∧ W.cell? ⟨b, 4, none⟩ = some (.int .i64 ev.work) ∧ W.cell? ⟨b, 5, none⟩ = some (.int .i64 ev.value) ∧ W.cell? ⟨b, 6, none⟩ = some (.int .i64 ev.pol.mn) ∧ W.cell? ⟨b, 7, none⟩ = some (.int .i64 ev.pol.mx) ∧ W.cell? ⟨b, 8, none⟩ = some (.int .i64 ev.pol.goal) ∧ W.cell? ⟨b, 9, none⟩ = some (.int .i64 ev.pol.slack) ∧ W.cell? ⟨b, 10, none⟩ = some (.int .i64 ev.pol.up) ∧ W.cell? ⟨b, 11, none⟩ = some (.int .i64 ev.pol.down) ∧ W.cell? ⟨b, 12, none⟩ = some (.int .i64 ev.pol.cool) ∧ W.cell? ⟨b, 13, none⟩ = some v :=
 ⟨cell_of_row W b 0 _ _ _ h, cell_of_row W b 1 _ _ _ h, cell_of_row W b 2 _ _ _ h, cell_of_row W b 3 _ _ _ h, cell_of_row W b 4 _ _ _ h, cell_of_row W b 5 _ _ _ h, cell_of_row W b 6 _ _ _ h, cell_of_row W b 7 _ _ _ h, cell_of_row W b 8 _ _ _ h, cell_of_row W b 9 _ _ _ h, cell_of_row W b 10 _ _ _ h, cell_of_row W b 11 _ _ _ h, cell_of_row W b 12 _ _ _ h, cell_of_row W b 13 _ _ _ h⟩
theorem run_eql_pol0 (p : Pol) (w : World) : (binOp .eql 42 (.agg #[.int .i64 p.mn, .int .i64 p.mx, .int .i64 p.goal, .int .i64 p.slack, .int .i64 p.up, .int .i64 p.down, .int .i64 p.cool]) (.agg #[.int .i64 0, .int .i64 0, .int .i64 0, .int .i64 0, .int .i64 0, .int .i64 0, .int .i64 0])).run Tryz.prog w = .ok (.bool (decide (p = polZero))) w := by
 obtain ⟨a, b, c, d, e, f, g⟩ := p
 go_simp
 simp only [polZero, Pol.mk.injEq]
 by_cases h1 : a = 0 <;> by_cases h2 : b = 0 <;> by_cases h3 : c = 0 <;> by_cases h4 : d = 0 <;> by_cases h5 : e = 0 <;> by_cases h6 : f = 0 <;> by_cases h7 : g = 0 <;> simp [h1, h2, h3, h4, h5, h6, h7]
theorem polRight_iff (p : Pol) : p.right ↔ PolRight p := by unfold Pol.right PolRight; omega
def rightEvB (e : Ev) : Bool := decide (RightEv e)
set_option maxHeartbeats 16000000 in
theorem evRight_any (hd : Hdr) (ev : Ev) (w : World) (h : SlAt Dot.cells w hd.val ev.rem) (hl : ev.rem.length ≤ 1000000) :
  Calls Tryz.prog 53 #[.agg #[.int .i64 ev.dot.node, .int .i64 ev.dot.seq, .int .i64 ev.time, .int .i64 ev.kind, .int .i64 ev.work, .int .i64 ev.value, .int .i64 ev.pol.mn, .int .i64 ev.pol.mx, .int .i64 ev.pol.goal, .int .i64 ev.pol.slack, .int .i64 ev.pol.up, .int .i64 ev.pol.down, .int .i64 ev.pol.cool, hd.val]] w fun e w' => e = .returned (.bool (rightEvB ev)) ∧ Below w.heap.size w w' := by
 obtain ⟨ra, rn, rc⟩ := hd
 obtain ⟨ra', rc', hv, _⟩ := h.slice_of
 simp only [Hdr.val, Value.slice.injEq] at hv h ⊢
 obtain ⟨rfl, rfl, rfl⟩ := hv
 have hb1 := (Below.refl w.heap.size w).alloc (Nat.le_refl _) (.cells #[.int .i64 ev.dot.node, .int .i64 ev.dot.seq, .int .i64 ev.time, .int .i64 ev.kind, .int .i64 ev.work, .int .i64 ev.value, .int .i64 ev.pol.mn, .int .i64 ev.pol.mx, .int .i64 ev.pol.goal, .int .i64 ev.pol.slack, .int .i64 ev.pol.up, .int .i64 ev.pol.down, .int .i64 ev.pol.cool, .slice ra ev.rem.length rc] 44)
 have hrow : (w.alloc (.cells #[.int .i64 ev.dot.node, .int .i64 ev.dot.seq, .int .i64 ev.time, .int .i64 ev.kind, .int .i64 ev.work, .int .i64 ev.value, .int .i64 ev.pol.mn, .int .i64 ev.pol.mx, .int .i64 ev.pol.goal, .int .i64 ev.pol.slack, .int .i64 ev.pol.up, .int .i64 ev.pol.down, .int .i64 ev.pol.cool, .slice ra ev.rem.length rc] 44)).heap[w.heap.size]? = some (.cells #[.int .i64 ev.dot.node, .int .i64 ev.dot.seq, .int .i64 ev.time, .int .i64 ev.kind, .int .i64 ev.work, .int .i64 ev.value, .int .i64 ev.pol.mn, .int .i64 ev.pol.mx, .int .i64 ev.pol.goal, .int .i64 ev.pol.slack, .int .i64 ev.pol.up, .int .i64 ev.pol.down, .int .i64 ev.pol.cool, .slice ra ev.rem.length rc] 44) := heap_alloc_new w _
 have hadd := fun W => addNone_any ev.dot W
 have HADD := Lib.hid hadd
 have HS := Lib.hid h
 have HB1 := Lib.hid hb1
 have HROW := Lib.hid hrow
 obtain ⟨RE, hre⟩ : ∃ RE : Prop, RightEv ev = RE := ⟨_, rfl⟩
 have HRE := Lib.hid hre
 clear hadd h hb1 hrow hre
 go_enter Tryz.func53, Tryz.ntmps53
 go_wp2_with fail
 refine (HADD.out _).mono ?_
 rintro e w2 ⟨u2, ⟨o2, n2, c2⟩, c, rfl, hc, hb2⟩
 have hrow2 := (hb2.block _ (by simp)).trans HROW.out
 have HB2 := Lib.hid (HB1.out.trans (hb2.mono HB1.out.size))
 have hsz2 : w.heap.size < w2.heap.size := (Array.getElem?_eq_some_iff.1 hrow2).1
 clear hb2 HROW HADD
 by_cases hm : May ev.dot
 ·rw [if_pos hm] at hc
  subst hc
  have HMY := Lib.hid hm
  obtain ⟨e0, e1, e2, e3, e4, e5, e6, e7, e8, e9, e10, e11, e12, e13⟩ := ev_row hrow2
  clear e3 e5 e6 e7 e8 e9 e10 e11 e12 hm
  by_cases hT : 1 ≤ ev.time ∧ ev.time ≤ 1099511627776
  ·have bT := inB_yes hT
   by_cases hW : 0 ≤ ev.work ∧ ev.work ≤ 7
   ·have bW := inB_yes hW
    by_cases hL : ev.rem.length ≤ 96
    ·have hLz : (ev.rem.length : Int) ≤ 96 := by omega
     have hnm := fun W (hb : Below w.heap.size w W) => named_any ev.dot ra rc ev.rem W (HS.out.below Dot.cells_len (by decide) hb (Nat.le_refl _)) hl
     have HNM := Lib.hid hnm
     have HT := Lib.hid hT
     have HW := Lib.hid hW
     have HBA := Lib.hid (fun o => HB2.out.alloc HB2.out.size o)
     have HROW2 := Lib.hid hrow2
     clear hnm hT hW hrow2
     go_wp2_with (go_at_call 87; refine (evWithin_inB _ _ _ (by omega) _).mono ?_; rintro e w' ⟨rfl, rfl⟩)
     refine (HNM.out _ (HBA.out _)).mono ?_
     rintro e w4 ⟨rfl, hb4⟩
     have hrow4 := (hb4.block _ (by rw [World.size_alloc]; omega)).trans ((Below.heap_alloc _ _ _ hsz2).trans HROW2.out)
     have HB4 := Lib.hid ((HBA.out _).trans (hb4.mono (HBA.out _).size))
     obtain ⟨f0, f1, f2, f3, f4, f5, f6, f7, f8, f9, f10, f11, f12, f13⟩ := ev_row hrow4
     have hlt4 : w.heap.size < w4.heap.size := (Array.getElem?_eq_some_iff.1 hrow4).1
     obtain ⟨rb, hrb⟩ : ∃ rb, remB ev.dot ev.rem = rb := ⟨_, rfl⟩
     have hqp := run_eql_pol0 ev.pol
     obtain ⟨bz, hbz⟩ : ∃ bz, decide (ev.pol = polZero) = bz := ⟨_, rfl⟩
     rw [hbz] at hqp
     have HZ := Lib.hid hbz
     clear hb4 hrow4 hbz e0 e1 e2 e4 e13 bT bW HROW2 HNM
     simp only [hrb]
     cases rb with
     | false =>
      have HN := Lib.hid (show ¬ RightEv ev from fun hr => by have := decide_eq_true hr.2.2.2.2.1; unfold remB at hrb; rw [hrb] at this; cases this)
      clear hrb
      go_wp2_with fail
      go_ret
      exact ⟨retB (decide_eq_false HN.out).symm, HB4.out⟩
     | true =>
      have HRB := Lib.hid (of_decide_eq_true hrb)
      clear hrb
      by_cases k1 : ev.kind = 1
      ·cases bz with
       | false =>
        have hpz := of_decide_eq_false HZ.out
        have HN := Lib.hid (show ¬ RightEv ev from fun hr => hpz (by rcases hr.2.2.2.2.2 with h | h | h; exact h.2.1; omega; omega))
        clear hpz
        go_wp2_with (go_at_call 87; refine (evWithin_inB _ _ _ (by omega) _).mono ?_; rintro e w' ⟨rfl, rfl⟩)
        go_ret
        exact ⟨retB (decide_eq_false HN.out).symm, HB4.out⟩
       | true =>
        have hpz := of_decide_eq_true HZ.out
        by_cases hV : 0 ≤ ev.value ∧ ev.value ≤ 1099511627776
        ·have bV := inB_yes hV
         by_cases hR : ev.rem.length = 0
         ·have hRz : (ev.rem.length : Int) = 0 := by omega
          have HY := Lib.hid (show RightEv ev from ⟨HMY.out, HT.out, HW.out, hL, HRB.out, .inl ⟨k1, hpz, hV.1, hV.2, List.eq_nil_of_length_eq_zero hR⟩⟩)
          clear hpz hV
          go_wp2_with (go_at_call 87; refine (evWithin_inB _ _ _ (by omega) _).mono ?_; rintro e w' ⟨rfl, rfl⟩)
          go_ret
          exact ⟨retB (decide_eq_true HY.out).symm, HB4.out⟩
         ·have hRz : ¬ (ev.rem.length : Int) = 0 := by omega
          have hRb : ((ev.rem.length : Int) == 0) = false := beq_eq_false_iff_ne.2 hRz
          have HN := Lib.hid (show ¬ RightEv ev from fun hr => hR (by rcases hr.2.2.2.2.2 with h | h | h; rw [h.2.2.2.2]; rfl; omega; omega))
          clear hpz hV hR
          go_wp2_with (go_at_call 87; refine (evWithin_inB _ _ _ (by omega) _).mono ?_; rintro e w' ⟨rfl, rfl⟩)
          go_ret
          exact ⟨retB (decide_eq_false HN.out).symm, HB4.out⟩
        ·have bV := inB_no hV
         have HN := Lib.hid (show ¬ RightEv ev from fun hr => hV (by rcases hr.2.2.2.2.2 with h | h | h; exact ⟨h.2.2.1, h.2.2.2.1⟩; omega; omega))
         clear hpz hV
         go_wp2_with (go_at_call 87; refine (evWithin_inB _ _ _ (by omega) _).mono ?_; rintro e w' ⟨rfl, rfl⟩)
         go_ret
         exact ⟨retB (decide_eq_false HN.out).symm, HB4.out⟩
      ·by_cases k2 : ev.kind = 2
       ·have hrp := fun W => rightPolicy_any ev.pol W
        have HRP := Lib.hid hrp
        clear hrp
        go_wp2_with fail
        refine (HRP.out _).mono ?_
        rintro e w5 ⟨rfl, hb5⟩
        have f5' := (hb5.cell (p := ⟨w.heap.size, 5, none⟩) hlt4).trans f5
        have HB5 := Lib.hid (HB4.out.trans (hb5.mono HB4.out.size))
        obtain ⟨pb, hpb⟩ : ∃ pb, ev.pol.rightB = pb := ⟨_, rfl⟩
        simp only [hpb]
        have hlt5 : w.heap.size < w5.heap.size := Nat.lt_of_lt_of_le hlt4 hb5.size
        clear hb5 f0 f1 f2 f3 f4 f5 f6 f7 f8 f9 f10 f11 f12 f13 HRP
        cases pb with
        | false =>
         have HN := Lib.hid (show ¬ RightEv ev from fun hr => by
          rcases hr.2.2.2.2.2 with h | h | h
          ·omega
          ·rw [Pol.rightB_true ((polRight_iff _).2 h.2.1)] at hpb; cases hpb
          ·omega)
         clear hpb
         go_wp2_with fail
         go_ret
         exact ⟨retB (decide_eq_false HN.out).symm, HB5.out⟩
        | true =>
         have hpr := (polRight_iff _).1 (Pol.rightB_iff.1 hpb)
         clear hpb
         by_cases hv0 : ev.value = 0
         ·have HY := Lib.hid (show RightEv ev from ⟨HMY.out, HT.out, HW.out, hL, HRB.out, .inr (.inl ⟨k2, hpr, hv0⟩)⟩)
          clear hpr
          go_wp2_with fail
          go_ret
          exact ⟨retB (decide_eq_true HY.out).symm, HB5.out⟩
         ·have HN := Lib.hid (show ¬ RightEv ev from fun hr => hv0 (by rcases hr.2.2.2.2.2 with h | h | h; omega; exact h.2.2; omega))
          have hvb : (ev.value == 0) = false := beq_eq_false_iff_ne.2 hv0
          clear hpr
          go_wp2_with fail
          go_ret
          exact ⟨retB (decide_eq_false HN.out).symm, HB5.out⟩
       ·by_cases k3 : ev.kind = 3
        ·cases bz with
         | false =>
          have HN := Lib.hid (show ¬ RightEv ev from fun hr => (of_decide_eq_false HZ.out) (by rcases hr.2.2.2.2.2 with h | h | h; omega; omega; exact h.2.1))
          go_wp2_with fail
          go_ret
          exact ⟨retB (decide_eq_false HN.out).symm, HB4.out⟩
         | true =>
          by_cases hv0 : ev.value = 0
          ·have HY := Lib.hid (show RightEv ev from ⟨HMY.out, HT.out, HW.out, hL, HRB.out, .inr (.inr ⟨k3, of_decide_eq_true HZ.out, hv0⟩)⟩)
           go_wp2_with fail
           go_ret
           exact ⟨retB (decide_eq_true HY.out).symm, HB4.out⟩
          ·have HN := Lib.hid (show ¬ RightEv ev from fun hr => hv0 (by rcases hr.2.2.2.2.2 with h | h | h; omega; omega; exact h.2.2))
           have hvb : (ev.value == 0) = false := beq_eq_false_iff_ne.2 hv0
           go_wp2_with fail
           go_ret
           exact ⟨retB (decide_eq_false HN.out).symm, HB4.out⟩
        ·have HN := Lib.hid (show ¬ RightEv ev from fun hr => by rcases hr.2.2.2.2.2 with h | h | h <;> omega)
         go_wp2_with fail
         go_ret
         exact ⟨retB (decide_eq_false HN.out).symm, HB4.out⟩
    ·have hLz : ¬ (ev.rem.length : Int) ≤ 96 := by omega
     have HN := Lib.hid (show ¬ RightEv ev from fun hr => hL hr.2.2.2.1)
     clear hT hW hL
     go_wp2_with (go_at_call 87; refine (evWithin_inB _ _ _ (by omega) _).mono ?_; rintro e w' ⟨rfl, rfl⟩)
     go_ret
     exact ⟨retB (decide_eq_false HN.out).symm, HB2.out.alloc HB2.out.size _⟩
   ·have bW := inB_no hW
    have HN := Lib.hid (show ¬ RightEv ev from fun hr => hW hr.2.2.1)
    clear hT hW
    go_wp2_with (go_at_call 87; refine (evWithin_inB _ _ _ (by omega) _).mono ?_; rintro e w' ⟨rfl, rfl⟩)
    go_ret
    exact ⟨retB (decide_eq_false HN.out).symm, HB2.out.alloc HB2.out.size _⟩
  ·have bT := inB_no hT
   have HN := Lib.hid (show ¬ RightEv ev from fun hr => hT hr.2.1)
   clear hT
   go_wp2_with (go_at_call 87; refine (evWithin_inB _ _ _ (by omega) _).mono ?_; rintro e w' ⟨rfl, rfl⟩)
   go_ret
   exact ⟨retB (decide_eq_false HN.out).symm, HB2.out.alloc HB2.out.size _⟩
 ·rw [if_neg hm] at hc
  subst hc
  have HNM := Lib.hid hm
  clear hm hrow2
  go_wp2_with fail
  go_ret
  exact ⟨retB (decide_eq_false fun hr => HNM.out hr.1).symm, HB2.out.alloc HB2.out.size _⟩
end Go.Proofs.YtenkfnhcdfmkaaaGreat
