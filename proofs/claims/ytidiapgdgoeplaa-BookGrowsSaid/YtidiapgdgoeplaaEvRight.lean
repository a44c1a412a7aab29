/-
  event.named and event.Right walked: whether an event may be.
-/
import Derived.Test.YtidiapgdgoeplaaDotAdd
import Derived.Test.YtidiapgdgoeplaaBookP
namespace Go.Proofs.Ytidiapgdgoeplaa
open Go.Shelf Go.RowKit Go.Lib Go.Sort
set_option linter.unusedVariables false
def NamedTo (own : Dot) (l : List Dot) (i : Nat) : Prop := RemRight own (l.take i)
theorem namedTo_zero (own : Dot) (l : List Dot) : NamedTo own l 0 := ⟨fun d hd => by simp at hd, by simp⟩
theorem namedTo_step {own : Dot} {l : List Dot} {i : Nat} (h : NamedTo own l i) (hi : i < l.length) (h1 : May l[i]) (h2 : l[i] ≠ own) (h3 : ∀ hz : 0 < i, Before (l[i - 1]'(by omega)) l[i]) : NamedTo own l (i + 1) := by
  unfold NamedTo RemRight at *
  rw [List.take_succ_eq_append_getElem hi]
  refine ⟨fun d hd => ?_, List.pairwise_append.2 ⟨h.2, List.pairwise_singleton _ _, fun x hx y hy => ?_⟩⟩
  · rcases List.mem_append.1 hd with hd | hd
    · exact h.1 d hd
    · obtain rfl : d = l[i] := by simpa using hd
      exact ⟨h1, h2⟩
  · obtain rfl : y = l[i] := by simpa using hy
    obtain ⟨j, hj, rfl⟩ := List.mem_iff_getElem.1 hx
    have hji : j < i := by rw [List.length_take] at hj; omega
    rw [List.getElem_take]
    have h4 := h3 (by omega)
    by_cases e : j = i - 1
    · subst e; exact h4
    · refine Before.trans ?_ h4
      have := List.pairwise_iff_getElem.1 h.2 j (i - 1) hj (by rw [List.length_take]; omega) (by omega)
      rwa [List.getElem_take, List.getElem_take] at this
theorem run_eql_dot (a b : Dot) (w : World) : (binOp .eql 28 (.agg #[.int .i64 a.node, .int .i64 a.seq]) (.agg #[.int .i64 b.node, .int .i64 b.seq])).run Try.prog w = .ok (.bool (a.node == b.node && a.seq == b.seq)) w := by
  go_simp
  by_cases h1 : a.node = b.node
  · by_cases h2 : a.seq = b.seq <;> simp [h1, h2]
  · simp [h1]
def remB (own : Dot) (l : List Dot) : Bool := decide (RemRight own l)
theorem empty_has (d : Dot) : hasB DSet.none d = false := by
  unfold hasB
  rw [DSet.grid_none]
  rfl
/-- a dot added to the empty set: what Add answers -/
theorem addNone_any (d : Dot) (w : World) : Calls Try.prog 18 #[.agg #[.int .i64 0, .int .i64 0, .int .i64 0, .int .i64 0, .int .i64 0, .int .i64 0, .int .i64 0, .int .i64 0, .slice none 0 0], .agg #[.int .i64 d.node, .int .i64 d.seq]] w
    fun e w' => ∃ (u : Nat → Int) (v : Hdr) (c : Int), e = .returned (.tuple #[.agg #[.int .i64 (u 0), .int .i64 (u 1), .int .i64 (u 2), .int .i64 (u 3), .int .i64 (u 4), .int .i64 (u 5), .int .i64 (u 6), .int .i64 (u 7), .slice v.a v.n v.c], .int .i64 c]) ∧ c = (if May d then 0 else 2) ∧ Below w.heap.size w w' := by
  refine (add_any none 0 DSet.none d w (SlAt.nil _ _) (by decide)).mono ?_
  rintro e w' ⟨⟨o2, n2, c2⟩, t, c, rfl, _, hb, hc⟩
  refine ⟨t.u, ⟨o2, n2, c2⟩, c, rfl, ?_, hb⟩
  rcases hc with ⟨h1, h2, _⟩ | ⟨_, h2, _⟩ | ⟨h1, _, h2, _⟩
  · rw [if_neg h1, h2]
  · rw [empty_has] at h2; cases h2
  · rw [if_pos h1, h2]
set_option maxHeartbeats 8000000 in
theorem named_any (own : Dot) (oa : Option Addr) (cap : Nat) (l : List Dot) (w : World) (h : SlAt Dot.cells w (.slice oa l.length cap) l) (hl : l.length ≤ 1000000) :
    Calls Try.prog 44 #[.agg #[.int .i64 own.node, .int .i64 own.seq], .slice oa l.length cap] w fun e w' => e = .returned (.bool (remB own l)) ∧ Below w.heap.size w w' := by
  have hb2 := ((Below.refl w.heap.size w).alloc (Nat.le_refl _) (.cells #[.int .i64 own.node, .int .i64 own.seq] 28)).alloc (by simp) (.cells #[.int .i64 0, .int .i64 0, .int .i64 0, .int .i64 0, .int .i64 0, .int .i64 0, .int .i64 0, .int .i64 0, .slice none 0 0] 42)
  have hr0 : ((w.alloc (.cells #[.int .i64 own.node, .int .i64 own.seq] 28)).alloc (.cells #[.int .i64 0, .int .i64 0, .int .i64 0, .int .i64 0, .int .i64 0, .int .i64 0, .int .i64 0, .int .i64 0, .slice none 0 0] 42)).heap[w.heap.size]? = some (.cells #[.int .i64 own.node, .int .i64 own.seq] 28) := by
    rw [Below.heap_alloc _ _ _ (by simp), heap_alloc_new]
  have hr1 : ((w.alloc (.cells #[.int .i64 own.node, .int .i64 own.seq] 28)).alloc (.cells #[.int .i64 0, .int .i64 0, .int .i64 0, .int .i64 0, .int .i64 0, .int .i64 0, .int .i64 0, .int .i64 0, .slice none 0 0] 42)).heap[w.heap.size + 1]? = some (.cells #[.int .i64 0, .int .i64 0, .int .i64 0, .int .i64 0, .int .i64 0, .int .i64 0, .int .i64 0, .int .i64 0, .slice none 0 0] 42) := by
    have := heap_alloc_new (w.alloc (.cells #[.int .i64 own.node, .int .i64 own.seq] 28)) (.cells #[.int .i64 0, .int .i64 0, .int .i64 0, .int .i64 0, .int .i64 0, .int .i64 0, .int .i64 0, .int .i64 0, .slice none 0 0] 42)
    rwa [World.size_alloc] at this
  have HS := Lib.hid h
  have HB2 := Lib.hid hb2
  have HR0 := Lib.hid hr0
  have HR1 := Lib.hid hr1
  clear h hb2 hr0 hr1
  go_enter Try.func44, Try.ntmps44
  go_wp2_with fail
  generalize (w.alloc (.cells #[.int .i64 own.node, .int .i64 own.seq] 28)).alloc (.cells #[.int .i64 0, .int .i64 0, .int .i64 0, .int .i64 0, .int .i64 0, .int .i64 0, .int .i64 0, .int .i64 0, .slice none 0 0] 42) = w1 at *
  have hlt1 : w.heap.size + 1 < w1.heap.size := (Array.getElem?_eq_some_iff.1 HR1.out).1
  have hmx : Try.prog.follows .mixedOrders = true := by kernel_rfl
  go_loopg [13] l.length (fun gk s13 wr => ∃ (i : Nat), s13 = .int .i64 i ∧ i ≤ l.length ∧ l.length - i ≤ gk ∧ Hid (NamedTo own l i) ∧ Hid (Below w1.heap.size w1 wr))
  case atStart => exact ⟨0, rfl, Nat.zero_le _, Nat.le_refl _, namedTo_zero _ _, Below.refl _ _⟩
  case round =>
    obtain ⟨i, rfl, hi, hg, HP, HB⟩ := hrel
    by_cases hlt : i < l.length
    · have hltz : (i : Int) < (l.length : Int) := by omega
      have hbr := HB2.out.trans (HB.out.mono HB2.out.size)
      have hsl := HS.out.below Dot.cells_len (by decide) hbr (Nat.le_refl _)
      obtain ⟨b, off, rfl⟩ := hsl.plain Dot.cells_len (by decide) (by intro e; rw [e] at hlt; exact absurd hlt (by simp))
      have c0 : wr.cell? ⟨b, off + i * 2, none⟩ = some (.int .i64 l[i].node) := hsl.cell Dot.cells_len (i := i) (c := 0) hlt (by decide)
      have c1 : wr.cell? ⟨b, off + i * 2 + 1, none⟩ = some (.int .i64 l[i].seq) := hsl.cell Dot.cells_len (i := i) (c := 1) hlt (by decide)
      have hblt : b < wr.heap.size := World.block_lt_of_cell? wr _ c0
      have hrow0 := (HB.out.block _ (by omega)).trans HR0.out
      have hrow1 := (HB.out.block _ hlt1).trans HR1.out
      have hprev : ∀ hz : 0 < i, wr.cell? ⟨b, off + (i - 1) * 2, none⟩ = some (.int .i64 (l[i - 1]'(by omega)).node) ∧ wr.cell? ⟨b, off + (i - 1) * 2 + 1, none⟩ = some (.int .i64 (l[i - 1]'(by omega)).seq) := fun hz =>
        ⟨hsl.cell Dot.cells_len (i := i - 1) (c := 0) (by omega) (by decide), hsl.cell Dot.cells_len (i := i - 1) (c := 1) (by omega) (by decide)⟩
      have hstep := namedTo_step HP.out hlt
      have hright : ∀ hr : RemRight own l, May l[i] ∧ l[i] ≠ own ∧ ∀ hz : 0 < i, Before (l[i - 1]'(by omega)) l[i] := fun hr => ⟨(hr.1 _ (List.getElem_mem hlt)).1, (hr.1 _ (List.getElem_mem hlt)).2, fun hz => List.pairwise_iff_getElem.1 hr.2 (i - 1) i (by omega) hlt (by omega)⟩
      generalize l[i] = d at *
      have hbd := (Below.refl wr.heap.size wr).alloc (Nat.le_refl _) (.cells #[.int .i64 d.node, .int .i64 d.seq] 28)
      have hnew : (wr.alloc (.cells #[.int .i64 d.node, .int .i64 d.seq] 28)).heap[wr.heap.size]? = some (.cells #[.int .i64 d.node, .int .i64 d.seq] 28) := heap_alloc_new wr _
      have hszz := HB.out.size
      have hrow0' := (hbd.block _ (by omega)).trans hrow0
      have hrow1' := (hbd.block _ (by omega)).trans hrow1
      have hprev' : ∀ hz : 0 < i, (wr.alloc (.cells #[.int .i64 d.node, .int .i64 d.seq] 28)).cell? ⟨b, off + (i - 1) * 2, none⟩ = some (.int .i64 (l[i - 1]'(by omega)).node) ∧ (wr.alloc (.cells #[.int .i64 d.node, .int .i64 d.seq] 28)).cell? ⟨b, off + (i - 1) * 2 + 1, none⟩ = some (.int .i64 (l[i - 1]'(by omega)).seq) := fun hz => ⟨(hbd.cell hblt).trans (hprev hz).1, (hbd.cell hblt).trans (hprev hz).2⟩
      have hltA : wr.heap.size < (wr.alloc (.cells #[.int .i64 d.node, .int .i64 d.seq] 28)).heap.size := by simp
      have HBW := Lib.hid (HB.out.trans (hbd.mono HB.out.size))
      have HPRE := Lib.hid hprev'
      have HSTEP := Lib.hid hstep
      have HRIGHT := Lib.hid hright
      clear hsl hrow0 hrow1 hprev hprev' hstep hright HP hbd hbr
      go_wp2_with fail
      generalize wr.alloc (.cells #[.int .i64 d.node, .int .i64 d.seq] 28) = W at *
      generalize wr.heap.size = db at *
      have d0 : ∀ n os, (grow (W.drewN n) os).cell? ⟨db, 0, none⟩ = some (.int .i64 d.node) := cell_grown (o := 0) hltA (cell_of_row W db 0 _ _ _ hnew)
      have d1 : ∀ n os, (grow (W.drewN n) os).cell? ⟨db, 1, none⟩ = some (.int .i64 d.seq) := cell_grown (o := 1) hltA (cell_of_row W db 1 _ _ _ hnew)
      have o0 : ∀ n os, (grow (W.drewN n) os).cell? ⟨w.heap.size, 0, none⟩ = some (.int .i64 own.node) := cell_grown (o := 0) (by omega) (cell_of_row W w.heap.size 0 _ _ _ hrow0')
      have o1 : ∀ n os, (grow (W.drewN n) os).cell? ⟨w.heap.size, 1, none⟩ = some (.int .i64 own.seq) := cell_grown (o := 1) (by omega) (cell_of_row W w.heap.size 1 _ _ _ hrow0')
      have s0 := fun o v (h : (#[.int .i64 0, .int .i64 0, .int .i64 0, .int .i64 0, .int .i64 0, .int .i64 0, .int .i64 0, .int .i64 0, .slice none 0 0] : Array Value)[o]? = some v) => cell_grown (o := o) (v := v) (by omega) ((cell_of_row W (w.heap.size + 1) o _ _ _ hrow1').trans h)
      have g0 := s0 0 _ rfl
      have g1 := s0 1 _ rfl
      have g2 := s0 2 _ rfl
      have g3 := s0 3 _ rfl
      have g4 := s0 4 _ rfl
      have g5 := s0 5 _ rfl
      have g6 := s0 6 _ rfl
      have g7 := s0 7 _ rfl
      have g8 := s0 8 _ rfl
      have hadd := fun W' => addNone_any d W'
      have HADD := Lib.hid hadd
      clear s0 hadd
      have HROW1 := Lib.hid hrow1'
      have HNEW := Lib.hid hnew
      clear hnew hrow0' hrow1' c0 c1
      by_cases ho : d = own
      · subst ho
        have HNR := Lib.hid (fun hr : RemRight d l => (HRIGHT.out hr).2.1 rfl)
        clear HRIGHT HSTEP HPRE
        refine wp_region_quiet_grown (by assumption) (by kernel_rfl) ?_
        repeat (go_big_quiet_step (fail))
        refine wpQuiet_nil ?_
        intro _ hw'
        obtain ⟨⟨nq, osq⟩, hw''⟩ := hw'
        subst hw''
        go_wp2_with fail
        go_ret
        exact ⟨retB (decide_eq_false HNR.out).symm, HB2.out.trans ((HBW.out.trans ((Grew.below ⟨nq, osq, rfl⟩).mono HBW.out.size)).mono HB2.out.size)⟩
      · have hdo : (d.node == own.node && d.seq == own.seq) = false := by
          rw [Bool.and_eq_false_iff, beq_eq_false_iff_ne, beq_eq_false_iff_ne]
          by_cases e : d.node = own.node
          · exact .inr fun e2 => ho (by cases d; cases own; simp only at e e2; rw [e, e2])
          · exact .inl e
        have hqe := fun W => run_eql_dot d own W
        simp only [hdo] at hqe
        clear hdo
        by_cases hz : 0 < i
        · have hzb : decide (0 < i) = true := decide_eq_true hz
          have hpi : i - 1 < l.length := by omega
          obtain ⟨p0, p1⟩ := HPRE.out hz
          have hstep2 := fun (h1 : May d) (h6 : Before (l[i - 1]'hpi) d) => HSTEP.out h1 ho (fun _ => h6)
          have hright2 : RemRight own l → May d ∧ Before (l[i - 1]'hpi) d := fun hr => ⟨(HRIGHT.out hr).1, (HRIGHT.out hr).2.2 hz⟩
          generalize l[i - 1]'hpi = pd at *
          obtain ⟨p, hp⟩ : ∃ p, i - 1 = p := ⟨_, rfl⟩
          rw [hp] at p0 p1 hpi
          have hsub : (i : Int) - 1 = (p : Int) := by omega
          have hwp : IntKind.i64.wrap (p : Int) = (p : Int) := IntWalk.i64_in _ (by omega)
          have hplt : (p : Int) < (l.length : Int) := by omega
          have q0 := cell_grown (by omega) p0
          have q1 := cell_grown (by omega) p1
          have hbf := fun n os => before_any pd d (grow (W.drewN n) os)
          have HSTEP2 := Lib.hid hstep2
          have HRIGHT2 := Lib.hid hright2
          clear HSTEP HRIGHT HPRE hstep2 hright2 p0 p1 hp hz ho
          by_cases h6 : Before pd d
          · have hlt6 : dotLt pd d = true := (dotLt_iff pd d).2 h6
            rw [hlt6] at hbf
            have HBF := Lib.hid hbf
            have H6 := Lib.hid h6
            clear hbf h6 hlt6
            refine wp_region_quiet_grown (by assumption) (by kernel_rfl) ?_
            repeat (go_big_quiet_step (first | (go_at_call 54; refine Calls.grown_of (HBF.out _ _))))
            refine wpQuiet_nil ?_
            intro _ hw'
            obtain ⟨⟨nq, osq⟩, hw''⟩ := hw'
            subst hw''
            have HB5 := Lib.hid (HBW.out.trans ((Grew.below ⟨nq, osq, rfl⟩).mono HBW.out.size) : Below w1.heap.size w1 (grow (W.drewN nq) osq))
            go_wp2_with fail
            refine (HADD.out _).mono ?_
            rintro e w6 ⟨u6, ⟨o6, n6, c6⟩, c, rfl, hc, hb6⟩
            have HB6 := Lib.hid (HB5.out.trans (hb6.mono HB5.out.size))
            clear hb6 g0 g1 g2 g3 g4 g5 g6 g7 g8 d0 d1 o0 o1
            by_cases hm : May d
            · rw [if_pos hm] at hc
              subst hc
              have HST := Lib.hid (HSTEP2.out hm H6.out)
              clear hm
              go_wp2_with fail
              go_roundg (l.length - (i + 1))
              case measure => omega
              case rel => exact ⟨i + 1, by go_num, by omega, Nat.le_refl _, HST.out, HB6.out.alloc HB6.out.size _⟩
            · rw [if_neg hm] at hc
              subst hc
              have HNM := Lib.hid hm
              clear hm
              go_wp2_with fail
              go_ret
              exact ⟨retB (decide_eq_false fun hr => HNM.out ((HRIGHT2.out hr).1)).symm, HB2.out.trans ((HB6.out.alloc HB6.out.size _).mono HB2.out.size)⟩
          · have hlt6 : dotLt pd d = false := Bool.eq_false_iff.2 fun h => h6 ((dotLt_iff pd d).1 h)
            rw [hlt6] at hbf
            have HBF := Lib.hid hbf
            have H6 := Lib.hid h6
            clear hbf h6 hlt6
            refine wp_region_quiet_grown (by assumption) (by kernel_rfl) ?_
            repeat (go_big_quiet_step (first | (go_at_call 54; refine Calls.grown_of (HBF.out _ _))))
            refine wpQuiet_nil ?_
            intro _ hw'
            obtain ⟨⟨nq, osq⟩, hw''⟩ := hw'
            subst hw''
            go_wp2_with fail
            go_ret
            exact ⟨retB (decide_eq_false fun hr => H6.out (HRIGHT2.out hr).2).symm, HB2.out.trans ((HBW.out.trans ((Grew.below ⟨nq, osq, rfl⟩).mono HBW.out.size)).mono HB2.out.size)⟩
        · have hzb : decide (0 < i) = false := decide_eq_false hz
          have HST0 := Lib.hid (fun h1 : May d => HSTEP.out h1 ho (fun hz2 => absurd hz2 hz))
          have HRT := Lib.hid (fun hr : RemRight own l => (HRIGHT.out hr).1)
          clear HSTEP HRIGHT HPRE hz ho
          refine wp_region_quiet_grown (by assumption) (by kernel_rfl) ?_
          repeat (go_big_quiet_step (fail))
          refine wpQuiet_nil ?_
          intro _ hw'
          obtain ⟨⟨nq, osq⟩, hw''⟩ := hw'
          subst hw''
          have HB5 := Lib.hid (HBW.out.trans ((Grew.below ⟨nq, osq, rfl⟩).mono HBW.out.size) : Below w1.heap.size w1 (grow (W.drewN nq) osq))
          go_wp2_with fail
          refine (HADD.out _).mono ?_
          rintro e w6 ⟨u6, ⟨o6, n6, c6⟩, c, rfl, hc, hb6⟩
          have HB6 := Lib.hid (HB5.out.trans (hb6.mono HB5.out.size))
          clear hb6 g0 g1 g2 g3 g4 g5 g6 g7 g8 d0 d1 o0 o1
          by_cases hm : May d
          · rw [if_pos hm] at hc
            subst hc
            have HST := Lib.hid (HST0.out hm)
            clear hm
            go_wp2_with fail
            go_roundg (l.length - (i + 1))
            case measure => omega
            case rel => exact ⟨i + 1, by go_num, by omega, Nat.le_refl _, HST.out, HB6.out.alloc HB6.out.size _⟩
          · rw [if_neg hm] at hc
            subst hc
            have HNM := Lib.hid hm
            clear hm
            go_wp2_with fail
            go_ret
            exact ⟨retB (decide_eq_false fun hr => HNM.out (HRT.out hr)).symm, HB2.out.trans ((HB6.out.alloc HB6.out.size _).mono HB2.out.size)⟩
    · have hltz : ¬ (i : Int) < (l.length : Int) := by omega
      obtain rfl : i = l.length := by omega
      have hp := HP.out
      unfold NamedTo at hp
      rw [List.take_length] at hp
      have HP2 := Lib.hid hp
      clear hp HP
      go_wp2_with fail
      go_ret
      exact ⟨retB (decide_eq_true HP2.out).symm, HB2.out.trans (HB.out.mono HB2.out.size)⟩
end Go.Proofs.Ytidiapgdgoeplaa
