/-
  The document's own reckoning of a set of dots: May, Before, Right walked.
-/
import Derived.Test.YtkdjfoehpioghaaDotList
namespace Go.Proofs.Ytkdjfoehpioghaa
open Go.Shelf Go.RowKit Go.Lib Go.Sort
set_option linter.unusedVariables false
theorem mayR_any (d : Dot) (w : World) : Calls Try.prog 42 #[.agg #[.int .i64 d.node, .int .i64 d.seq]] w fun e w' => e = .returned (.bool (mayB d)) ∧ Grew w w' := by
  by_cases h1 : 0 ≤ d.node
  · by_cases h2 : d.node < 8
    · by_cases h3 : 1 ≤ d.seq
      · by_cases h4 : d.seq ≤ 96
        · have hm : mayB d = true := decide_eq_true ⟨h1, h2, h3, h4⟩
          rw [hm]; clear hm
          go_enter Try.func42, Try.ntmps42
          go_wp2_with fail
          go_ret
          exact ⟨rfl, (Grew.refl _).alloc _⟩
        · have hm : mayB d = false := decide_eq_false fun h => h4 h.2.2.2
          rw [hm]; clear hm
          go_enter Try.func42, Try.ntmps42
          go_wp2_with fail
          go_ret
          exact ⟨rfl, (Grew.refl _).alloc _⟩
      · have hm : mayB d = false := decide_eq_false fun h => h3 h.2.2.1
        rw [hm]; clear hm
        go_enter Try.func42, Try.ntmps42
        go_wp2_with fail
        go_ret
        exact ⟨rfl, (Grew.refl _).alloc _⟩
    · have hm : mayB d = false := decide_eq_false fun h => h2 h.2.1
      rw [hm]; clear hm
      go_enter Try.func42, Try.ntmps42
      go_wp2_with fail
      go_ret
      exact ⟨rfl, (Grew.refl _).alloc _⟩
  · have hm : mayB d = false := decide_eq_false fun h => h1 h.1
    rw [hm]; clear hm
    go_enter Try.func42, Try.ntmps42
    go_wp2_with fail
    go_ret
    exact ⟨rfl, (Grew.refl _).alloc _⟩
theorem beforeR_any (a b : Dot) (w : World) :
    Calls Try.prog 51 #[.agg #[.int .i64 a.node, .int .i64 a.seq], .agg #[.int .i64 b.node, .int .i64 b.seq]] w fun e w' => e = .returned (.bool (dotLt a b)) ∧ Grew w w' := by
  have hx : Hid (dotLt a b = decide (a.node < b.node ∨ (a.node = b.node ∧ a.seq < b.seq))) := rfl
  by_cases h1 : a.node < b.node
  · have hb : Hid (dotLt a b = true) := by show _ = _; rw [hx.out]; exact decide_eq_true (.inl h1)
    go_enter Try.func51, Try.ntmps51
    go_wp2
    go_ret
    exact ⟨retB hb.out.symm, ((Grew.refl _).alloc _).alloc _⟩
  · by_cases h2 : a.node = b.node
    · have hb : Hid (dotLt a b = decide (a.seq < b.seq)) := by show _ = _; rw [hx.out]; exact decide_eq_decide.2 ⟨fun h => by omega, fun h => .inr ⟨h2, h⟩⟩
      have h3 : (a.node == b.node) = true := beq_iff_eq.2 h2
      have H2 := Lib.hid h2
      have h4 : a.node ≤ b.node := by omega
      have h5 : b.node ≤ a.node := by omega
      clear h2
      go_enter Try.func51, Try.ntmps51
      go_wp2
      all_goals go_ret
      all_goals exact ⟨retB (by rw [hb.out]; try rfl), ((Grew.refl _).alloc _).alloc _⟩
    · have hb : Hid (dotLt a b = false) := by show _ = _; rw [hx.out]; exact decide_eq_false (fun h => by omega)
      have h3 : (a.node == b.node) = false := beq_eq_false_iff_ne.2 h2
      go_enter Try.func51, Try.ntmps51
      go_wp2
      go_ret
      exact ⟨retB hb.out.symm, ((Grew.refl _).alloc _).alloc _⟩
theorem run_index8' (u : Nat → Int) (n : Nat) (hn : n < 8) (w : World) : (Instr.index 22 (.agg #[.int .i64 (u 0), .int .i64 (u 1), .int .i64 (u 2), .int .i64 (u 3), .int .i64 (u 4), .int .i64 (u 5), .int .i64 (u 6), .int .i64 (u 7)]) (.int .i64 n)).run Try.prog w = .ok (.int .i64 (u n)) w := run_index8 u n hn w
set_option maxHeartbeats 8000000 in
theorem refRight_any (s : DSet) (oa : Option Addr) (cap : Nat) (w : World) (h : SlAt Dot.cells w (.slice oa s.more.length cap) s.more) (hl : s.more.length ≤ 1000000) :
    Calls Try.prog 41 #[.agg #[.int .i64 (s.u 0), .int .i64 (s.u 1), .int .i64 (s.u 2), .int .i64 (s.u 3), .int .i64 (s.u 4), .int .i64 (s.u 5), .int .i64 (s.u 6), .int .i64 (s.u 7), .slice oa s.more.length cap]] w fun e w' => e = .returned (.bool s.rightB) ∧ Below w.heap.size w w' := by
  have hrow : (w.alloc (.cells (setObj s.u (.slice oa s.more.length cap)) 25)).heap[w.heap.size]? = some (.cells (setObj s.u (.slice oa s.more.length cap)) 25) := heap_alloc_new w _
  have HB1 := Lib.hid ((Below.refl w.heap.size w).alloc (Nat.le_refl _) (.cells (setObj s.u (.slice oa s.more.length cap)) 25))
  have HSL1 := Lib.hid (h.below Dot.cells_len (by decide) ((Below.refl _ _).alloc (Nat.le_refl _) (.cells (setObj s.u (.slice oa s.more.length cap)) 25)) (Nat.le_refl _))
  have hsblt : w.heap.size < (w.alloc (.cells (setObj s.u (.slice oa s.more.length cap)) 25)).heap.size := by rw [World.size_alloc]; exact Nat.lt_succ_self _
  have hm := set_more (u := s.u) hrow
  have HROW1 := Lib.hid hrow
  have hidx := fun n (hn : n < 8) => run_index8 s.u n hn
  have HIDX := Lib.hid hidx
  clear hrow h hidx
  unfold setObj at HB1 HSL1 hsblt hm HROW1
  go_enter Try.func41, Try.ntmps41
  go_wp2_with fail
  generalize w.alloc (.cells #[.int .i64 (s.u 0), .int .i64 (s.u 1), .int .i64 (s.u 2), .int .i64 (s.u 3), .int .i64 (s.u 4), .int .i64 (s.u 5), .int .i64 (s.u 6), .int .i64 (s.u 7), .slice oa s.more.length cap] 25) = w1 at *
  go_loopg [4, 9] 8 (fun gk s4 s9 wr => ∃ (i : Nat), s9 = .int .i64 i ∧ i ≤ 8 ∧ 8 - i ≤ gk ∧ Hid (∀ n, n < i → 0 ≤ s.u n ∧ s.u n ≤ 96) ∧ Hid (Below w1.heap.size w1 wr))
  case atStart => exact ⟨0, rfl, by omega, by omega, fun n hn => absurd hn (Nat.not_lt_zero _), Below.refl _ _⟩
  case round =>
    obtain ⟨i, rfl, hi, hg, HU, HW⟩ := hrel
    by_cases hlt : i < 8
    · have hltz : (i : Int) < 8 := by omega
      have hx := fun W => HIDX.out i hlt W
      obtain ⟨un, hun⟩ : ∃ un, s.u i = un := ⟨_, rfl⟩
      simp only [hun] at hx
      have HUN := Lib.hid hun
      clear hun
      by_cases h1 : un < 0
      · have hw : s.rightB = false := DSet.rightB_false fun hr => by have := (hr.1 i hlt).1; rw [HUN.out] at this; omega
        have HRB := Lib.hid hw
        have HBW : Hid (Below w.heap.size w wr) := HB1.out.trans (HW.out.mono HB1.out.size)
        clear hw
        go_wp2_with fail
        go_ret
        exact ⟨retB HRB.out.symm, HBW.out⟩
      · by_cases h2 : 96 < un
        · have hw : s.rightB = false := DSet.rightB_false fun hr => by have := (hr.1 i hlt).2; rw [HUN.out] at this; omega
          have HRB := Lib.hid hw
          have HBW : Hid (Below w.heap.size w wr) := HB1.out.trans (HW.out.mono HB1.out.size)
          clear hw
          go_wp2_with fail
          go_ret
          exact ⟨retB HRB.out.symm, HBW.out⟩
        · go_wp2_with fail
          go_roundg (8 - (i + 1))
          case measure => omega
          case rel => exact ⟨i + 1, by go_num, by omega, Nat.le_refl _, fun n hn => by
            by_cases e : n = i
            · rw [e, HUN.out]; omega
            · exact HU.out n (by omega), HW.out⟩
    · have hltz : ¬ (i : Int) < 8 := by omega
      obtain rfl : i = 8 := by omega
      have HC : Hid ((upList s.u).any outB = false) := (upList_any s.u).2 HU.out
      have hm2 := set_more (u := s.u) ((HW.out.block _ hsblt).trans HROW1.out)
      clear hm
      by_cases hlen : 768 < s.more.length
      · have hw : s.rightB = false := DSet.rightB_false fun hr => by have := hr.2.1; omega
        have HRB := Lib.hid hw
        have hlz : (768 : Int) < (s.more.length : Int) := by omega
        clear hw
        go_wp2_with fail
        go_ret
        exact ⟨retB HRB.out.symm, HB1.out.trans (HW.out.mono HB1.out.size)⟩
      · have hlz : ¬ (768 : Int) < (s.more.length : Int) := by omega
        go_wp2_with fail
        go_loopg [26] s.more.length (fun gk s26 wr => ∃ (i : Nat), s26 = .int .i64 i ∧ i ≤ s.more.length ∧ s.more.length - i ≤ gk ∧ Hid (RightTo s i) ∧ Hid (Below w1.heap.size w1 wr))
        case atStart => exact ⟨0, rfl, Nat.zero_le _, Nat.le_refl _, rightTo_zero s, HW.out⟩
        case round =>
          obtain ⟨i, rfl, hi, hg, HP, HB⟩ := hrel
          clear hm2
          by_cases hlt : i < s.more.length
          · have hltz : (i : Int) < (s.more.length : Int) := by omega
            have hsl := HSL1.out.below Dot.cells_len (by decide) HB.out (Nat.le_refl _)
            obtain ⟨b, off, rfl⟩ := hsl.plain Dot.cells_len (by decide) (by intro e; rw [e] at hlt; exact absurd hlt (by simp))
            have c0 := hsl.cell Dot.cells_len (i := i) (c := 0) hlt (by decide)
            have c1 := hsl.cell Dot.cells_len (i := i) (c := 1) hlt (by decide)
            have hprev : ∀ hz : 0 < i, wr.cell? ⟨b, off + (i - 1) * 2, none⟩ = some (.int .i64 (s.more[i - 1]'(by omega)).node) ∧ wr.cell? ⟨b, off + (i - 1) * 2 + 1, none⟩ = some (.int .i64 (s.more[i - 1]'(by omega)).seq) := fun hz => by
              have k0 := hsl.cell Dot.cells_len (i := i - 1) (c := 0) (by omega) (by decide)
              have k1 := hsl.cell Dot.cells_len (i := i - 1) (c := 1) (by omega) (by decide)
              exact ⟨k0, k1⟩
            replace c0 : wr.cell? ⟨b, off + i * 2, none⟩ = some (.int .i64 s.more[i].node) := c0
            replace c1 : wr.cell? ⟨b, off + i * 2 + 1, none⟩ = some (.int .i64 s.more[i].seq) := c1
            have hrow := (HB.out.block _ hsblt).trans HROW1.out
            have hstep := rightTo_step HP.out hlt
            have hprevMay : ∀ hz : 0 < i, May (s.more[i - 1]'(by omega)) := fun hz => (HP.out.1 _ (List.mem_take_iff_getElem.2 ⟨i - 1, by omega, rfl⟩)).1
            have hright : ∀ hr : s.Right, May s.more[i] ∧ 2 ≤ s.more[i].seq - s.u s.more[i].node.toNat ∧ ∀ hz : 0 < i, Before (s.more[i - 1]'(by omega)) s.more[i] := fun hr => ⟨(hr.2.2.1 _ (List.getElem_mem hlt)).1, (hr.2.2.1 _ (List.getElem_mem hlt)).2, fun hz => right_prev hr hz hlt⟩
            have hub := (upList_any s.u).1 HC.out
            generalize s.more[i] = d at *
            have hmx : Try.prog.follows .mixedOrders = true := by kernel_rfl
            have hblt : b < wr.heap.size := World.block_lt_of_cell? wr _ c0
            have hslt : w.heap.size < wr.heap.size := (Array.getElem?_eq_some_iff.1 hrow).1
            have HBA := Lib.hid ((Below.refl wr.heap.size wr).alloc (Nat.le_refl _) (.cells #[.int .i64 d.node, .int .i64 d.seq] 77))
            have hnew : (wr.alloc (.cells #[.int .i64 d.node, .int .i64 d.seq] 77)).heap[wr.heap.size]? = some (.cells #[.int .i64 d.node, .int .i64 d.seq] 77) := heap_alloc_new wr _
            have hrowA := (HBA.out.block _ hslt).trans hrow
            have hprevA : ∀ hz : 0 < i, (wr.alloc (.cells #[.int .i64 d.node, .int .i64 d.seq] 77)).cell? ⟨b, off + (i - 1) * 2, none⟩ = some (.int .i64 (s.more[i - 1]'(by omega)).node) ∧ (wr.alloc (.cells #[.int .i64 d.node, .int .i64 d.seq] 77)).cell? ⟨b, off + (i - 1) * 2 + 1, none⟩ = some (.int .i64 (s.more[i - 1]'(by omega)).seq) := fun hz => ⟨(HBA.out.cell hblt).trans (hprev hz).1, (HBA.out.cell hblt).trans (hprev hz).2⟩
            have hltA : wr.heap.size < (wr.alloc (.cells #[.int .i64 d.node, .int .i64 d.seq] 77)).heap.size := by simp
            have HPRE := Lib.hid hprevA
            have HPM := Lib.hid hprevMay
            have HSTEP := Lib.hid hstep
            have HRIGHT := Lib.hid hright
            have HUB := Lib.hid hub
            clear hsl hrow hprev hprevA hprevMay hstep hright hub HP
            go_wp2_with fail
            have HBW := Lib.hid (HB.out.trans (HBA.out.mono HB.out.size))
            have hmay := fun n os => mayR_any d (grow ((wr.alloc (.cells #[.int .i64 d.node, .int .i64 d.seq] 77)).drewN n) os)
            generalize wr.alloc (.cells #[.int .i64 d.node, .int .i64 d.seq] 77) = W at *
            generalize wr.heap.size = db at *
            have sbW : w.heap.size < W.heap.size := by omega
            have bW : b < W.heap.size := by omega
            have d0 : ∀ n os, (grow (W.drewN n) os).cell? ⟨db, 0, none⟩ = some (.int .i64 d.node) := cell_grown (o := 0) hltA (cell_of_row W db 0 _ _ _ hnew)
            have d1 : ∀ n os, (grow (W.drewN n) os).cell? ⟨db, 1, none⟩ = some (.int .i64 d.seq) := cell_grown (o := 1) hltA (cell_of_row W db 1 _ _ _ hnew)
            have m0 := cell_grown (o := 8) sbW (set_more (u := s.u) hrowA)
            by_cases hm : May d
            · have hmb : mayB d = true := decide_eq_true hm
              rw [hmb] at hmay
              have HMAY := Lib.hid hmay
              obtain ⟨h1, h2, h3, h4⟩ := hm
              have hu := HUB.out d.node.toNat (by omega)
              have u0 := cell_grown (o := d.node.toNat) sbW (set_up (u := s.u) hrowA d.node.toNat (by omega))
              have hnodez : ((d.node.toNat : Nat) : Int) = d.node := Int.toNat_of_nonneg h1
              by_cases h5 : 2 ≤ d.seq - s.u d.node.toNat
              · generalize hux : s.u d.node.toNat = ux at *
                obtain ⟨df, hdf⟩ : ∃ df, ux + 1 = df := ⟨_, rfl⟩
                have hwr : IntKind.i64.wrap df = df := IntWalk.i64_in _ (by omega)
                have h5n : ¬ d.seq ≤ df := by omega
                have H5 := Lib.hid h5
                clear h5
                by_cases hz : 0 < i
                · have hzb : decide (0 < i) = true := decide_eq_true hz
                  have hpi : i - 1 < s.more.length := by omega
                  obtain ⟨p0, p1⟩ := HPRE.out hz
                  have hpm := HPM.out hz
                  have hstep2 := fun (h6 : Before (s.more[i - 1]'hpi) d) => HSTEP.out ⟨h1, h2, h3, h4⟩ H5.out (fun _ => h6)
                  have hright2 : ¬ Before (s.more[i - 1]'hpi) d → ¬ s.Right := fun h6 hr => h6 ((HRIGHT.out hr).2.2 hz)
                  have hcmp := fun n os => beforeR_any (s.more[i - 1]'hpi) d (grow (W.drewN n) os)
                  obtain ⟨cv, hcv⟩ : ∃ cv, dotLt (s.more[i - 1]'hpi) d = cv := ⟨_, rfl⟩
                  simp only [hcv] at hcmp
                  have hcn : cv = true ↔ Before (s.more[i - 1]'hpi) d := by rw [← hcv]; exact decide_eq_true_iff
                  clear hcv
                  generalize s.more[i - 1]'hpi = pd at *
                  obtain ⟨p, hp⟩ : ∃ p, i - 1 = p := ⟨_, rfl⟩
                  rw [hp] at p0 p1 hpi
                  have hsub : (i : Int) - 1 = (p : Int) := by omega
                  have hwp : IntKind.i64.wrap (p : Int) = (p : Int) := IntWalk.i64_in _ (by omega)
                  have hplt : (p : Int) < (s.more.length : Int) := by omega
                  have q0 := cell_grown bW p0
                  have q1 := cell_grown bW p1
                  have HCMP := Lib.hid hcmp
                  clear hmay hcmp hnew hrowA HSTEP HRIGHT HUB HPRE HPM H5 hux hz hpm p0 p1 hp
                  by_cases h6 : Before pd d
                  · obtain rfl := hcn.2 h6
                    have HST := Lib.hid (hstep2 h6)
                    clear hstep2 hright2 h6 hcn
                    refine wp_region_quiet_grown (by assumption) (by kernel_rfl) ?_
                    repeat (go_big_quiet_step (first | (go_at_call 42; refine Calls.grown_of (HMAY.out _ _)) | (go_at_call 51; refine Calls.grown_of (HCMP.out _ _))))
                    refine wpQuiet_nil ?_
                    intro _ hw'
                    obtain ⟨⟨nq, osq⟩, hw''⟩ := hw'
                    subst hw''
                    go_wp2_with fail
                    go_roundg (s.more.length - (i + 1))
                    case measure => omega
                    case rel => exact ⟨i + 1, by go_num, by omega, Nat.le_refl _, HST.out, HBW.out.trans ((Grew.below ⟨nq, osq, rfl⟩).mono HBW.out.size)⟩
                  · obtain rfl : cv = false := by rw [← Bool.not_eq_true]; exact fun h => h6 (hcn.1 h)
                    have HNR := Lib.hid (hright2 h6)
                    clear hstep2 hright2 h6 hcn
                    refine wp_region_quiet_grown (by assumption) (by kernel_rfl) ?_
                    repeat (go_big_quiet_step (first | (go_at_call 42; refine Calls.grown_of (HMAY.out _ _)) | (go_at_call 51; refine Calls.grown_of (HCMP.out _ _))))
                    refine wpQuiet_nil ?_
                    intro _ hw'
                    obtain ⟨⟨nq, osq⟩, hw''⟩ := hw'
                    subst hw''
                    go_wp2_with fail
                    go_ret
                    exact ⟨retB (DSet.rightB_false HNR.out).symm, (HB1.out.trans ((HBW.out.trans ((Grew.below ⟨nq, osq, rfl⟩).mono HBW.out.size)).mono HB1.out.size))⟩
                · have hzb : decide (0 < i) = false := decide_eq_false hz
                  have HST := Lib.hid (HSTEP.out ⟨h1, h2, h3, h4⟩ H5.out (fun hz => by omega))
                  clear hmay hnew hrowA HSTEP HRIGHT HUB HPRE HPM H5 hux hz
                  refine wp_region_quiet_grown (by assumption) (by kernel_rfl) ?_
                  repeat (go_big_quiet_step (first | (go_at_call 42; refine Calls.grown_of (HMAY.out _ _))))
                  refine wpQuiet_nil ?_
                  intro _ hw'
                  obtain ⟨⟨nq, osq⟩, hw''⟩ := hw'
                  subst hw''
                  go_wp2_with fail
                  go_roundg (s.more.length - (i + 1))
                  case measure => omega
                  case rel => exact ⟨i + 1, by go_num, by omega, Nat.le_refl _, HST.out, HBW.out.trans ((Grew.below ⟨nq, osq, rfl⟩).mono HBW.out.size)⟩
              · have HNR := Lib.hid (fun hr : s.Right => h5 (HRIGHT.out hr).2.1)
                generalize s.u d.node.toNat = ux at *
                obtain ⟨df, hdf⟩ : ∃ df, ux + 1 = df := ⟨_, rfl⟩
                have hwr : IntKind.i64.wrap df = df := IntWalk.i64_in _ (by omega)
                have h5n : d.seq ≤ df := by omega
                clear hmay hnew hrowA HSTEP HRIGHT HUB HPRE HPM h5
                refine wp_region_quiet_grown (by assumption) (by kernel_rfl) ?_
                repeat (go_big_quiet_step (first | (go_at_call 42; refine Calls.grown_of (HMAY.out _ _))))
                refine wpQuiet_nil ?_
                intro _ hw'
                obtain ⟨⟨nq, osq⟩, hw''⟩ := hw'
                subst hw''
                go_wp2_with fail
                go_ret
                exact ⟨retB (DSet.rightB_false HNR.out).symm, (HB1.out.trans ((HBW.out.trans ((Grew.below ⟨nq, osq, rfl⟩).mono HBW.out.size)).mono HB1.out.size))⟩
            · have hmb : mayB d = false := decide_eq_false hm
              rw [hmb] at hmay
              have HMAY := Lib.hid hmay
              have HNR := Lib.hid (fun hr : s.Right => hm (HRIGHT.out hr).1)
              clear hmay hnew hrowA HSTEP HRIGHT HUB HPRE HPM hm
              refine wp_region_quiet_grown (by assumption) (by kernel_rfl) ?_
              repeat (go_big_quiet_step (first | (go_at_call 42; refine Calls.grown_of (HMAY.out _ _))))
              refine wpQuiet_nil ?_
              intro _ hw'
              obtain ⟨⟨nq, osq⟩, hw''⟩ := hw'
              subst hw''
              go_wp2_with fail
              go_ret
              exact ⟨retB (DSet.rightB_false HNR.out).symm, (HB1.out.trans ((HBW.out.trans ((Grew.below ⟨nq, osq, rfl⟩).mono HBW.out.size)).mono HB1.out.size))⟩
          · have hltz : ¬ (i : Int) < (s.more.length : Int) := by omega
            obtain rfl : i = s.more.length := by omega
            go_wp2_with fail
            go_ret
            exact ⟨retB (DSet.rightB_true (rightTo_done HP.out HC.out (by omega))).symm, HB1.out.trans (HB.out.mono HB1.out.size)⟩
end Go.Proofs.Ytkdjfoehpioghaa
