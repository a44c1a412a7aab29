/-
  dotset.Join, List and Count walked.
  The document's own reckoning of a set of dots: May, Before, Right walked.
  Whether an event may be: the reference's Right walked.
-/
import Derived.Test.YtejihgfigclppaaGreatMDotClose
import Derived.Test.YtejihgfigclppaaGreatMEvRight
namespace Go.Proofs.YtejihgfigclppaaGreat
open Go.Shelf Go.RowKit Go.Lib Go.Sort
set_option linter.unusedVariables false
end Go.Proofs.YtejihgfigclppaaGreat
namespace Go.Proofs.YtejihgfigclppaaGreat
open Go.Shelf Go.RowKit Go.Lib Go.Sort
set_option linter.unusedVariables false
theorem mayR_any (d : Dot) (w : World) : Calls Tryz.prog 91 #[.agg #[.int .i64 d.node, .int .i64 d.seq]] w fun e w' => e = .returned (.bool (mayB d)) ∧ Grew w w' := by
 by_cases h1 : 0 ≤ d.node
 ·by_cases h2 : d.node < 8
  ·by_cases h3 : 1 ≤ d.seq
   ·by_cases h4 : d.seq ≤ 96
    ·have hm : mayB d = true := decide_eq_true ⟨h1, h2, h3, h4⟩
     rw [hm]; clear hm
     go_enter Tryz.func91, Tryz.ntmps91
     go_wp2_with fail
     go_ret
     exact ⟨rfl, (Grew.refl _).alloc _⟩
    ·have hm : mayB d = false := decide_eq_false fun h => h4 h.2.2.2
     rw [hm]; clear hm
     go_enter Tryz.func91, Tryz.ntmps91
     go_wp2_with fail
     go_ret
     exact ⟨rfl, (Grew.refl _).alloc _⟩
   ·have hm : mayB d = false := decide_eq_false fun h => h3 h.2.2.1
    rw [hm]; clear hm
    go_enter Tryz.func91, Tryz.ntmps91
    go_wp2_with fail
    go_ret
    exact ⟨rfl, (Grew.refl _).alloc _⟩
  ·have hm : mayB d = false := decide_eq_false fun h => h2 h.2.1
   rw [hm]; clear hm
   go_enter Tryz.func91, Tryz.ntmps91
   go_wp2_with fail
   go_ret
   exact ⟨rfl, (Grew.refl _).alloc _⟩
 ·have hm : mayB d = false := decide_eq_false fun h => h1 h.1
  rw [hm]; clear hm
  go_enter Tryz.func91, Tryz.ntmps91
  go_wp2_with fail
  go_ret
  exact ⟨rfl, (Grew.refl _).alloc _⟩
theorem beforeR_any (a b : Dot) (w : World) :
  Calls Tryz.prog 92 #[.agg #[.int .i64 a.node, .int .i64 a.seq], .agg #[.int .i64 b.node, .int .i64 b.seq]] w fun e w' => e = .returned (.bool (dotLt a b)) ∧ Grew w w' := by
 have hx : Hid (dotLt a b = decide (a.node < b.node ∨ (a.node = b.node ∧ a.seq < b.seq))) := rfl
 by_cases h1 : a.node < b.node
 ·have hb : Hid (dotLt a b = true) := by show _ = _; rw [hx.out]; exact decide_eq_true (.inl h1)
  go_enter Tryz.func92, Tryz.ntmps92
  go_wp2
  go_ret
  exact ⟨retB hb.out.symm, ((Grew.refl _).alloc _).alloc _⟩
 ·by_cases h2 : a.node = b.node
  ·have hb : Hid (dotLt a b = decide (a.seq < b.seq)) := by show _ = _; rw [hx.out]; exact decide_eq_decide.2 ⟨fun h => by omega, fun h => .inr ⟨h2, h⟩⟩
   have h3 : (a.node == b.node) = true := beq_iff_eq.2 h2
   have H2 := Lib.hid h2
   have h4 : a.node ≤ b.node := by omega
   have h5 : b.node ≤ a.node := by omega
   clear h2
   go_enter Tryz.func92, Tryz.ntmps92
   go_wp2
   all_goals go_ret
   all_goals exact ⟨retB (by rw [hb.out]; try rfl), ((Grew.refl _).alloc _).alloc _⟩
  ·have hb : Hid (dotLt a b = false) := by show _ = _; rw [hx.out]; exact decide_eq_false (fun h => by omega)
   have h3 : (a.node == b.node) = false := beq_eq_false_iff_ne.2 h2
   go_enter Tryz.func92, Tryz.ntmps92
   go_wp2
   go_ret
   exact ⟨retB hb.out.symm, ((Grew.refl _).alloc _).alloc _⟩
set_option maxHeartbeats 8000000 in
theorem refRight_any (s : DSet) (oa : Option Addr) (cap : Nat) (w : World) (h : SlAt Dot.cells w (.slice oa s.more.length cap) s.more) (hl : s.more.length ≤ 1000000) :
  Calls Tryz.prog 56 #[.agg #[.int .i64 (s.u 0), .int .i64 (s.u 1), .int .i64 (s.u 2), .int .i64 (s.u 3), .int .i64 (s.u 4), .int .i64 (s.u 5), .int .i64 (s.u 6), .int .i64 (s.u 7), .slice oa s.more.length cap]] w fun e w' => e = .returned (.bool s.rightB) ∧ Below w.heap.size w w' := by
 have hrow : (w.alloc (.cells (setObj s.u (.slice oa s.more.length cap)) 105)).heap[w.heap.size]? = some (.cells (setObj s.u (.slice oa s.more.length cap)) 105) := heap_alloc_new w _
 have HB1 := Lib.hid ((Below.refl w.heap.size w).alloc (Nat.le_refl _) (.cells (setObj s.u (.slice oa s.more.length cap)) 105))
 have HSL1 := Lib.hid (h.below Dot.cells_len (by decide) ((Below.refl _ _).alloc (Nat.le_refl _) (.cells (setObj s.u (.slice oa s.more.length cap)) 105)) (Nat.le_refl _))
 have hsblt : w.heap.size < (w.alloc (.cells (setObj s.u (.slice oa s.more.length cap)) 105)).heap.size := by rw [World.size_alloc]; exact Nat.lt_succ_self _
 have hm := set_more (u := s.u) hrow
 have HROW1 := Lib.hid hrow
 have hidx := fun n (hn : n < 8) => run_index8 s.u n hn
 have HIDX := Lib.hid hidx
 clear hrow h hidx
 unfold setObj at HB1 HSL1 hsblt hm HROW1
 go_enter Tryz.func56, Tryz.ntmps56
 go_wp2_with fail
 generalize w.alloc (.cells #[.int .i64 (s.u 0), .int .i64 (s.u 1), .int .i64 (s.u 2), .int .i64 (s.u 3), .int .i64 (s.u 4), .int .i64 (s.u 5), .int .i64 (s.u 6), .int .i64 (s.u 7), .slice oa s.more.length cap] 105) = w1 at *
 go_loopg [4, 9] 8 (fun gk s4 s9 wr => ∃ (i : Nat), s9 = .int .i64 i ∧ i ≤ 8 ∧ 8 - i ≤ gk ∧ Hid (∀ n, n < i → 0 ≤ s.u n ∧ s.u n ≤ 96) ∧ Hid (Below w1.heap.size w1 wr))
 case atStart => exact ⟨0, rfl, by omega, by omega, fun n hn => absurd hn (Nat.not_lt_zero _), Below.refl _ _⟩
 case round =>
  obtain ⟨i, rfl, hi, hg, HU, HW⟩ := hrel
  by_cases hlt : i < 8
  ·have hltz : (i : Int) < 8 := by omega
   have hx := fun W => HIDX.out i hlt W
   obtain ⟨un, hun⟩ : ∃ un, s.u i = un := ⟨_, rfl⟩
   simp only [hun] at hx
   have HUN := Lib.hid hun
   clear hun
   by_cases h1 : un < 0
   ·have hw : s.rightB = false := DSet.rightB_false fun hr => by have := (hr.1 i hlt).1; rw [HUN.out] at this; omega
    have HRB := Lib.hid hw
    have HBW : Hid (Below w.heap.size w wr) := HB1.out.trans (HW.out.mono HB1.out.size)
    clear hw
    go_wp2_with fail
    go_ret
    exact ⟨retB HRB.out.symm, HBW.out⟩
   ·by_cases h2 : 96 < un
    ·have hw : s.rightB = false := DSet.rightB_false fun hr => by have := (hr.1 i hlt).2; rw [HUN.out] at this; omega
     have HRB := Lib.hid hw
     have HBW : Hid (Below w.heap.size w wr) := HB1.out.trans (HW.out.mono HB1.out.size)
     clear hw
     go_wp2_with fail
     go_ret
     exact ⟨retB HRB.out.symm, HBW.out⟩
    ·go_wp2_with fail
     go_roundg (8 - (i + 1))
     case measure => omega
     case rel => exact ⟨i + 1, by go_num, by omega, Nat.le_refl _, fun n hn => by
      by_cases e : n = i
      ·rw [e, HUN.out]; omega
      ·exact HU.out n (by omega), HW.out⟩
  ·have hltz : ¬ (i : Int) < 8 := by omega
   obtain rfl : i = 8 := by omega
   have HC : Hid ((upList s.u).any outB = false) := (upList_any s.u).2 HU.out
   have hm2 := set_more (u := s.u) ((HW.out.block _ hsblt).trans HROW1.out)
   clear hm
   by_cases hlen : 768 < s.more.length
   ·have hw : s.rightB = false := DSet.rightB_false fun hr => by have := hr.2.1; omega
    have HRB := Lib.hid hw
    have hlz : (768 : Int) < (s.more.length : Int) := by omega
    clear hw
    go_wp2_with fail
    go_ret
    exact ⟨retB HRB.out.symm, HB1.out.trans (HW.out.mono HB1.out.size)⟩
   ·have hlz : ¬ (768 : Int) < (s.more.length : Int) := by omega
    go_wp2_with fail
    go_loopg [26] s.more.length (fun gk s26 wr => ∃ (i : Nat), s26 = .int .i64 i ∧ i ≤ s.more.length ∧ s.more.length - i ≤ gk ∧ Hid (RightTo s i) ∧ Hid (Below w1.heap.size w1 wr))
    case atStart => exact ⟨0, rfl, Nat.zero_le _, Nat.le_refl _, rightTo_zero s, HW.out⟩
    case round =>
     obtain ⟨i, rfl, hi, hg, HP, HB⟩ := hrel
     clear hm2
     by_cases hlt : i < s.more.length
     ·have hltz : (i : Int) < (s.more.length : Int) := by omega
      have hsl := HSL1.out.below Dot.cells_len (by decide) HB.out (Nat.le_refl _)
      obtain ⟨b, off, rfl⟩ := hsl.plain Dot.cells_len (by decide) (by intro e; rw [e] at hlt; exact absurd hlt (by simp))
      have c0 := hsl.cell Dot.cells_len (i := i) (c := 0) hlt (by decide)
      have c1 := hsl.cell Dot.cells_len (i := i) (c := 1) hlt (by decide)
      have hprev : ∀ hz : 0 < i, wr.cell? ⟨b, off + (i - 1) * 2, none⟩ = some (.int .i64 (s.more[i - 1]'(by omega)).node) ∧ wr.cell? ⟨b, off + (i - 1) * 2 + 1, none⟩ = some (.int .i64 (s.more[i - 1]'(by omega)).seq) := fun hz => by
       have k0 := hsl.cell Dot.cells_len (i := i - 1) (c := 0) (by omega) (by decide)
       have k1 := hsl.cell Dot.cells_len (i := i - 1) (c := 1) (by omega) (by decide)
       exact ⟨k0, k1⟩
      replace c0 : wr.cell? ⟨b, off + i * 2, none⟩ = some (.int .i64 s.more[i].node) := c0
      replace c1 : wr.cell? ⟨b, off + i * 2 + 1, none⟩ = some (.int .i64 s.more[i].seq) := c1
      have hrow := (HB.out.block _ hsblt).trans HROW1.out
      have hstep := rightTo_step HP.out hlt
      have hprevMay : ∀ hz : 0 < i, May (s.more[i - 1]'(by omega)) := fun hz => (HP.out.1 _ (List.mem_take_iff_getElem.2 ⟨i - 1, by omega, rfl⟩)).1
      have hright : ∀ hr : s.Right, May s.more[i] ∧ 2 ≤ s.more[i].seq - s.u s.more[i].node.toNat ∧ ∀ hz : 0 < i, Before (s.more[i - 1]'(by omega)) s.more[i] := fun hr => ⟨(hr.2.2.1 _ (List.getElem_mem hlt)).1, (hr.2.2.1 _ (List.getElem_mem hlt)).2, fun hz => right_prev hr hz hlt⟩
      have hub := (upList_any s.u).1 HC.out
      generalize s.more[i] = d at *
      have hmx : Tryz.prog.follows .mixedOrders = true := by kernel_rfl
      have hblt : b < wr.heap.size := World.block_lt_of_cell? wr _ c0
      have hslt : w.heap.size < wr.heap.size := (Array.getElem?_eq_some_iff.1 hrow).1
      have HBA := Lib.hid ((Below.refl wr.heap.size wr).alloc (Nat.le_refl _) (.cells #[.int .i64 d.node, .int .i64 d.seq] 108))
      have hnew : (wr.alloc (.cells #[.int .i64 d.node, .int .i64 d.seq] 108)).heap[wr.heap.size]? = some (.cells #[.int .i64 d.node, .int .i64 d.seq] 108) := heap_alloc_new wr _
      have hrowA := (HBA.out.block _ hslt).trans hrow
      have hprevA : ∀ hz : 0 < i, (wr.alloc (.cells #[.int .i64 d.node, .int .i64 d.seq] 108)).cell? ⟨b, off + (i - 1) * 2, none⟩ = some (.int .i64 (s.more[i - 1]'(by omega)).node) ∧ (wr.alloc (.cells #[.int .i64 d.node, .int .i64 d.seq] 108)).cell? ⟨b, off + (i - 1) * 2 + 1, none⟩ = some (.int .i64 (s.more[i - 1]'(by omega)).seq) := fun hz => ⟨(HBA.out.cell hblt).trans (hprev hz).1, (HBA.out.cell hblt).trans (hprev hz).2⟩
      have hltA : wr.heap.size < (wr.alloc (.cells #[.int .i64 d.node, .int .i64 d.seq] 108)).heap.size := by simp
      have HPRE := Lib.hid hprevA
      have HPM := Lib.hid hprevMay
      have HSTEP := Lib.hid hstep
      have HRIGHT := Lib.hid hright
      have HUB := Lib.hid hub
      clear hsl hrow hprev hprevA hprevMay hstep hright hub HP
      go_wp2_with fail
      have HBW := Lib.hid (HB.out.trans (HBA.out.mono HB.out.size))
      have hmay := fun n os => mayR_any d (grow ((wr.alloc (.cells #[.int .i64 d.node, .int .i64 d.seq] 108)).drewN n) os)
      generalize wr.alloc (.cells #[.int .i64 d.node, .int .i64 d.seq] 108) = W at *
      generalize wr.heap.size = db at *
      have sbW : w.heap.size < W.heap.size := by omega
      have bW : b < W.heap.size := by omega
      have d0 : ∀ n os, (grow (W.drewN n) os).cell? ⟨db, 0, none⟩ = some (.int .i64 d.node) := cell_grown (o := 0) hltA (cell_of_row W db 0 _ _ _ hnew)
      have d1 : ∀ n os, (grow (W.drewN n) os).cell? ⟨db, 1, none⟩ = some (.int .i64 d.seq) := cell_grown (o := 1) hltA (cell_of_row W db 1 _ _ _ hnew)
      have m0 := cell_grown (o := 8) sbW (set_more (u := s.u) hrowA)
      by_cases hm : May d
      ·have hmb : mayB d = true := decide_eq_true hm
       rw [hmb] at hmay
       have HMAY := Lib.hid hmay
       obtain ⟨h1, h2, h3, h4⟩ := hm
       have hu := HUB.out d.node.toNat (by omega)
       have u0 := cell_grown (o := d.node.toNat) sbW (set_up (u := s.u) hrowA d.node.toNat (by omega))
       have hnodez : ((d.node.toNat : Nat) : Int) = d.node := Int.toNat_of_nonneg h1
       by_cases h5 : 2 ≤ d.seq - s.u d.node.toNat
       ·generalize hux : s.u d.node.toNat = ux at *
        obtain ⟨df, hdf⟩ : ∃ df, ux + 1 = df := ⟨_, rfl⟩
        have hwr : IntKind.i64.wrap df = df := IntWalk.i64_in _ (by omega)
        have h5n : ¬ d.seq ≤ df := by omega
        have H5 := Lib.hid h5
        clear h5
        by_cases hz : 0 < i
        ·have hzb : decide (0 < i) = true := decide_eq_true hz
         have hpi : i - 1 < s.more.length := by omega
         obtain ⟨p0, p1⟩ := HPRE.out hz
         have hpm := HPM.out hz
         have hstep2 := fun (h6 : Before (s.more[i - 1]'hpi) d) => HSTEP.out ⟨h1, h2, h3, h4⟩ H5.out (fun _ => h6)
         have hright2 : ¬ Before (s.more[i - 1]'hpi) d → ¬ s.Right := fun h6 hr => h6 ((HRIGHT.out hr).2.2 hz)
         have hcmp := fun n os => beforeR_any (s.more[i - 1]'hpi) d (grow (W.drewN n) os)
         obtain ⟨cv, hcv⟩ : ∃ cv, dotLt (s.more[i - 1]'hpi) d = cv := ⟨_, rfl⟩
         simp only [hcv] at hcmp
         have hcn : cv = true ↔ Before (s.more[i - 1]'hpi) d := by rw [← hcv]; exact decide_eq_true_iff
         clear hcv
         generalize s.more[i - 1]'hpi = pd at *
         obtain ⟨p, hp⟩ : ∃ p, i - 1 = p := ⟨_, rfl⟩
         rw [hp] at p0 p1 hpi
         have hsub : (i : Int) - 1 = (p : Int) := by omega
         have hwp : IntKind.i64.wrap (p : Int) = (p : Int) := IntWalk.i64_in _ (by omega)
         have hplt : (p : Int) < (s.more.length : Int) := by omega
         have q0 := cell_grown bW p0
         have q1 := cell_grown bW p1
         have HCMP := Lib.hid hcmp
         clear hmay hcmp hnew hrowA HSTEP HRIGHT HUB HPRE HPM H5 hux hz hpm p0 p1 hp
         by_cases h6 : Before pd d
         ·obtain rfl := hcn.2 h6
          have HST := Lib.hid (hstep2 h6)
          clear hstep2 hright2 h6 hcn
          refine wp_region_quiet_grown (by assumption) (by kernel_rfl) ?_
          repeat (go_big_quiet_step (first | (go_at_call 91; refine Calls.grown_of (HMAY.out _ _)) | (go_at_call 92; refine Calls.grown_of (HCMP.out _ _))))
          refine wpQuiet_nil ?_
          intro _ hw'
          obtain ⟨⟨nq, osq⟩, hw''⟩ := hw'
          subst hw''
          go_wp2_with fail
          go_roundg (s.more.length - (i + 1))
          case measure => omega
          case rel => exact ⟨i + 1, by go_num, by omega, Nat.le_refl _, HST.out, HBW.out.trans ((Grew.below ⟨nq, osq, rfl⟩).mono HBW.out.size)⟩
         ·obtain rfl : cv = false := by rw [← Bool.not_eq_true]; exact fun h => h6 (hcn.1 h)
          have HNR := Lib.hid (hright2 h6)
          clear hstep2 hright2 h6 hcn
          refine wp_region_quiet_grown (by assumption) (by kernel_rfl) ?_
          repeat (go_big_quiet_step (first | (go_at_call 91; refine Calls.grown_of (HMAY.out _ _)) | (go_at_call 92; refine Calls.grown_of (HCMP.out _ _))))
          refine wpQuiet_nil ?_
          intro _ hw'
          obtain ⟨⟨nq, osq⟩, hw''⟩ := hw'
          subst hw''
          go_wp2_with fail
          go_ret
          exact ⟨retB (DSet.rightB_false HNR.out).symm, (HB1.out.trans ((HBW.out.trans ((Grew.below ⟨nq, osq, rfl⟩).mono HBW.out.size)).mono HB1.out.size))⟩
        ·have hzb : decide (0 < i) = false := decide_eq_false hz
         have HST := Lib.hid (HSTEP.out ⟨h1, h2, h3, h4⟩ H5.out (fun hz => by omega))
         clear hmay hnew hrowA HSTEP HRIGHT HUB HPRE HPM H5 hux hz
         refine wp_region_quiet_grown (by assumption) (by kernel_rfl) ?_
         repeat (go_big_quiet_step (first | (go_at_call 91; refine Calls.grown_of (HMAY.out _ _))))
         refine wpQuiet_nil ?_
         intro _ hw'
         obtain ⟨⟨nq, osq⟩, hw''⟩ := hw'
         subst hw''
         go_wp2_with fail
         go_roundg (s.more.length - (i + 1))
         case measure => omega
         case rel => exact ⟨i + 1, by go_num, by omega, Nat.le_refl _, HST.out, HBW.out.trans ((Grew.below ⟨nq, osq, rfl⟩).mono HBW.out.size)⟩
       ·have HNR := Lib.hid (fun hr : s.Right => h5 (HRIGHT.out hr).2.1)
        generalize s.u d.node.toNat = ux at *
        obtain ⟨df, hdf⟩ : ∃ df, ux + 1 = df := ⟨_, rfl⟩
        have hwr : IntKind.i64.wrap df = df := IntWalk.i64_in _ (by omega)
        have h5n : d.seq ≤ df := by omega
        clear hmay hnew hrowA HSTEP HRIGHT HUB HPRE HPM h5
        refine wp_region_quiet_grown (by assumption) (by kernel_rfl) ?_
        repeat (go_big_quiet_step (first | (go_at_call 91; refine Calls.grown_of (HMAY.out _ _))))
        refine wpQuiet_nil ?_
        intro _ hw'
        obtain ⟨⟨nq, osq⟩, hw''⟩ := hw'
        subst hw''
        go_wp2_with fail
        go_ret
        exact ⟨retB (DSet.rightB_false HNR.out).symm, (HB1.out.trans ((HBW.out.trans ((Grew.below ⟨nq, osq, rfl⟩).mono HBW.out.size)).mono HB1.out.size))⟩
      ·have hmb : mayB d = false := decide_eq_false hm
       rw [hmb] at hmay
       have HMAY := Lib.hid hmay
       have HNR := Lib.hid (fun hr : s.Right => hm (HRIGHT.out hr).1)
       clear hmay hnew hrowA HSTEP HRIGHT HUB HPRE HPM hm
       refine wp_region_quiet_grown (by assumption) (by kernel_rfl) ?_
       repeat (go_big_quiet_step (first | (go_at_call 91; refine Calls.grown_of (HMAY.out _ _))))
       refine wpQuiet_nil ?_
       intro _ hw'
       obtain ⟨⟨nq, osq⟩, hw''⟩ := hw'
       subst hw''
       go_wp2_with fail
       go_ret
       exact ⟨retB (DSet.rightB_false HNR.out).symm, (HB1.out.trans ((HBW.out.trans ((Grew.below ⟨nq, osq, rfl⟩).mono HBW.out.size)).mono HB1.out.size))⟩
     ·have hltz : ¬ (i : Int) < (s.more.length : Int) := by omega
      obtain rfl : i = s.more.length := by omega
      go_wp2_with fail
      go_ret
      exact ⟨retB (DSet.rightB_true (rightTo_done HP.out HC.out (by omega))).symm, HB1.out.trans (HB.out.mono HB1.out.size)⟩
end Go.Proofs.YtejihgfigclppaaGreat
namespace Go.Proofs.YtejihgfigclppaaGreat
open Go.Shelf Go.RowKit Go.Lib Go.Sort
set_option linter.unusedVariables false
set_option linter.unusedSimpArgs false
theorem namedTo_all {own : Dot} {l : List Dot} (h : NamedTo own l l.length) : RemRight own l := by
 unfold NamedTo at h
 rwa [List.take_length] at h
set_option maxRecDepth 100000 in
set_option maxHeartbeats 16000000 in
theorem evRight07_any (hd : Hdr) (ev : Ev) (w : World) (h : SlAt Dot.cells w hd.val ev.rem) (hl : ev.rem.length ≤ 1000000) :
  Calls Tryz.prog 58 #[.agg #[.int .i64 ev.dot.node, .int .i64 ev.dot.seq, .int .i64 ev.time, .int .i64 ev.kind, .int .i64 ev.work, .int .i64 ev.value, .int .i64 ev.pol.mn, .int .i64 ev.pol.mx, .int .i64 ev.pol.goal, .int .i64 ev.pol.slack, .int .i64 ev.pol.up, .int .i64 ev.pol.down, .int .i64 ev.pol.cool, hd.val]] w fun e w' => e = .returned (.bool (rightEvB ev)) ∧ Below w.heap.size w w' := by
 have hp : Tryz.prog.follows .mixedOrders = true := by kernel_rfl
 obtain ⟨ra, rn, rc⟩ := hd
 obtain ⟨ra', rc', hv, _⟩ := h.slice_of
 simp only [Hdr.val, Value.slice.injEq] at hv h ⊢
 obtain ⟨rfl, rfl, rfl⟩ := hv
 obtain ⟨w1, hw1⟩ : ∃ w1, w.alloc (.cells #[.int .i64 ev.dot.node, .int .i64 ev.dot.seq, .int .i64 ev.time, .int .i64 ev.kind, .int .i64 ev.work, .int .i64 ev.value, .int .i64 ev.pol.mn, .int .i64 ev.pol.mx, .int .i64 ev.pol.goal, .int .i64 ev.pol.slack, .int .i64 ev.pol.up, .int .i64 ev.pol.down, .int .i64 ev.pol.cool, .slice ra ev.rem.length rc] 112) = w1 := ⟨_, rfl⟩
 have hb1 : Below w.heap.size w w1 := by rw [← hw1]; exact (Below.refl _ _).alloc (Nat.le_refl _) _
 have hrow : w1.heap[w.heap.size]? = some (.cells #[.int .i64 ev.dot.node, .int .i64 ev.dot.seq, .int .i64 ev.time, .int .i64 ev.kind, .int .i64 ev.work, .int .i64 ev.value, .int .i64 ev.pol.mn, .int .i64 ev.pol.mx, .int .i64 ev.pol.goal, .int .i64 ev.pol.slack, .int .i64 ev.pol.up, .int .i64 ev.pol.down, .int .i64 ev.pol.cool, .slice ra ev.rem.length rc] 112) := by rw [← hw1]; exact heap_alloc_new w _
 have hml : w.heap.size < w1.heap.size := (Array.getElem?_eq_some_iff.1 hrow).1
 obtain ⟨e0, e1, e2, e3, e4, e5, e6, e7, e8, e9, e10, e11, e12, e13⟩ := ev_row hrow
 have HMY := Lib.hid (fun W => mayR_any ev.dot W)
 have HS := Lib.hid h
 have HB1 := Lib.hid hb1
 have HROW := Lib.hid hrow
 have HW1 := Lib.hid hw1
 obtain ⟨RE, hre⟩ : ∃ RE : Prop, RightEv ev = RE := ⟨_, rfl⟩
 clear hb1 hrow hw1 h hre RE
 go_enter Tryz.func58, Tryz.ntmps58
 go_wp2_with fail
 rw [HW1.out]
 refine (HMY.out _).mono ?_
 rintro e w2 ⟨rfl, hg2⟩
 have hb2 := hg2.below
 have hrow2 := (hb2.block _ hml).trans HROW.out
 have HB2 := Lib.hid (HB1.out.trans (hb2.mono HB1.out.size))
 have hml2 : w.heap.size < w2.heap.size := Nat.lt_of_lt_of_le hml hb2.size
 clear hb2 hg2 e0 e1 e2 e3 e4 e5 e6 e7 e8 e9 e10 e11 e12 e13 HMY HROW HW1 HB1
 obtain ⟨e0, e1, e2, e3, e4, e5, e6, e7, e8, e9, e10, e11, e12, e13⟩ := ev_row hrow2
 have HROW2 := Lib.hid hrow2
 clear hrow2
 by_cases k1 : May ev.dot
 ·have hm1 : mayB ev.dot = true := decide_eq_true k1
  rw [hm1]
  clear hm1
  by_cases k2 : ev.time < 1
  ·have f_k2 := decide_eq_true k2
   have HN := Lib.hid (show ¬ RightEv ev from fun hr => by have := hr.2.1.1; omega)
   go_wp2_with fail
   go_ret
   exact ⟨retB (decide_eq_false HN.out).symm, HB2.out⟩
  ·have f_k2 := decide_eq_false k2
   by_cases k3 : 1099511627776 < ev.time
   ·have f_k3 := decide_eq_true k3
    have HN := Lib.hid (show ¬ RightEv ev from fun hr => by have := hr.2.1.2; omega)
    go_wp2_with fail
    go_ret
    exact ⟨retB (decide_eq_false HN.out).symm, HB2.out⟩
   ·have f_k3 := decide_eq_false k3
    by_cases k4 : ev.work < 0
    ·have f_k4 := decide_eq_true k4
     have HN := Lib.hid (show ¬ RightEv ev from fun hr => by have := hr.2.2.1.1; omega)
     go_wp2_with fail
     go_ret
     exact ⟨retB (decide_eq_false HN.out).symm, HB2.out⟩
    ·have f_k4 := decide_eq_false k4
     by_cases k5 : 7 < ev.work
     ·have f_k5 := decide_eq_true k5
      have HN := Lib.hid (show ¬ RightEv ev from fun hr => by have := hr.2.2.1.2; omega)
      go_wp2_with fail
      go_ret
      exact ⟨retB (decide_eq_false HN.out).symm, HB2.out⟩
     ·have f_k5 := decide_eq_false k5
      by_cases k6 : (96 : Int) < (ev.rem.length : Int)
      ·have f_k6 := decide_eq_true k6
       have HN := Lib.hid (show ¬ RightEv ev from fun hr => by have := hr.2.2.2.1; omega)
       go_wp2_with fail
       go_ret
       exact ⟨retB (decide_eq_false HN.out).symm, HB2.out⟩
      ·have f_k6 := decide_eq_false k6
       have hl96 : ev.rem.length ≤ 96 := by omega
       go_wp2_with fail
       go_loopg [3, 4, 38] ev.rem.length (fun gk s3 s4 s38 wr => ∃ (i : Nat), s38 = .int .i64 i ∧ i ≤ ev.rem.length ∧ ev.rem.length - i ≤ gk ∧ Hid (NamedTo ev.dot ev.rem i) ∧ Hid (Below w2.heap.size w2 wr))
       case atStart => exact ⟨0, rfl, Nat.zero_le _, Nat.le_refl _, namedTo_zero _ _, Below.refl _ _⟩
       case round =>
        obtain ⟨i, rfl, hi, hg, HP, HB⟩ := hrel
        have hrowr := (HB.out.block _ hml2).trans HROW2.out
        have hbr := HB2.out.trans (HB.out.mono HB2.out.size)
        by_cases hlt : i < ev.rem.length
        ·have hltz : (i : Int) < (ev.rem.length : Int) := by omega
         have hsl := HS.out.below Dot.cells_len (by decide) hbr (Nat.le_refl _)
         obtain ⟨b, off, rfl⟩ := hsl.plain Dot.cells_len (by decide) (by intro e; rw [e] at hlt; exact absurd hlt (by simp))
         have c0 : wr.cell? ⟨b, off + i * 2, none⟩ = some (.int .i64 ev.rem[i].node) := hsl.cell Dot.cells_len (i := i) (c := 0) hlt (by decide)
         have c1 : wr.cell? ⟨b, off + i * 2 + 1, none⟩ = some (.int .i64 ev.rem[i].seq) := hsl.cell Dot.cells_len (i := i) (c := 1) hlt (by decide)
         have hblt : b < wr.heap.size := World.block_lt_of_cell? wr _ c0
         have hprev : ∀ hz : 0 < i, wr.cell? ⟨b, off + (i - 1) * 2, none⟩ = some (.int .i64 (ev.rem[i - 1]'(by omega)).node) ∧ wr.cell? ⟨b, off + (i - 1) * 2 + 1, none⟩ = some (.int .i64 (ev.rem[i - 1]'(by omega)).seq) := fun hz =>
          ⟨hsl.cell Dot.cells_len (i := i - 1) (c := 0) (by omega) (by decide), hsl.cell Dot.cells_len (i := i - 1) (c := 1) (by omega) (by decide)⟩
         have hstep := namedTo_step HP.out hlt
         have hright : ∀ hr : RightEv ev, May ev.rem[i] ∧ ev.rem[i] ≠ ev.dot ∧ ∀ hz : 0 < i, Before (ev.rem[i - 1]'(by omega)) ev.rem[i] := fun hr => ⟨(hr.2.2.2.2.1.1 _ (List.getElem_mem hlt)).1, (hr.2.2.2.2.1.1 _ (List.getElem_mem hlt)).2, fun hz => List.pairwise_iff_getElem.1 hr.2.2.2.2.1.2 (i - 1) i (by omega) hlt (by omega)⟩
         generalize ev.rem[i] = d at *
         obtain ⟨W, hW⟩ : ∃ W, wr.alloc (.cells #[.int .i64 d.node, .int .i64 d.seq] 108) = W := ⟨_, rfl⟩
         have hbW : Below wr.heap.size wr W := by rw [← hW]; exact (Below.refl _ _).alloc (Nat.le_refl _) _
         have hrW : W.heap[wr.heap.size]? = some (.cells #[.int .i64 d.node, .int .i64 d.seq] 108) := by rw [← hW]; exact heap_alloc_new wr _
         have hrowW := (hbW.block _ (Nat.lt_of_lt_of_le hml2 HB.out.size)).trans hrowr
         obtain ⟨g0, g1, _, _, _, _, _, _, _, _, _, _, _, g13⟩ := ev_row hrowW
         have hltW : wr.heap.size < W.heap.size := (Array.getElem?_eq_some_iff.1 hrW).1
         have hmlW : w.heap.size < W.heap.size := (Array.getElem?_eq_some_iff.1 hrowW).1
         have d0 : ∀ n os, (grow (W.drewN n) os).cell? ⟨wr.heap.size, 0, none⟩ = some (.int .i64 d.node) := cell_grown (o := 0) hltW (cell_of_row W wr.heap.size 0 _ _ _ hrW)
         have d1 : ∀ n os, (grow (W.drewN n) os).cell? ⟨wr.heap.size, 1, none⟩ = some (.int .i64 d.seq) := cell_grown (o := 1) hltW (cell_of_row W wr.heap.size 1 _ _ _ hrW)
         have o0 : ∀ n os, (grow (W.drewN n) os).cell? ⟨w.heap.size, 0, none⟩ = some (.int .i64 ev.dot.node) := cell_grown (o := 0) hmlW g0
         have o1 : ∀ n os, (grow (W.drewN n) os).cell? ⟨w.heap.size, 1, none⟩ = some (.int .i64 ev.dot.seq) := cell_grown (o := 1) hmlW g1
         have o13 : ∀ n os, (grow (W.drewN n) os).cell? ⟨w.heap.size, 13, none⟩ = some (.slice (some ⟨b, off, none⟩) ev.rem.length rc) := cell_grown (o := 13) hmlW g13
         have hprevW : ∀ hz : 0 < i, W.cell? ⟨b, off + (i - 1) * 2, none⟩ = some (.int .i64 (ev.rem[i - 1]'(by omega)).node) ∧ W.cell? ⟨b, off + (i - 1) * 2 + 1, none⟩ = some (.int .i64 (ev.rem[i - 1]'(by omega)).seq) := fun hz =>
          ⟨(hbW.cell (p := ⟨b, off + (i - 1) * 2, none⟩) hblt).trans (hprev hz).1, (hbW.cell (p := ⟨b, off + (i - 1) * 2 + 1, none⟩) hblt).trans (hprev hz).2⟩
         have hbltW : b < W.heap.size := by omega
         have HBW := Lib.hid (HB.out.trans (hbW.mono HB.out.size))
         have HWW := Lib.hid hW
         have HPRE := Lib.hid hprevW
         have HSTEP := Lib.hid hstep
         have HRIGHT := Lib.hid hright
         have hmy := fun n os => mayR_any d (grow (W.drewN n) os)
         clear hsl hrowr hprev hprevW hstep hright HP hbW hW hrW hrowW hbr g0 g1 g13 hblt HB
         by_cases q1 : May d
         ·have hmd : mayB d = true := decide_eq_true q1
          rw [hmd] at hmy
          have HMD := Lib.hid hmy
          clear hmy hmd
          by_cases ho : d = ev.dot
          ·have hno : ¬ RightEv ev := fun hr => (HRIGHT.out hr).2.1 ho
           have HNO := Lib.hid hno
           have hdo : (d.node == ev.dot.node && d.seq == ev.dot.seq) = true := by rw [ho]; simp
           have hqe := fun W => run_eql_dot d ev.dot W
           simp only [hdo] at hqe
           clear hno ho hdo HRIGHT HSTEP HPRE
           go_wp2_with fail
           rw [HWW.out]
           refine wp_region_quiet_grown (by assumption) (by kernel_rfl) ?_
           repeat (go_big_quiet_step (first | (go_at_call 91; refine Calls.grown_of (HMD.out _ _))))
           refine wpQuiet_nil ?_
           intro _ hw'
           obtain ⟨⟨nq, osq⟩, hw''⟩ := hw'
           subst hw''
           go_wp2_with fail
           go_ret
           exact ⟨retB (decide_eq_false HNO.out).symm, HB2.out.trans ((HBW.out.trans ((Grew.below ⟨nq, osq, rfl⟩).mono HBW.out.size)).mono HB2.out.size)⟩
          ·have hdo : (d.node == ev.dot.node && d.seq == ev.dot.seq) = false := by
            rw [Bool.and_eq_false_iff, beq_eq_false_iff_ne, beq_eq_false_iff_ne]
            by_cases e : d.node = ev.dot.node
            ·exact .inr fun e2 => ho (by cases d; cases hh : ev.dot; rw [hh] at e e2; simp only at e e2; rw [e, e2])
            ·exact .inl e
           have hqe := fun W => run_eql_dot d ev.dot W
           simp only [hdo] at hqe
           clear hdo
           by_cases hz : 0 < i
           ·have hzb : decide (0 < i) = true := decide_eq_true hz
            have hpi : i - 1 < ev.rem.length := by omega
            obtain ⟨p0, p1⟩ := HPRE.out hz
            have hstep2 := fun (h6 : Before (ev.rem[i - 1]'hpi) d) => HSTEP.out q1 ho (fun _ => h6)
            have hright2 : RightEv ev → Before (ev.rem[i - 1]'hpi) d := fun hr => (HRIGHT.out hr).2.2 hz
            generalize ev.rem[i - 1]'hpi = pd at *
            obtain ⟨p, hpp⟩ : ∃ p, i - 1 = p := ⟨_, rfl⟩
            rw [hpp] at p0 p1 hpi
            have hsub : (i : Int) - 1 = (p : Int) := by omega
            have hwp : IntKind.i64.wrap (p : Int) = (p : Int) := IntWalk.i64_in _ (by omega)
            have hplt : (p : Int) < (ev.rem.length : Int) := by omega
            have r0 := cell_grown hbltW p0
            have r1 := cell_grown hbltW p1
            have hbf := fun n os => beforeR_any pd d (grow (W.drewN n) os)
            have HSTEP2 := Lib.hid hstep2
            have HRIGHT2 := Lib.hid hright2
            clear HSTEP HRIGHT HPRE hstep2 hright2 p0 p1 hpp hz ho q1
            by_cases h6 : Before pd d
            ·have hlt6 : dotLt pd d = true := (dotLt_iff pd d).2 h6
             rw [hlt6] at hbf
             have HBF := Lib.hid hbf
             have HST := Lib.hid (HSTEP2.out h6)
             clear hbf h6 hlt6
             go_wp2_with fail
             rw [HWW.out]
             refine wp_region_quiet_grown (by assumption) (by kernel_rfl) ?_
             repeat (go_big_quiet_step (first | (go_at_call 91; refine Calls.grown_of (HMD.out _ _)) | (go_at_call 92; refine Calls.grown_of (HBF.out _ _))))
             refine wpQuiet_nil ?_
             intro _ hw'
             obtain ⟨⟨nq, osq⟩, hw''⟩ := hw'
             subst hw''
             have HB5 := Lib.hid (HBW.out.trans ((Grew.below ⟨nq, osq, rfl⟩).mono HBW.out.size) : Below w2.heap.size w2 (grow (W.drewN nq) osq))
             go_wp2_with fail
             go_roundg (ev.rem.length - (i + 1))
             case measure => omega
             case rel => exact ⟨i + 1, by go_num, by omega, Nat.le_refl _, HST.out, HB5.out⟩
            ·have hlt6 : dotLt pd d = false := Bool.eq_false_iff.2 fun h => h6 ((dotLt_iff pd d).1 h)
             rw [hlt6] at hbf
             have HBF := Lib.hid hbf
             have HNO := Lib.hid (fun hr : RightEv ev => h6 (HRIGHT2.out hr))
             clear hbf h6 hlt6
             go_wp2_with fail
             rw [HWW.out]
             refine wp_region_quiet_grown (by assumption) (by kernel_rfl) ?_
             repeat (go_big_quiet_step (first | (go_at_call 91; refine Calls.grown_of (HMD.out _ _)) | (go_at_call 92; refine Calls.grown_of (HBF.out _ _))))
             refine wpQuiet_nil ?_
             intro _ hw'
             obtain ⟨⟨nq, osq⟩, hw''⟩ := hw'
             subst hw''
             go_wp2_with fail
             go_ret
             exact ⟨retB (decide_eq_false HNO.out).symm, HB2.out.trans ((HBW.out.trans ((Grew.below ⟨nq, osq, rfl⟩).mono HBW.out.size)).mono HB2.out.size)⟩
           ·have hzb : decide (0 < i) = false := decide_eq_false hz
            have HST := Lib.hid (HSTEP.out q1 ho (fun hz2 => absurd hz2 hz))
            clear HSTEP HRIGHT HPRE hz ho q1
            go_wp2_with fail
            rw [HWW.out]
            refine wp_region_quiet_grown (by assumption) (by kernel_rfl) ?_
            repeat (go_big_quiet_step (first | (go_at_call 91; refine Calls.grown_of (HMD.out _ _))))
            refine wpQuiet_nil ?_
            intro _ hw'
            obtain ⟨⟨nq, osq⟩, hw''⟩ := hw'
            subst hw''
            have HB5 := Lib.hid (HBW.out.trans ((Grew.below ⟨nq, osq, rfl⟩).mono HBW.out.size) : Below w2.heap.size w2 (grow (W.drewN nq) osq))
            go_wp2_with fail
            go_roundg (ev.rem.length - (i + 1))
            case measure => omega
            case rel => exact ⟨i + 1, by go_num, by omega, Nat.le_refl _, HST.out, HB5.out⟩
         ·have hmd : mayB d = false := decide_eq_false q1
          rw [hmd] at hmy
          have HMD := Lib.hid hmy
          have HNO := Lib.hid (fun hr : RightEv ev => q1 (HRIGHT.out hr).1)
          clear hmy hmd q1 HRIGHT HSTEP HPRE
          go_wp2_with fail
          rw [HWW.out]
          refine wp_region_quiet_grown (by assumption) (by kernel_rfl) ?_
          repeat (go_big_quiet_step (first | (go_at_call 91; refine Calls.grown_of (HMD.out _ _))))
          refine wpQuiet_nil ?_
          intro _ hw'
          obtain ⟨⟨nq, osq⟩, hw''⟩ := hw'
          subst hw''
          go_wp2_with fail
          go_ret
          exact ⟨retB (decide_eq_false HNO.out).symm, HB2.out.trans ((HBW.out.trans ((Grew.below ⟨nq, osq, rfl⟩).mono HBW.out.size)).mono HB2.out.size)⟩
        ·have hltz : ¬ (i : Int) < (ev.rem.length : Int) := by omega
         obtain rfl : i = ev.rem.length := by omega
         have hrem := namedTo_all HP.out
         have HREM := Lib.hid hrem
         have hmlr : w.heap.size < wr.heap.size := (Array.getElem?_eq_some_iff.1 hrowr).1
         obtain ⟨f0, f1, f2, f3, f4, f5, f6, f7, f8, f9, f10, f11, f12, f13⟩ := ev_row hrowr
         have HBR := Lib.hid hbr
         have HALL := Lib.hid (fun hk : KindRight ev => (⟨k1, ⟨by omega, by omega⟩, ⟨by omega, by omega⟩, hl96, HREM.out, hk⟩ : RightEv ev))
         clear hrem hrowr hbr HP
         have hqp := run_eql_pol0 ev.pol
         obtain ⟨bz, hbz⟩ : ∃ bz, decide (ev.pol = polZero) = bz := ⟨_, rfl⟩
         rw [hbz] at hqp
         have HZ := Lib.hid hbz
         clear hbz
         by_cases m1 : ev.kind = 1
         ·rw [m1] at f3
          by_cases v0 : 0 ≤ ev.value
          ·have g_v0 := decide_eq_true v0
           by_cases v1 : ev.value ≤ 1099511627776
           ·have g_v1 := decide_eq_true v1
            cases bz with
            | true =>
             by_cases hR : ev.rem.length = 0
             ·have hRb : ((ev.rem.length : Int) == 0) = true := by simp [hR]
              have HY := Lib.hid (HALL.out (.inl ⟨m1, of_decide_eq_true HZ.out, v0, v1, List.eq_nil_of_length_eq_zero hR⟩))
              clear hR
              go_wp2_with fail
              go_ret
              exact ⟨retB (decide_eq_true HY.out).symm, HBR.out⟩
             ·have hRb : ((ev.rem.length : Int) == 0) = false := by simpa using hR
              have HN := Lib.hid (show ¬ RightEv ev from fun hr => hR (by rcases hr.2.2.2.2.2 with h | h | h; rw [h.2.2.2.2]; rfl; omega; omega))
              clear hR
              go_wp2_with fail
              go_ret
              exact ⟨retB (decide_eq_false HN.out).symm, HBR.out⟩
            | false =>
             have HN := Lib.hid (show ¬ RightEv ev from fun hr => (of_decide_eq_false HZ.out) (by rcases hr.2.2.2.2.2 with h | h | h; exact h.2.1; omega; omega))
             go_wp2_with fail
             go_ret
             exact ⟨retB (decide_eq_false HN.out).symm, HBR.out⟩
           ·have g_v1 := decide_eq_false v1
            have HN := Lib.hid (show ¬ RightEv ev from fun hr => v1 (by rcases hr.2.2.2.2.2 with h | h | h; exact h.2.2.2.1; omega; omega))
            go_wp2_with fail
            go_ret
            exact ⟨retB (decide_eq_false HN.out).symm, HBR.out⟩
          ·have g_v0 := decide_eq_false v0
           have HN := Lib.hid (show ¬ RightEv ev from fun hr => v0 (by rcases hr.2.2.2.2.2 with h | h | h; exact h.2.2.1; omega; omega))
           go_wp2_with fail
           go_ret
           exact ⟨retB (decide_eq_false HN.out).symm, HBR.out⟩
         ·have b_m1 : (ev.kind == 1) = false := by simpa using m1
          by_cases m2 : ev.kind = 2
          ·rw [m2] at f3
           by_cases v0 : ev.value = 0
           ·have g_v0 : (ev.value == 0) = true := by simpa using v0
            have hrp := refRightPolicy_any ev.pol wr
            have HRP := Lib.hid hrp
            clear hrp
            go_wp2_with fail
            refine HRP.out.mono ?_
            rintro e w5 ⟨rfl, hb5⟩
            obtain ⟨pb, hpb⟩ : ∃ pb, ev.pol.rightB = pb := ⟨_, rfl⟩
            simp only [hpb]
            have HB5 := Lib.hid (HBR.out.trans (hb5.mono HBR.out.size))
            clear hb5 HRP f0 f1 f2 f3 f4 f5 f6 f7 f8 f9 f10 f11 f12 f13
            cases pb with
            | false =>
             have HN := Lib.hid (show ¬ RightEv ev from fun hr => by
              rcases hr.2.2.2.2.2 with h | h | h
              ·omega
              ·rw [Pol.rightB_true ((polRight_iff _).2 h.2.1)] at hpb; cases hpb
              ·omega)
             clear hpb
             go_wp2_with fail
             go_ret
             exact ⟨retB (decide_eq_false HN.out).symm, HB5.out⟩
            | true =>
             have HY := Lib.hid (HALL.out (.inr (.inl ⟨m2, (polRight_iff _).1 (Pol.rightB_iff.1 hpb), v0⟩)))
             clear hpb
             go_wp2_with fail
             go_ret
             exact ⟨retB (decide_eq_true HY.out).symm, HB5.out⟩
           ·have g_v0 : (ev.value == 0) = false := by simpa using v0
            have HN := Lib.hid (show ¬ RightEv ev from fun hr => v0 (by rcases hr.2.2.2.2.2 with h | h | h; omega; exact h.2.2; omega))
            go_wp2_with fail
            go_ret
            exact ⟨retB (decide_eq_false HN.out).symm, HBR.out⟩
          ·have b_m2 : (ev.kind == 2) = false := by simpa using m2
           by_cases m3 : ev.kind = 3
           ·rw [m3] at f3
            by_cases v0 : ev.value = 0
            ·have g_v0 : (ev.value == 0) = true := by simpa using v0
             cases bz with
             | true =>
              have HY := Lib.hid (HALL.out (.inr (.inr ⟨m3, of_decide_eq_true HZ.out, v0⟩)))
              go_wp2_with fail
              go_ret
              exact ⟨retB (decide_eq_true HY.out).symm, HBR.out⟩
             | false =>
              have HN := Lib.hid (show ¬ RightEv ev from fun hr => (of_decide_eq_false HZ.out) (by rcases hr.2.2.2.2.2 with h | h | h; omega; omega; exact h.2.1))
              go_wp2_with fail
              go_ret
              exact ⟨retB (decide_eq_false HN.out).symm, HBR.out⟩
            ·have g_v0 : (ev.value == 0) = false := by simpa using v0
             have HN := Lib.hid (show ¬ RightEv ev from fun hr => v0 (by rcases hr.2.2.2.2.2 with h | h | h; omega; omega; exact h.2.2))
             go_wp2_with fail
             go_ret
             exact ⟨retB (decide_eq_false HN.out).symm, HBR.out⟩
           ·have b_m3 : (ev.kind == 3) = false := by simpa using m3
            have HN := Lib.hid (show ¬ RightEv ev from fun hr => by rcases hr.2.2.2.2.2 with h | h | h; exact m1 h.1; exact m2 h.1; exact m3 h.1)
            go_wp2_with fail
            go_ret
            exact ⟨retB (decide_eq_false HN.out).symm, HBR.out⟩
 ·have hm1 : mayB ev.dot = false := decide_eq_false k1
  rw [hm1]
  clear hm1
  have HN := Lib.hid (show ¬ RightEv ev from fun hr => k1 hr.1)
  go_wp2_with fail
  go_ret
  exact ⟨retB (decide_eq_false HN.out).symm, HB2.out⟩
end Go.Proofs.YtejihgfigclppaaGreat
