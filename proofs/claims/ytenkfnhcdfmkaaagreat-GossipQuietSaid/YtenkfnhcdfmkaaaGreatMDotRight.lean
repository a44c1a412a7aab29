/-
  dotset.Right walked: whether a set may be.
  dotset.lay and of walked: sets laid open in a grid of one's own.
  dotset.of walked: a new grid in which sets are laid open.
-/
import Derived.Test.YtenkfnhcdfmkaaaGreatMGrid
import Derived.Test.YtenkfnhcdfmkaaaGreatLay
import Derived.Shelf.SlicesE.IndexFunc
namespace Go.Proofs.YtenkfnhcdfmkaaaGreat
open Go.Shelf Go.RowKit Go.Lib Go.Sort
set_option linter.unusedVariables false
def outB (n : Int) : Bool := decide (n < 0 ∨ 96 < n)
theorem rightN_any (n : Int) (w : World) : FnGives Tryz.prog 113 #[] #[.int .i64 n] (.bool (outB n)) w := by
 show Calls Tryz.prog 113 #[.int .i64 n] w _
 by_cases h1 : n < 0
 ·rw [show outB n = true from decide_eq_true (.inl h1)]
  go_enter Tryz.func113, Tryz.ntmps113
  go_wp2_with fail
  go_ret
  exact ⟨rfl, 0, rfl⟩
 ·by_cases h2 : 96 < n
  ·rw [show outB n = true from decide_eq_true (.inr h2)]
   go_enter Tryz.func113, Tryz.ntmps113
   go_wp2_with fail
   go_ret
   exact ⟨rfl, 0, rfl⟩
  ·rw [show outB n = false from decide_eq_false (by omega)]
   go_enter Tryz.func113, Tryz.ntmps113
   go_wp2_with fail
   go_ret
   exact ⟨rfl, 0, rfl⟩
def upList (u : Nat → Int) : List Int := [u 0, u 1, u 2, u 3, u 4, u 5, u 6, u 7]
theorem upList_any (u : Nat → Int) : (upList u).any outB = false ↔ ∀ n, n < 8 → 0 ≤ u n ∧ u n ≤ 96 := by
 simp only [upList, List.any_cons, List.any_nil, Bool.or_false, Bool.or_eq_false_iff, outB, decide_eq_false_iff_not]
 constructor
 ·rintro ⟨h0, h1, h2, h3, h4, h5, h6, h7⟩ n hn
  rcases (show n = 0 ∨ n = 1 ∨ n = 2 ∨ n = 3 ∨ n = 4 ∨ n = 5 ∨ n = 6 ∨ n = 7 by omega) with rfl | rfl | rfl | rfl | rfl | rfl | rfl | rfl <;> omega
 ·intro h
  have h0 := h 0 (by decide); have h1 := h 1 (by decide); have h2 := h 2 (by decide); have h3 := h 3 (by decide)
  have h4 := h 4 (by decide); have h5 := h 5 (by decide); have h6 := h 6 (by decide); have h7 := h 7 (by decide)
  refine ⟨?_, ?_, ?_, ?_, ?_, ?_, ?_, ?_⟩ <;> omega
open Classical in
noncomputable def DSet.rightB (s : DSet) : Bool := decide s.Right
theorem DSet.rightB_true {s : DSet} (h : s.Right) : s.rightB = true := @decide_eq_true _ (Classical.propDecidable _) h
theorem DSet.rightB_false {s : DSet} (h : ¬ s.Right) : s.rightB = false := @decide_eq_false _ (Classical.propDecidable _) h
def RightTo (s : DSet) (i : Nat) : Prop := (∀ d ∈ s.more.take i, May d ∧ 2 ≤ d.seq - s.u d.node.toNat) ∧ (s.more.take i).Pairwise Before
theorem rightTo_zero (s : DSet) : RightTo s 0 := ⟨fun d hd => by simp at hd, by simp⟩
theorem rightTo_step {s : DSet} {i : Nat} (h : RightTo s i) (hi : i < s.more.length) (h1 : May s.more[i]) (h2 : 2 ≤ s.more[i].seq - s.u s.more[i].node.toNat) (h3 : ∀ hz : 0 < i, Before (s.more[i - 1]'(by omega)) s.more[i]) : RightTo s (i + 1) := by
 unfold RightTo at *
 rw [List.take_succ_eq_append_getElem hi]
 refine ⟨fun d hd => ?_, List.pairwise_append.2 ⟨h.2, List.pairwise_singleton _ _, fun x hx y hy => ?_⟩⟩
 ·rcases List.mem_append.1 hd with hd | hd
  ·exact h.1 d hd
  ·obtain rfl : d = s.more[i] := by simpa using hd
   exact ⟨h1, h2⟩
 ·obtain rfl : y = s.more[i] := by simpa using hy
  obtain ⟨j, hj, rfl⟩ := List.mem_iff_getElem.1 hx
  have hji : j < i := by rw [List.length_take] at hj; omega
  rw [List.getElem_take]
  have h4 := h3 (by omega)
  by_cases e : j = i - 1
  ·subst e; exact h4
  ·refine Before.trans ?_ h4
   have := List.pairwise_iff_getElem.1 h.2 j (i - 1) hj (by rw [List.length_take]; omega) (by omega)
   rwa [List.getElem_take, List.getElem_take] at this
theorem rightTo_done {s : DSet} (h : RightTo s s.more.length) (h1 : (upList s.u).any outB = false) (h2 : s.more.length ≤ 768) : s.Right := by
 unfold RightTo at h
 rw [List.take_length] at h
 exact ⟨(upList_any _).1 h1, h2, h.1, h.2⟩
theorem right_prev {s : DSet} (h : s.Right) {i : Nat} (hz : 0 < i) (hi : i < s.more.length) : Before (s.more[i - 1]'(by omega)) s.more[i] := List.pairwise_iff_getElem.1 h.2.2.2 (i - 1) i (by omega) hi (by omega)
def setObj (u : Nat → Int) (v : Value) : Array Value := #[.int .i64 (u 0), .int .i64 (u 1), .int .i64 (u 2), .int .i64 (u 3), .int .i64 (u 4), .int .i64 (u 5), .int .i64 (u 6), .int .i64 (u 7), v]
theorem set_up {W : World} {b : Nat} {u : Nat → Int} {v : Value} {e : TypeId} (h : W.heap[b]? = some (.cells (setObj u v) e)) (n : Nat) (hn : n < 8) : W.cell? ⟨b, n, none⟩ = some (.int .i64 (u n)) := by
 rcases (show n = 0 ∨ n = 1 ∨ n = 2 ∨ n = 3 ∨ n = 4 ∨ n = 5 ∨ n = 6 ∨ n = 7 by omega) with rfl | rfl | rfl | rfl | rfl | rfl | rfl | rfl
 all_goals exact cell_of_row W b _ _ _ _ h
theorem set_more {W : World} {b : Nat} {u : Nat → Int} {v : Value} {e : TypeId} (h : W.heap[b]? = some (.cells (setObj u v) e)) : W.cell? ⟨b, 8, none⟩ = some v := cell_of_row W b _ _ _ _ h
set_option maxHeartbeats 8000000 in
theorem right_any (s : DSet) (oa : Option Addr) (cap : Nat) (w : World) (h : SlAt Dot.cells w (.slice oa s.more.length cap) s.more) (hl : s.more.length ≤ 1000000) :
  Calls Tryz.prog 81 #[.agg #[.int .i64 (s.u 0), .int .i64 (s.u 1), .int .i64 (s.u 2), .int .i64 (s.u 3), .int .i64 (s.u 4), .int .i64 (s.u 5), .int .i64 (s.u 6), .int .i64 (s.u 7), .slice oa s.more.length cap]] w fun e w' => e = .returned (.bool s.rightB) ∧ Below w.heap.size w w' := by
 have eg : ∀ args w, (callFunc 113 args).run Tryz.prog w = .ok (.enter 113 args) w := enters_of Tryz.func113 (by kernel_rfl) rfl
 have hcf := fun (W : World) (b : Nat) (hW : W.heap[b]? = some (.cells (setObj s.u (.slice oa s.more.length cap)) 48)) => AnyE.slices_ContainsFunc (P := Tryz.prog) (ρ := laysSlLaysH8_ren) laysSlLaysH8 (Value.int .i64) outB 113 #[] eg b 0 8 8 (upList s.u) W (fun W' x _ => rightN_any x W') (by simp [upList]) (by omega) (fun j hj => by
  have hj8 : j < 8 := by simpa [upList] using hj
  rw [Nat.zero_add, set_up hW j hj8]
  rcases (show j = 0 ∨ j = 1 ∨ j = 2 ∨ j = 3 ∨ j = 4 ∨ j = 5 ∨ j = 6 ∨ j = 7 by omega) with rfl | rfl | rfl | rfl | rfl | rfl | rfl | rfl <;> rfl)
 replace hcf := fun W b hW => (hcf W b hW).mono (R' := fun e w' => e = .returned (.bool (((upList s.u).take 8).any outB)) ∧ Below W.heap.size W w') fun e w' ⟨he, q, hq⟩ => ⟨he, by rw [hq]; exact below_drewN _ _⟩
 have hrow : (w.alloc (.cells (setObj s.u (.slice oa s.more.length cap)) 48)).heap[w.heap.size]? = some (.cells (setObj s.u (.slice oa s.more.length cap)) 48) := heap_alloc_new w _
 have HCF := Lib.hid (hcf _ _ hrow)
 have HROW := Lib.hid hrow
 have HSL := Lib.hid (h.below Dot.cells_len (by decide) ((Below.refl _ _).alloc (Nat.le_refl _) (.cells (setObj s.u (.slice oa s.more.length cap)) 48)) (Nat.le_refl _))
 have HB0 := Lib.hid ((Below.refl w.heap.size w).alloc (Nat.le_refl _) (.cells (setObj s.u (.slice oa s.more.length cap)) 48))
 clear hcf hrow h eg
 unfold setObj at HCF HROW HSL HB0
 obtain ⟨c, hc⟩ : ∃ c, (upList s.u).any outB = c := ⟨_, rfl⟩
 rw [show ((upList s.u).take 8) = upList s.u from rfl, hc] at HCF
 have HC := Lib.hid hc
 clear hc
 cases c with
 | true =>
  have hw : s.rightB = false := DSet.rightB_false fun hr => by have := (upList_any s.u).2 hr.1; rw [HC.out] at this; cases this
  rw [hw]
  go_enter Tryz.func81, Tryz.ntmps81
  go_wp2_with fail
  refine HCF.out.mono ?_
  rintro e w1 ⟨rfl, hb1⟩
  have HB1 := Lib.hid (HB0.out.trans (hb1.mono HB0.out.size))
  clear hb1
  go_wp2_with fail
  go_ret
  exact ⟨rfl, HB1.out⟩
 | false =>
  by_cases hlen : 768 < s.more.length
  ·have hw : s.rightB = false := DSet.rightB_false fun hr => by have := hr.2.1; omega
   rw [hw]
   have hlz : (768 : Int) < (s.more.length : Int) := by omega
   go_enter Tryz.func81, Tryz.ntmps81
   go_wp2_with fail
   refine HCF.out.mono ?_
   rintro e w1 ⟨rfl, hb1⟩
   have hm := set_more (u := s.u) ((hb1.block _ (by simp)).trans HROW.out)
   have HB1 := Lib.hid (HB0.out.trans (hb1.mono HB0.out.size))
   clear hb1
   go_wp2_with fail
   go_ret
   exact ⟨rfl, HB1.out⟩
  ·have hlz : ¬ (768 : Int) < (s.more.length : Int) := by omega
   go_enter Tryz.func81, Tryz.ntmps81
   go_wp2_with fail
   refine HCF.out.mono ?_
   rintro e w1 ⟨rfl, hb1⟩
   have hrow1 := (hb1.block _ (by simp)).trans HROW.out
   have HB1 := Lib.hid (HB0.out.trans (hb1.mono HB0.out.size))
   have HSL1 := Lib.hid (HSL.out.below Dot.cells_len (by decide) hb1 (Nat.le_refl _))
   have hm := set_more (u := s.u) hrow1
   have HROW1 := Lib.hid hrow1
   clear hrow1 HCF HROW HSL HB0 hb1
   have hsblt : w.heap.size < w1.heap.size := World.block_lt_of_cell? w1 _ hm
   go_wp2_with fail
   go_loopg [17] s.more.length (fun gk s17 wr => ∃ (i : Nat), s17 = .int .i64 i ∧ i ≤ s.more.length ∧ s.more.length - i ≤ gk ∧ Hid (RightTo s i) ∧ Hid (Below w1.heap.size w1 wr))
   case atStart => exact ⟨0, rfl, Nat.zero_le _, Nat.le_refl _, rightTo_zero s, Below.refl _ _⟩
   case round =>
    obtain ⟨i, rfl, hi, hg, HP, HB⟩ := hrel
    clear hm
    by_cases hlt : i < s.more.length
    ·have hltz : (i : Int) < (s.more.length : Int) := by omega
     have hsl := HSL1.out.below Dot.cells_len (by decide) HB.out (Nat.le_refl _)
     obtain ⟨b, off, rfl⟩ := hsl.plain Dot.cells_len (by decide) (by intro e; rw [e] at hlt; exact absurd hlt (by simp))
     have c0 := hsl.cell Dot.cells_len (i := i) (c := 0) hlt (by decide)
     have c1 := hsl.cell Dot.cells_len (i := i) (c := 1) hlt (by decide)
     have hprev : ∀ hz : 0 < i, wr.cell? ⟨b, off + (i - 1) * 2, none⟩ = some (.int .i64 (s.more[i - 1]'(by omega)).node) ∧ wr.cell? ⟨b, off + (i - 1) * 2 + 1, none⟩ = some (.int .i64 (s.more[i - 1]'(by omega)).seq) := fun hz => by
      have k0 := hsl.cell Dot.cells_len (i := i - 1) (c := 0) (by omega) (by decide)
      have k1 := hsl.cell Dot.cells_len (i := i - 1) (c := 1) (by omega) (by decide)
      exact ⟨k0, k1⟩
     replace c0 : wr.cell? ⟨b, off + i * 2, none⟩ = some (.int .i64 s.more[i].node) := c0
     replace c1 : wr.cell? ⟨b, off + i * 2 + 1, none⟩ = some (.int .i64 s.more[i].seq) := c1
     have hrow := (HB.out.block _ hsblt).trans HROW1.out
     have hstep := rightTo_step HP.out hlt
     have hprevMay : ∀ hz : 0 < i, May (s.more[i - 1]'(by omega)) := fun hz => (HP.out.1 _ (List.mem_take_iff_getElem.2 ⟨i - 1, by omega, rfl⟩)).1
     have hright : ∀ hr : s.Right, May s.more[i] ∧ 2 ≤ s.more[i].seq - s.u s.more[i].node.toNat ∧ ∀ hz : 0 < i, Before (s.more[i - 1]'(by omega)) s.more[i] := fun hr => ⟨(hr.2.2.1 _ (List.getElem_mem hlt)).1, (hr.2.2.1 _ (List.getElem_mem hlt)).2, fun hz => right_prev hr hz hlt⟩
     have hub := (upList_any s.u).1 HC.out
     generalize s.more[i] = d at *
     have hmx : Tryz.prog.follows .mixedOrders = true := by kernel_rfl
     have hblt : b < wr.heap.size := World.block_lt_of_cell? wr _ c0
     have hslt : w.heap.size < wr.heap.size := (Array.getElem?_eq_some_iff.1 hrow).1
     have HBA := Lib.hid ((Below.refl wr.heap.size wr).alloc (Nat.le_refl _) (.cells #[.int .i64 d.node, .int .i64 d.seq] 40))
     have hnew : (wr.alloc (.cells #[.int .i64 d.node, .int .i64 d.seq] 40)).heap[wr.heap.size]? = some (.cells #[.int .i64 d.node, .int .i64 d.seq] 40) := heap_alloc_new wr _
     have hrowA := (HBA.out.block _ hslt).trans hrow
     have hprevA : ∀ hz : 0 < i, (wr.alloc (.cells #[.int .i64 d.node, .int .i64 d.seq] 40)).cell? ⟨b, off + (i - 1) * 2, none⟩ = some (.int .i64 (s.more[i - 1]'(by omega)).node) ∧ (wr.alloc (.cells #[.int .i64 d.node, .int .i64 d.seq] 40)).cell? ⟨b, off + (i - 1) * 2 + 1, none⟩ = some (.int .i64 (s.more[i - 1]'(by omega)).seq) := fun hz => ⟨(HBA.out.cell hblt).trans (hprev hz).1, (HBA.out.cell hblt).trans (hprev hz).2⟩
     have hltA : wr.heap.size < (wr.alloc (.cells #[.int .i64 d.node, .int .i64 d.seq] 40)).heap.size := by simp
     have HPRE := Lib.hid hprevA
     have HPM := Lib.hid hprevMay
     have HSTEP := Lib.hid hstep
     have HRIGHT := Lib.hid hright
     have HUB := Lib.hid hub
     clear hsl hrow hprev hprevA hprevMay hstep hright hub HP
     go_wp2_with fail
     have HBW := Lib.hid (HB.out.trans (HBA.out.mono HB.out.size))
     have hmay := fun n os => may_any d (grow ((wr.alloc (.cells #[.int .i64 d.node, .int .i64 d.seq] 40)).drewN n) os)
     generalize wr.alloc (.cells #[.int .i64 d.node, .int .i64 d.seq] 40) = W at *
     generalize wr.heap.size = db at *
     have sbW : w.heap.size < W.heap.size := by omega
     have bW : b < W.heap.size := by omega
     have d0 : ∀ n os, (grow (W.drewN n) os).cell? ⟨db, 0, none⟩ = some (.int .i64 d.node) := cell_grown (o := 0) hltA (cell_of_row W db 0 _ _ _ hnew)
     have d1 : ∀ n os, (grow (W.drewN n) os).cell? ⟨db, 1, none⟩ = some (.int .i64 d.seq) := cell_grown (o := 1) hltA (cell_of_row W db 1 _ _ _ hnew)
     have m0 := cell_grown (o := 8) sbW (set_more (u := s.u) hrowA)
     by_cases hm : May d
     ·have hmb : mayB d = true := decide_eq_true hm
      rw [hmb] at hmay
      have HMAY := Lib.hid hmay
      obtain ⟨h1, h2, h3, h4⟩ := hm
      have hu := HUB.out d.node.toNat (by omega)
      have u0 := cell_grown (o := d.node.toNat) sbW (set_up (u := s.u) hrowA d.node.toNat (by omega))
      have hnodez : ((d.node.toNat : Nat) : Int) = d.node := Int.toNat_of_nonneg h1
      by_cases h5 : 2 ≤ d.seq - s.u d.node.toNat
      ·generalize hux : s.u d.node.toNat = ux at *
       obtain ⟨df, hdf⟩ : ∃ df, d.seq - ux = df := ⟨_, rfl⟩
       have hwr : IntKind.i64.wrap df = df := IntWalk.i64_in _ (by omega)
       have h5n : ¬ df < 2 := by omega
       have H5 := Lib.hid h5
       clear h5
       by_cases hz : 0 < i
       ·have hzb : decide (0 < i) = true := decide_eq_true hz
        have hpi : i - 1 < s.more.length := by omega
        obtain ⟨p0, p1⟩ := HPRE.out hz
        have hpm := HPM.out hz
        have hstep2 := fun (h6 : Before (s.more[i - 1]'hpi) d) => HSTEP.out ⟨h1, h2, h3, h4⟩ H5.out (fun _ => h6)
        have hright2 : ¬ Before (s.more[i - 1]'hpi) d → ¬ s.Right := fun h6 hr => h6 ((HRIGHT.out hr).2.2 hz)
        have hcmp := fun n os => dcompare_any (s.more[i - 1]'hpi) d hpm ⟨h1, h2, h3, h4⟩ (grow (W.drewN n) os)
        have hcn := cmpDot_neg (a := s.more[i - 1]'hpi) (b := d)
        generalize cmpDot (s.more[i - 1]'hpi) d = cv at hcmp hcn
        generalize s.more[i - 1]'hpi = pd at *
        obtain ⟨p, hp⟩ : ∃ p, i - 1 = p := ⟨_, rfl⟩
        rw [hp] at p0 p1 hpi
        have hsub : (i : Int) - 1 = (p : Int) := by omega
        have hwp : IntKind.i64.wrap (p : Int) = (p : Int) := IntWalk.i64_in _ (by omega)
        have hplt : (p : Int) < (s.more.length : Int) := by omega
        have q0 := cell_grown bW p0
        have q1 := cell_grown bW p1
        have HCMP := Lib.hid hcmp
        clear hmay hcmp hnew hrowA HSTEP HRIGHT HUB HPRE HPM H5 hux hz hpm p0 p1 hp
        by_cases h6 : Before pd d
        ·have hcb : decide (0 ≤ cv) = false := decide_eq_false (by have := hcn.2 h6; omega)
         have HST := Lib.hid (hstep2 h6)
         clear hstep2 hright2 h6 hcn
         refine wp_region_quiet_grown (by assumption) (by kernel_rfl) ?_
         repeat (go_big_quiet_step (first | (go_at_call 51; refine Calls.grown_of (HMAY.out _ _)) | (go_at_call 114; refine Calls.grown_of (HCMP.out _ _))))
         refine wpQuiet_nil ?_
         intro _ hw'
         obtain ⟨⟨nq, osq⟩, hw''⟩ := hw'
         subst hw''
         go_wp2_with fail
         go_roundg (s.more.length - (i + 1))
         case measure => omega
         case rel => exact ⟨i + 1, by go_num, by omega, Nat.le_refl _, HST.out, HBW.out.trans ((Grew.below ⟨nq, osq, rfl⟩).mono HBW.out.size)⟩
        ·have hcb : decide (0 ≤ cv) = true := decide_eq_true (Int.not_lt.1 fun h => h6 (hcn.1 h))
         have HNR := Lib.hid (hright2 h6)
         clear hstep2 hright2 h6 hcn
         refine wp_region_quiet_grown (by assumption) (by kernel_rfl) ?_
         repeat (go_big_quiet_step (first | (go_at_call 51; refine Calls.grown_of (HMAY.out _ _)) | (go_at_call 114; refine Calls.grown_of (HCMP.out _ _))))
         refine wpQuiet_nil ?_
         intro _ hw'
         obtain ⟨⟨nq, osq⟩, hw''⟩ := hw'
         subst hw''
         go_wp2_with fail
         go_ret
         exact ⟨retB (DSet.rightB_false HNR.out).symm, (HB1.out.trans ((HBW.out.trans ((Grew.below ⟨nq, osq, rfl⟩).mono HBW.out.size)).mono HB1.out.size))⟩
       ·have hzb : decide (0 < i) = false := decide_eq_false hz
        have HST := Lib.hid (HSTEP.out ⟨h1, h2, h3, h4⟩ H5.out (fun hz => by omega))
        clear hmay hnew hrowA HSTEP HRIGHT HUB HPRE HPM H5 hux hz
        refine wp_region_quiet_grown (by assumption) (by kernel_rfl) ?_
        repeat (go_big_quiet_step (first | (go_at_call 51; refine Calls.grown_of (HMAY.out _ _))))
        refine wpQuiet_nil ?_
        intro _ hw'
        obtain ⟨⟨nq, osq⟩, hw''⟩ := hw'
        subst hw''
        go_wp2_with fail
        go_roundg (s.more.length - (i + 1))
        case measure => omega
        case rel => exact ⟨i + 1, by go_num, by omega, Nat.le_refl _, HST.out, HBW.out.trans ((Grew.below ⟨nq, osq, rfl⟩).mono HBW.out.size)⟩
      ·have HNR := Lib.hid (fun hr : s.Right => h5 (HRIGHT.out hr).2.1)
       generalize s.u d.node.toNat = ux at *
       obtain ⟨df, hdf⟩ : ∃ df, d.seq - ux = df := ⟨_, rfl⟩
       have hwr : IntKind.i64.wrap df = df := IntWalk.i64_in _ (by omega)
       have h5n : df < 2 := by omega
       clear hmay hnew hrowA HSTEP HRIGHT HUB HPRE HPM h5
       refine wp_region_quiet_grown (by assumption) (by kernel_rfl) ?_
       repeat (go_big_quiet_step (first | (go_at_call 51; refine Calls.grown_of (HMAY.out _ _))))
       refine wpQuiet_nil ?_
       intro _ hw'
       obtain ⟨⟨nq, osq⟩, hw''⟩ := hw'
       subst hw''
       go_wp2_with fail
       go_ret
       exact ⟨retB (DSet.rightB_false HNR.out).symm, (HB1.out.trans ((HBW.out.trans ((Grew.below ⟨nq, osq, rfl⟩).mono HBW.out.size)).mono HB1.out.size))⟩
     ·have hmb : mayB d = false := decide_eq_false hm
      rw [hmb] at hmay
      have HMAY := Lib.hid hmay
      have HNR := Lib.hid (fun hr : s.Right => hm (HRIGHT.out hr).1)
      clear hmay hnew hrowA HSTEP HRIGHT HUB HPRE HPM hm
      refine wp_region_quiet_grown (by assumption) (by kernel_rfl) ?_
      repeat (go_big_quiet_step (first | (go_at_call 51; refine Calls.grown_of (HMAY.out _ _))))
      refine wpQuiet_nil ?_
      intro _ hw'
      obtain ⟨⟨nq, osq⟩, hw''⟩ := hw'
      subst hw''
      go_wp2_with fail
      go_ret
      exact ⟨retB (DSet.rightB_false HNR.out).symm, (HB1.out.trans ((HBW.out.trans ((Grew.below ⟨nq, osq, rfl⟩).mono HBW.out.size)).mono HB1.out.size))⟩
    ·have hltz : ¬ (i : Int) < (s.more.length : Int) := by omega
     obtain rfl : i = s.more.length := by omega
     go_wp2_with fail
     go_ret
     exact ⟨retB (DSet.rightB_true (rightTo_done HP.out HC.out (by omega))).symm, HB1.out.trans (HB.out.mono HB1.out.size)⟩
end Go.Proofs.YtenkfnhcdfmkaaaGreat
namespace Go.Proofs.YtenkfnhcdfmkaaaGreat
open Go.Shelf Go.RowKit Go.Lib Go.Sort
set_option linter.unusedVariables false
theorem below_any {W W' : World} (h : Below W.heap.size W W') (row : Option Nat) : W.grownBy W' row := ⟨h.os, h.tape, h.output, h.size, fun i hi _ => h.block i hi⟩
theorem run_index8 (u : Nat → Int) (n : Nat) (hn : n < 8) (w : World) : (Instr.index 33 (.agg #[.int .i64 (u 0), .int .i64 (u 1), .int .i64 (u 2), .int .i64 (u 3), .int .i64 (u 4), .int .i64 (u 5), .int .i64 (u 6), .int .i64 (u 7)]) (.int .i64 n)).run Tryz.prog w = .ok (.int .i64 (u n)) w := by
 have hz : (sizeOf 3).run Tryz.prog w = .ok 1 w := by kernel_rfl
 have ha : (isAgg 3).run Tryz.prog w = .ok false w := by kernel_rfl
 rcases (show n = 0 ∨ n = 1 ∨ n = 2 ∨ n = 3 ∨ n = 4 ∨ n = 5 ∨ n = 6 ∨ n = 7 by omega) with rfl | rfl | rfl | rfl | rfl | rfl | rfl | rfl <;> simp [Instr.index, asIntOf, run_underlying Tryz.underlying33, part, hz, ha, Result.andThen]
def upGrid (g : Grid) (u : Nat → Int) (n j : Nat) : Grid := fun m q => g m q || decide (1 ≤ q ∧ ((m < n ∧ (q : Int) ≤ u m) ∨ (m = n ∧ q ≤ j)))
theorem upGrid_zero (g : Grid) (u : Nat → Int) : upGrid g u 0 0 = g := by
 funext m q
 unfold upGrid
 rw [decide_eq_false (by omega), Bool.or_false]
theorem upGrid_put (g : Grid) (u : Nat → Int) (n j : Nat) : (upGrid g u n j).put n (j + 1) = upGrid g u n (j + 1) := by
 funext m q
 unfold upGrid Grid.put
 rw [Bool.or_assoc]
 congr 1
 rw [Bool.eq_iff_iff]
 simp only [Bool.or_eq_true, Bool.and_eq_true, decide_eq_true_eq]
 omega
theorem upGrid_next (g : Grid) (u : Nat → Int) (n : Nat) (h : 0 ≤ u n) : upGrid g u n (u n).toNat = upGrid g u (n + 1) 0 := by
 funext m q
 unfold upGrid
 congr 1
 rw [Bool.eq_iff_iff]
 simp only [decide_eq_true_eq]
 by_cases e : m = n
 ·subst e; omega
 ·omega
def putDots (g : Grid) (l : List Dot) : Grid := l.foldl (fun g d => g.put d.node.toNat d.seq.toNat) g
theorem putDots_at : ∀ (l : List Dot) (g : Grid) (n q : Nat), putDots g l n q = true ↔ g n q = true ∨ ∃ d ∈ l, d.node.toNat = n ∧ d.seq.toNat = q
 | [], g, n, q => by simp [putDots]
 | d :: l, g, n, q => by
  show putDots (g.put _ _) l n q = true ↔ _
  rw [putDots_at l]
  unfold Grid.put
  simp only [Bool.or_eq_true, Bool.and_eq_true, decide_eq_true_eq, List.mem_cons, exists_eq_or_imp, or_assoc]
  constructor
  ·rintro (h | ⟨h, k⟩ | h)
   ·exact .inl h
   ·exact .inr (.inl ⟨h.symm, k.symm⟩)
   ·exact .inr (.inr h)
  ·rintro (h | ⟨h, k⟩ | h)
   ·exact .inl h
   ·exact .inr (.inl ⟨h.symm, k.symm⟩)
   ·exact .inr (.inr h)
theorem putDots_take (g : Grid) (l : List Dot) (i : Nat) (hi : i < l.length) : putDots g (l.take (i + 1)) = (putDots g (l.take i)).put l[i].node.toNat l[i].seq.toNat := by
 unfold putDots
 rw [List.take_succ_eq_append_getElem hi, List.foldl_append]
 rfl
theorem lay_grid (g : Grid) {s : DSet} (h : s.Right) : putDots (upGrid g s.u 8 0) s.more = g.or s.grid := by
 funext n q
 rw [Bool.eq_iff_iff, putDots_at]
 unfold upGrid Grid.or
 rw [Bool.or_eq_true, Bool.or_eq_true, DSet.grid_iff, decide_eq_true_eq, or_assoc]
 refine or_congr Iff.rfl ?_
 constructor
 ·rintro (⟨h1, h2⟩ | ⟨d, hd, h1, h2⟩)
  ·rcases h2 with h2 | h2
   ·exact ⟨h, h2.1, h1, .inl h2.2⟩
   ·omega
  ·have hm := (h.2.2.1 d hd).1
   unfold May at hm
   refine ⟨h, by omega, by omega, .inr ?_⟩
   have : (⟨n, q⟩ : Dot) = d := by cases d; simp only [Dot.mk.injEq] at *; omega
   rw [this]; exact hd
 ·rintro ⟨_, h1, h2, h3 | h3⟩
  ·exact .inl ⟨h2, .inl ⟨h1, h3⟩⟩
  ·exact .inr ⟨_, h3, by simp, by simp⟩
set_option maxHeartbeats 8000000 in
theorem lay_any (b : Nat) (g : Grid) (s : DSet) (oa : Option Addr) (cap : Nat) (w : World) (hg : GridAt w b g) (h : SlAt Dot.cells w (.slice oa s.more.length cap) s.more) (hoa : s.more = [] ∨ (Value.slice oa s.more.length cap).ownBlock ≠ some b) (hl : s.more.length ≤ 1000000) :
  Calls Tryz.prog 86 #[.pointer (some ⟨b, 0, none⟩), .agg #[.int .i64 (s.u 0), .int .i64 (s.u 1), .int .i64 (s.u 2), .int .i64 (s.u 3), .int .i64 (s.u 4), .int .i64 (s.u 5), .int .i64 (s.u 6), .int .i64 (s.u 7), .slice oa s.more.length cap]] w fun e w' => e = .returned (.tuple #[]) ∧ GridAt w' b (g.or s.grid) ∧ w.grownBy w' (some b) := by
 have eg : ∀ args w, (callFunc 107 args).run Tryz.prog w = .ok (.enter 107 args) w := enters_of Tryz.func107 (by kernel_rfl) rfl
 have hb0 := (Below.refl w.heap.size w).alloc (Nat.le_refl _) (.cells (setObj s.u (.slice oa s.more.length cap)) 48)
 have hsl := h.below Dot.cells_len (by decide) hb0 (Nat.le_refl _)
 have hrt := right_any s oa cap _ hsl hl
 have HRT := Lib.hid hrt
 have HROW := Lib.hid (show (w.alloc (.cells (setObj s.u (.slice oa s.more.length cap)) 48)).heap[w.heap.size]? = some (.cells (setObj s.u (.slice oa s.more.length cap)) 48) from heap_alloc_new w _)
 have HSL := Lib.hid h
 have HG := Lib.hid hg
 have HB0 := Lib.hid hb0
 clear hb0 hsl hrt h hg
 unfold setObj at HRT HROW HB0
 by_cases hr : s.Right
 ·rw [DSet.rightB_true hr] at HRT
  have HLG := Lib.hid (lay_grid g hr)
  have HU := Lib.hid hr.1
  go_enter Tryz.func86, Tryz.ntmps86
  go_wp2_with fail
  refine HRT.out.mono ?_
  rintro e w1 ⟨rfl, hb1⟩
  have hrow1 := (hb1.block _ (by simp)).trans HROW.out
  have HB1 := Lib.hid (HB0.out.trans (hb1.mono HB0.out.size))
  have c0 := set_up (u := s.u) hrow1 0 (by decide)
  have c1 := set_up (u := s.u) hrow1 1 (by decide)
  have c2 := set_up (u := s.u) hrow1 2 (by decide)
  have c3 := set_up (u := s.u) hrow1 3 (by decide)
  have c4 := set_up (u := s.u) hrow1 4 (by decide)
  have c5 := set_up (u := s.u) hrow1 5 (by decide)
  have c6 := set_up (u := s.u) hrow1 6 (by decide)
  have c7 := set_up (u := s.u) hrow1 7 (by decide)
  have HROW1 := Lib.hid hrow1
  clear hb1 hrow1 HRT HROW HB0
  go_wp2_with fail
  clear c0 c1 c2 c3 c4 c5 c6 c7
  have hidx := fun n (hn : n < 8) => run_index8 s.u n hn
  have HIX := Lib.hid hidx
  clear hidx
  have hsb : w.heap.size < w1.heap.size := (Array.getElem?_eq_some_iff.1 HROW1.out).1
  go_loopg [12] 8 (fun gk s12 wr => ∃ (n : Nat), s12 = .int .i64 n ∧ n ≤ 8 ∧ 8 - n ≤ gk ∧ Hid (GridAt wr b (upGrid g s.u n 0)) ∧ Hid (w1.grownBy wr (some b)))
  case atStart => exact ⟨0, rfl, Nat.zero_le _, Nat.le_refl _, by show GridAt _ _ _; rw [upGrid_zero]; exact HG.out.below HB1.out HG.out.lt, World.grownBy.refl _ _⟩
  case round =>
   obtain ⟨n, rfl, hi, hg, HGR, HGW⟩ := hrel
   by_cases hlt : n < 8
   ·have hltz : (n : Int) < 8 := by omega
    have hix := HIX.out n hlt
    have hu := HU.out n hlt
    have hnx := upGrid_next g s.u n hu.1
    obtain ⟨m, hm⟩ : ∃ m : Nat, s.u n = m := ⟨(s.u n).toNat, by omega⟩
    rw [hm] at hix hu hnx
    rw [Int.toNat_natCast] at hnx
    have HNX := Lib.hid hnx
    have hgr := HGR.out
    have hgw := HGW.out
    clear hnx hm HGR HGW
    go_wp2_with fail
    go_loopg [17] m (fun gk s17 wr => ∃ (j : Nat), s17 = .int .i64 j ∧ j ≤ m ∧ m - j ≤ gk ∧ Hid (GridAt wr b (upGrid g s.u n j)) ∧ Hid (w1.grownBy wr (some b)))
    case atStart => exact ⟨0, rfl, Nat.zero_le _, Nat.le_refl _, hgr, hgw⟩
    case round =>
     obtain ⟨j, rfl, hj, hgj, HGR, HGW⟩ := hrel
     clear hgr hgw
     by_cases hjl : j < m
     ·have hjz : (j : Int) < (m : Int) := by omega
      have hpt := put_any b (upGrid g s.u n j) ⟨(n : Int), ((j : Int) + 1)⟩ wr HGR.out (by simp) (by show (n : Int) < 8; omega) (by show 0 ≤ (j : Int) + 1; omega) (by show (j : Int) + 1 < 98; omega)
      have e1 : ((n : Int)).toNat = n := Int.toNat_natCast n
      have e2 : ((j : Int) + 1).toNat = j + 1 := by omega
      simp only [e1, e2] at hpt
      rw [upGrid_put] at hpt
      have HPT := Lib.hid hpt
      clear hpt hix e1 e2
      go_wp2_with fail
      refine HPT.out.mono ?_
      rintro e w2 ⟨rfl, hgr, hgw⟩
      have HGR2 := Lib.hid hgr
      have HGW2 := Lib.hid (HGW.out.trans hgw)
      clear hgr hgw HPT HGR HGW
      go_wp2_with fail
      go_roundg (m - (j + 1))
      case measure => omega
      case rel => exact ⟨j + 1, by go_num, by omega, Nat.le_refl _, HGR2.out, HGW2.out⟩
     ·have hjz : ¬ (j : Int) < (m : Int) := by omega
      obtain rfl : j = m := by omega
      have hgr := HGR.out
      have HNE := HNX.out
      rw [HNE] at hgr
      have HGR2 := Lib.hid hgr
      clear hix hgr HNE
      go_wp2_with fail
      go_roundg (8 - (n + 1))
      case measure => omega
      case rel => exact ⟨n + 1, by go_num, by omega, Nat.le_refl _, HGR2.out, HGW.out⟩
   ·have hltz : ¬ (n : Int) < 8 := by omega
    obtain rfl : n = 8 := by omega
    have hsbb : w.heap.size ≠ b := fun e => by have := HG.out.lt; omega
    have hrow := (HGW.out.block _ hsb (fun e => hsbb (Option.some.inj e))).trans HROW1.out
    have cm := set_more (u := s.u) hrow
    have hpm : ∀ (i : Nat) (W : World) (hi : i < s.more.length), (GridAt W b (putDots (upGrid g s.u 8 0) (s.more.take i)) ∧ w1.grownBy W (some b)) → Calls Tryz.prog 107 (#[.pointer (some ⟨b, 0, none⟩)].push (.agg #[.int .i64 s.more[i].node, .int .i64 s.more[i].seq]) ++ #[]) W fun e w' => e = .returned (.tuple #[]) ∧ GridAt w' b (putDots (upGrid g s.u 8 0) (s.more.take (i + 1))) ∧ w1.grownBy w' (some b) := fun i W hi hI => by
     have hmy := (hr.2.2.1 _ (List.getElem_mem hi)).1
     unfold May at hmy
     refine (put_any b _ s.more[i] W hI.1 hmy.1 hmy.2.1 (by omega) (by omega)).mono ?_
     rintro e w' ⟨rfl, h2, h3⟩
     exact ⟨rfl, by rw [putDots_take _ _ _ hi]; exact h2, hI.2.trans h3⟩
    have hea := each_any 107 #[.pointer (some ⟨b, 0, none⟩)] #[] eg oa cap s.more (fun i W => GridAt W b (putDots (upGrid g s.u 8 0) (s.more.take i)) ∧ w1.grownBy W (some b))
     ⟨fun i hi W hI => hpm i W hi hI, fun i W W' hI hb => ⟨hI.1.below hb hI.1.lt, hI.2.trans (below_any hb _)⟩⟩
     (fun i W hI => (HSL.out.below Dot.cells_len (by decide) HB1.out (Nat.le_refl _)).grown Dot.cells_len (by decide) hI.2 hoa) hl wr ⟨HGR.out, HGW.out⟩
    rw [List.take_length, HLG.out] at hea
    have HEA := Lib.hid hea
    clear hpm hea hrow
    go_wp2_with fail
    refine HEA.out.mono ?_
    rintro e w2 ⟨rfl, hgr, hgw⟩
    have HGR2 := Lib.hid hgr
    have HGW2 := Lib.hid ((below_any HB1.out _).trans hgw)
    clear hgr hgw
    go_wp2_with fail
    go_end0
    exact ⟨rfl, HGR2.out, HGW2.out⟩
 ·rw [DSet.rightB_false hr] at HRT
  have hgn : g.or s.grid = g := by rw [DSet.grid_wrong hr]; funext n q; simp [Grid.or, Grid.none]
  rw [hgn]
  go_enter Tryz.func86, Tryz.ntmps86
  go_wp2_with fail
  refine HRT.out.mono ?_
  rintro e w1 ⟨rfl, hb1⟩
  have HB1 := Lib.hid (HB0.out.trans (hb1.mono HB0.out.size))
  clear hb1
  go_wp2_with fail
  refine bodyPost_ret (v := .tuple #[]) (by simp [results, Tryz.results86, go_sem]) rfl ⟨rfl, HG.out.below HB1.out HG.out.lt, below_any HB1.out _⟩
end Go.Proofs.YtenkfnhcdfmkaaaGreat
namespace Go.Proofs.YtenkfnhcdfmkaaaGreat
open Go.Shelf Go.RowKit Go.Lib Go.Sort
set_option linter.unusedVariables false
abbrev PSet := Hdr × DSet
def qcells (p : PSet) : List Value := [.int .i64 (p.2.u 0), .int .i64 (p.2.u 1), .int .i64 (p.2.u 2), .int .i64 (p.2.u 3), .int .i64 (p.2.u 4), .int .i64 (p.2.u 5), .int .i64 (p.2.u 6), .int .i64 (p.2.u 7), p.1.val]
theorem qcells_len (p : PSet) : (qcells p).length = 9 := rfl
noncomputable def orAll (l : List DSet) : Grid := l.foldl (fun g s => g.or s.grid) Grid.none
theorem zero784 : Tryz.zeroCells152 = gridCells Grid.none := by kernel_rfl
def SetsAt (w : World) (v : Value) (ps : List PSet) : Prop := SlAt qcells w v ps ∧ ∀ p ∈ ps, SlAt Dot.cells w p.1.val p.2.more ∧ p.2.more.length ≤ 1000000
theorem SlAt.set9 {w : World} {b off n cap : Nat} {ps : List PSet} (h : SlAt qcells w (.slice (some ⟨b, off, none⟩) n cap) ps) (i : Nat) (hi : i < ps.length) (c : Nat) (hc : c < 9) : w.cell? ⟨b, off + i * 9 + c, none⟩ = (qcells ps[i])[c]? := by
 rw [← h.cell qcells_len hi hc]
 congr 2
 omega
theorem orAll_take (l : List DSet) (i : Nat) (hi : i < l.length) : orAll (l.take (i + 1)) = (orAll (l.take i)).or l[i].grid := by
 unfold orAll
 rw [List.take_succ_eq_append_getElem hi, List.foldl_append]
 rfl
set_option maxHeartbeats 8000000 in
theorem of_any (oa : Option Addr) (cap : Nat) (ps : List PSet) (w : World) (h : SetsAt w (.slice oa ps.length cap) ps) (hl : ps.length ≤ 1000) :
  Calls Tryz.prog 52 #[.slice oa ps.length cap] w fun e w' => ∃ b, e = .returned (.pointer (some ⟨b, 0, none⟩)) ∧ w.heap.size ≤ b ∧ GridAt w' b (orAll (ps.map (·.2))) ∧ Below w.heap.size w w' := by
 have HS := Lib.hid h
 clear h
 go_enter Tryz.func52, Tryz.ntmps52
 go_wp2_with fail
 have hg0 : GridAt (w.alloc (.cells Tryz.zeroCells152 152)) w.heap.size Grid.none := by
  unfold GridAt
  rw [← zero784]
  exact heap_alloc_new w _
 have hb0 := (Below.refl w.heap.size w).alloc (Nat.le_refl _) (.cells Tryz.zeroCells152 152)
 have hlt0 : w.heap.size < (w.alloc (.cells Tryz.zeroCells152 152)).heap.size := by simp
 generalize Tryz.zeroCells152 = zc at *
 generalize w.alloc (.cells zc 152) = w1 at *
 have HG0 := Lib.hid hg0
 have HB0 := Lib.hid hb0
 clear hg0 hb0
 go_loopg [10] ps.length (fun gk s10 wr => ∃ (i : Nat), s10 = .int .i64 i ∧ i ≤ ps.length ∧ ps.length - i ≤ gk ∧ Hid (GridAt wr w.heap.size (orAll ((ps.map (·.2)).take i))) ∧ Hid (Below w.heap.size w wr) ∧ w1.heap.size ≤ wr.heap.size)
 case atStart => exact ⟨0, rfl, Nat.zero_le _, Nat.le_refl _, HG0.out, HB0.out, Nat.le_refl _⟩
 case round =>
  obtain ⟨i, rfl, hi, hg, HGR, HB, hsz⟩ := hrel
  by_cases hlt : i < ps.length
  ·have hltz : (i : Int) < (ps.length : Int) := by omega
   have hsl := HS.out.1.below qcells_len (by decide) HB.out (Nat.le_refl _)
   obtain ⟨b, off, rfl⟩ := hsl.plain qcells_len (by decide) (by intro e; rw [e] at hlt; exact absurd hlt (by simp))
   have c0 := hsl.set9 i hlt 0 (by decide)
   have c1 := hsl.set9 i hlt 1 (by decide)
   have c2 := hsl.set9 i hlt 2 (by decide)
   have c3 := hsl.set9 i hlt 3 (by decide)
   have c4 := hsl.set9 i hlt 4 (by decide)
   have c5 := hsl.set9 i hlt 5 (by decide)
   have c6 := hsl.set9 i hlt 6 (by decide)
   have c7 := hsl.set9 i hlt 7 (by decide)
   have c8 := hsl.set9 i hlt 8 (by decide)
   obtain ⟨hrem, hrl⟩ := HS.out.2 _ (List.getElem_mem hlt)
   have htk := orAll_take (ps.map (·.2)) i (by rw [List.length_map]; exact hlt)
   rw [List.getElem_map] at htk
   generalize ps[i] = p at *
   obtain ⟨⟨ra, rn, rc⟩, s⟩ := p
   obtain ⟨ra', rc', hv, _⟩ := hrem.slice_of
   simp only [Hdr.val, Value.slice.injEq] at hv
   obtain ⟨rfl, rfl, rfl⟩ := hv
   simp only [Hdr.val] at hrem
   have hno : s.more = [] ∨ (Value.slice ra s.more.length rc).ownBlock ≠ some w.heap.size := by
    by_cases he : s.more = []
    ·exact .inl he
    ·exact .inr fun e => absurd (hrem.lt Dot.cells_len (by decide) he _ e) (by omega)
   simp only [qcells, Hdr.val, List.getElem?_cons_zero, List.getElem?_cons_succ, Nat.add_zero] at c0 c1 c2 c3 c4 c5 c6 c7 c8
   have HREM := Lib.hid hrem
   have HNO := Lib.hid hno
   have HTK := Lib.hid htk
   have hly := fun W (hb : Below wr.heap.size wr W) => lay_any w.heap.size _ s ra rc W (HGR.out.below hb HGR.out.lt) (hrem.below Dot.cells_len (by decide) (HB.out.trans (hb.mono HB.out.size)) (Nat.le_refl _)) hno hrl
   rw [← htk] at hly
   have HLY := Lib.hid hly
   clear hsl hrem hno htk hly
   have hbl := (Below.refl wr.heap.size wr).alloc (Nat.le_refl _) (.cells #[.int .i64 (s.u 0), .int .i64 (s.u 1), .int .i64 (s.u 2), .int .i64 (s.u 3), .int .i64 (s.u 4), .int .i64 (s.u 5), .int .i64 (s.u 6), .int .i64 (s.u 7), .slice ra s.more.length rc] 48)
   have HBL := Lib.hid hbl
   clear hbl
   go_wp2_with fail
   refine (HLY.out _ HBL.out).mono ?_
   rintro e w2 ⟨rfl, hgr, hgw⟩
   have HGR2 := Lib.hid hgr
   have HB2 := Lib.hid ((HB.out.trans (HBL.out.mono HB.out.size)).grown hgw (Nat.le_trans HB.out.size HBL.out.size) (fun k hk => by cases hk; exact Nat.le_refl _))
   have hsz2 : w1.heap.size ≤ w2.heap.size := Nat.le_trans hsz (Nat.le_trans HBL.out.size hgw.size)
   clear hgr hgw c0 c1 c2 c3 c4 c5 c6 c7 c8 HLY HGR HB HBL
   go_wp2_with fail
   go_roundg (ps.length - (i + 1))
   case measure => omega
   case rel => exact ⟨i + 1, by go_num, by omega, Nat.le_refl _, HGR2.out, HB2.out, hsz2⟩
  ·have hltz : ¬ (i : Int) < (ps.length : Int) := by omega
   obtain rfl : i = ps.length := by omega
   have hgr := HGR.out
   rw [show (ps.map (·.2)).take ps.length = ps.map (·.2) from by rw [← List.length_map (f := (·.2)), List.take_length]] at hgr
   have HGR2 := Lib.hid hgr
   clear hgr HGR
   go_wp2_with fail
   go_ret
   exact ⟨_, rfl, Nat.le_refl _, HGR2.out, HB.out⟩
end Go.Proofs.YtenkfnhcdfmkaaaGreat
