/-
  dotset.Right walked: whether a set may be.
-/
import Derived.Test.YtejihgfigclppaaGreatDots
import Derived.Test.YtejihgfigclppaaGreatLay
import Derived.Shelf.SlicesE.IndexFunc
namespace Go.Proofs.YtejihgfigclppaaGreat
open Go.Shelf Go.RowKit Go.Lib Go.Sort
set_option linter.unusedVariables false
def outB (n : Int) : Bool := decide (n < 0 ∨ 96 < n)
theorem rightN_any (n : Int) (w : World) : FnGives Tryz.prog 118 #[] #[.int .i64 n] (.bool (outB n)) w := by
  show Calls Tryz.prog 118 #[.int .i64 n] w _
  by_cases h1 : n < 0
  · rw [show outB n = true from decide_eq_true (.inl h1)]
    go_enter Tryz.func118, Tryz.ntmps118
    go_wp2_with fail
    go_ret
    exact ⟨rfl, 0, rfl⟩
  · by_cases h2 : 96 < n
    · rw [show outB n = true from decide_eq_true (.inr h2)]
      go_enter Tryz.func118, Tryz.ntmps118
      go_wp2_with fail
      go_ret
      exact ⟨rfl, 0, rfl⟩
    · rw [show outB n = false from decide_eq_false (by omega)]
      go_enter Tryz.func118, Tryz.ntmps118
      go_wp2_with fail
      go_ret
      exact ⟨rfl, 0, rfl⟩
def upVals (u : Nat → Int) : List Value := [.int .i64 (u 0), .int .i64 (u 1), .int .i64 (u 2), .int .i64 (u 3), .int .i64 (u 4), .int .i64 (u 5), .int .i64 (u 6), .int .i64 (u 7)]
def upList (u : Nat → Int) : List Int := [u 0, u 1, u 2, u 3, u 4, u 5, u 6, u 7]
theorem upList_any (u : Nat → Int) : (upList u).any outB = false ↔ ∀ n, n < 8 → 0 ≤ u n ∧ u n ≤ 96 := by
  simp only [upList, List.any_cons, List.any_nil, Bool.or_false, Bool.or_eq_false_iff, outB, decide_eq_false_iff_not]
  constructor
  · rintro ⟨h0, h1, h2, h3, h4, h5, h6, h7⟩ n hn
    rcases (show n = 0 ∨ n = 1 ∨ n = 2 ∨ n = 3 ∨ n = 4 ∨ n = 5 ∨ n = 6 ∨ n = 7 by omega) with rfl | rfl | rfl | rfl | rfl | rfl | rfl | rfl <;> omega
  · intro h
    have h0 := h 0 (by decide); have h1 := h 1 (by decide); have h2 := h 2 (by decide); have h3 := h 3 (by decide)
    have h4 := h 4 (by decide); have h5 := h 5 (by decide); have h6 := h 6 (by decide); have h7 := h 7 (by decide)
    refine ⟨?_, ?_, ?_, ?_, ?_, ?_, ?_, ?_⟩ <;> omega
open Classical in
noncomputable def DSet.rightB (s : DSet) : Bool := decide s.Right
theorem DSet.rightB_true {s : DSet} (h : s.Right) : s.rightB = true := @decide_eq_true _ (Classical.propDecidable _) h
theorem DSet.rightB_false {s : DSet} (h : ¬ s.Right) : s.rightB = false := @decide_eq_false _ (Classical.propDecidable _) h
/-- right as far as i -/
def RightTo (s : DSet) (i : Nat) : Prop := (∀ d ∈ s.more.take i, May d ∧ 2 ≤ d.seq - s.u d.node.toNat) ∧ (s.more.take i).Pairwise Before
theorem rightTo_zero (s : DSet) : RightTo s 0 := ⟨fun d hd => by simp at hd, by simp⟩
theorem rightTo_step {s : DSet} {i : Nat} (h : RightTo s i) (hi : i < s.more.length) (h1 : May s.more[i]) (h2 : 2 ≤ s.more[i].seq - s.u s.more[i].node.toNat) (h3 : ∀ hz : 0 < i, Before (s.more[i - 1]'(by omega)) s.more[i]) : RightTo s (i + 1) := by
  unfold RightTo at *
  rw [List.take_succ_eq_append_getElem hi]
  refine ⟨fun d hd => ?_, List.pairwise_append.2 ⟨h.2, List.pairwise_singleton _ _, fun x hx y hy => ?_⟩⟩
  · rcases List.mem_append.1 hd with hd | hd
    · exact h.1 d hd
    · obtain rfl : d = s.more[i] := by simpa using hd
      exact ⟨h1, h2⟩
  · obtain rfl : y = s.more[i] := by simpa using hy
    obtain ⟨j, hj, rfl⟩ := List.mem_iff_getElem.1 hx
    have hji : j < i := by rw [List.length_take] at hj; omega
    rw [List.getElem_take]
    have h4 := h3 (by omega)
    by_cases e : j = i - 1
    · subst e; exact h4
    · refine Before.trans ?_ h4
      have := List.pairwise_iff_getElem.1 h.2 j (i - 1) hj (by rw [List.length_take]; omega) (by omega)
      rwa [List.getElem_take, List.getElem_take] at this
theorem rightTo_done {s : DSet} (h : RightTo s s.more.length) (h1 : (upList s.u).any outB = false) (h2 : s.more.length ≤ 768) : s.Right := by
  unfold RightTo at h
  rw [List.take_length] at h
  exact ⟨(upList_any _).1 h1, h2, h.1, h.2⟩
theorem right_prev {s : DSet} (h : s.Right) {i : Nat} (hz : 0 < i) (hi : i < s.more.length) : Before (s.more[i - 1]'(by omega)) s.more[i] := List.pairwise_iff_getElem.1 h.2.2.2 (i - 1) i (by omega) hi (by omega)
/-- a set's cells -/
def setObj (u : Nat → Int) (v : Value) : Array Value := #[.int .i64 (u 0), .int .i64 (u 1), .int .i64 (u 2), .int .i64 (u 3), .int .i64 (u 4), .int .i64 (u 5), .int .i64 (u 6), .int .i64 (u 7), v]
theorem set_up {W : World} {b : Nat} {u : Nat → Int} {v : Value} {e : TypeId} (h : W.heap[b]? = some (.cells (setObj u v) e)) (n : Nat) (hn : n < 8) : W.cell? ⟨b, n, none⟩ = some (.int .i64 (u n)) := by
  rcases (show n = 0 ∨ n = 1 ∨ n = 2 ∨ n = 3 ∨ n = 4 ∨ n = 5 ∨ n = 6 ∨ n = 7 by omega) with rfl | rfl | rfl | rfl | rfl | rfl | rfl | rfl
  all_goals exact cell_of_row W b _ _ _ _ h
theorem set_more {W : World} {b : Nat} {u : Nat → Int} {v : Value} {e : TypeId} (h : W.heap[b]? = some (.cells (setObj u v) e)) : W.cell? ⟨b, 8, none⟩ = some v := cell_of_row W b _ _ _ _ h
set_option maxHeartbeats 8000000 in
theorem right_any (s : DSet) (oa : Option Addr) (cap : Nat) (w : World) (h : SlAt Dot.cells w (.slice oa s.more.length cap) s.more) (hl : s.more.length ≤ 1000000) :
    Calls Tryz.prog 105 #[.agg #[.int .i64 (s.u 0), .int .i64 (s.u 1), .int .i64 (s.u 2), .int .i64 (s.u 3), .int .i64 (s.u 4), .int .i64 (s.u 5), .int .i64 (s.u 6), .int .i64 (s.u 7), .slice oa s.more.length cap]] w fun e w' => e = .returned (.bool s.rightB) ∧ Below w.heap.size w w' := by
  have eg : ∀ args w, (callFunc 118 args).run Tryz.prog w = .ok (.enter 118 args) w := enters_of Tryz.func118 (by kernel_rfl) rfl
  have hcf := fun (W : World) (b : Nat) (hW : W.heap[b]? = some (.cells (setObj s.u (.slice oa s.more.length cap)) 170)) => AnyE.slices_ContainsFunc (P := Tryz.prog) (ρ := laysSlLaysH8_ren) laysSlLaysH8 (Value.int .i64) outB 118 #[] eg b 0 8 8 (upList s.u) W (fun W' x _ => rightN_any x W') (by simp [upList]) (by omega) (fun j hj => by
    have hj8 : j < 8 := by simpa [upList] using hj
    rw [Nat.zero_add, set_up hW j hj8]
    rcases (show j = 0 ∨ j = 1 ∨ j = 2 ∨ j = 3 ∨ j = 4 ∨ j = 5 ∨ j = 6 ∨ j = 7 by omega) with rfl | rfl | rfl | rfl | rfl | rfl | rfl | rfl <;> rfl)
  replace hcf := fun W b hW => (hcf W b hW).mono (R' := fun e w' => e = .returned (.bool (((upList s.u).take 8).any outB)) ∧ Below W.heap.size W w') fun e w' ⟨he, q, hq⟩ => ⟨he, by rw [hq]; exact below_drewN _ _⟩
  have hrow : (w.alloc (.cells (setObj s.u (.slice oa s.more.length cap)) 170)).heap[w.heap.size]? = some (.cells (setObj s.u (.slice oa s.more.length cap)) 170) := heap_alloc_new w _
  have HCF := Lib.hid (hcf _ _ hrow)
  have HROW := Lib.hid hrow
  have HSL := Lib.hid (h.below Dot.cells_len (by decide) ((Below.refl _ _).alloc (Nat.le_refl _) (.cells (setObj s.u (.slice oa s.more.length cap)) 170)) (Nat.le_refl _))
  have HB0 := Lib.hid ((Below.refl w.heap.size w).alloc (Nat.le_refl _) (.cells (setObj s.u (.slice oa s.more.length cap)) 170))
  clear hcf hrow h eg
  unfold setObj at HCF HROW HSL HB0
  obtain ⟨c, hc⟩ : ∃ c, (upList s.u).any outB = c := ⟨_, rfl⟩
  rw [show ((upList s.u).take 8) = upList s.u from rfl, hc] at HCF
  have HC := Lib.hid hc
  clear hc
  cases c with
  | true =>
    have hw : s.rightB = false := DSet.rightB_false fun hr => by have := (upList_any s.u).2 hr.1; rw [HC.out] at this; cases this
    rw [hw]
    go_enter Tryz.func105, Tryz.ntmps105
    go_wp2_with fail
    refine HCF.out.mono ?_
    rintro e w1 ⟨rfl, hb1⟩
    have HB1 := Lib.hid (HB0.out.trans (hb1.mono HB0.out.size))
    clear hb1
    go_wp2_with fail
    go_ret
    exact ⟨rfl, HB1.out⟩
  | false =>
    by_cases hlen : 768 < s.more.length
    · have hw : s.rightB = false := DSet.rightB_false fun hr => by have := hr.2.1; omega
      rw [hw]
      have hlz : (768 : Int) < (s.more.length : Int) := by omega
      go_enter Tryz.func105, Tryz.ntmps105
      go_wp2_with fail
      refine HCF.out.mono ?_
      rintro e w1 ⟨rfl, hb1⟩
      have hm := set_more (u := s.u) ((hb1.block _ (by simp)).trans HROW.out)
      have HB1 := Lib.hid (HB0.out.trans (hb1.mono HB0.out.size))
      clear hb1
      go_wp2_with fail
      go_ret
      exact ⟨rfl, HB1.out⟩
    · have hlz : ¬ (768 : Int) < (s.more.length : Int) := by omega
      go_enter Tryz.func105, Tryz.ntmps105
      go_wp2_with fail
      refine HCF.out.mono ?_
      rintro e w1 ⟨rfl, hb1⟩
      have hrow1 := (hb1.block _ (by simp)).trans HROW.out
      have HB1 := Lib.hid (HB0.out.trans (hb1.mono HB0.out.size))
      have HSL1 := Lib.hid (HSL.out.below Dot.cells_len (by decide) hb1 (Nat.le_refl _))
      have hm := set_more (u := s.u) hrow1
      have HROW1 := Lib.hid hrow1
      clear hrow1 HCF HROW HSL HB0 hb1
      have hsblt : w.heap.size < w1.heap.size := World.block_lt_of_cell? w1 _ hm
      go_wp2_with fail
      go_loopg [17] s.more.length (fun gk s17 wr => ∃ (i : Nat), s17 = .int .i64 i ∧ i ≤ s.more.length ∧ s.more.length - i ≤ gk ∧ Hid (RightTo s i) ∧ Hid (Below w1.heap.size w1 wr))
      case atStart => exact ⟨0, rfl, Nat.zero_le _, Nat.le_refl _, rightTo_zero s, Below.refl _ _⟩
      case round =>
        obtain ⟨i, rfl, hi, hg, HP, HB⟩ := hrel
        clear hm
        by_cases hlt : i < s.more.length
        · have hltz : (i : Int) < (s.more.length : Int) := by omega
          have hsl := HSL1.out.below Dot.cells_len (by decide) HB.out (Nat.le_refl _)
          obtain ⟨b, off, rfl⟩ := hsl.plain Dot.cells_len (by decide) (by intro e; rw [e] at hlt; exact absurd hlt (by simp))
          have c0 := hsl.cell Dot.cells_len (i := i) (c := 0) hlt (by decide)
          have c1 := hsl.cell Dot.cells_len (i := i) (c := 1) hlt (by decide)
          have hprev : ∀ hz : 0 < i, wr.cell? ⟨b, off + (i - 1) * 2, none⟩ = some (.int .i64 (s.more[i - 1]'(by omega)).node) ∧ wr.cell? ⟨b, off + (i - 1) * 2 + 1, none⟩ = some (.int .i64 (s.more[i - 1]'(by omega)).seq) := fun hz => by
            have k0 := hsl.cell Dot.cells_len (i := i - 1) (c := 0) (by omega) (by decide)
            have k1 := hsl.cell Dot.cells_len (i := i - 1) (c := 1) (by omega) (by decide)
            exact ⟨k0, k1⟩
          replace c0 : wr.cell? ⟨b, off + i * 2, none⟩ = some (.int .i64 s.more[i].node) := c0
          replace c1 : wr.cell? ⟨b, off + i * 2 + 1, none⟩ = some (.int .i64 s.more[i].seq) := c1
          have hrow := (HB.out.block _ hsblt).trans HROW1.out
          have hstep := rightTo_step HP.out hlt
          have hprevMay : ∀ hz : 0 < i, May (s.more[i - 1]'(by omega)) := fun hz => (HP.out.1 _ (List.mem_take_iff_getElem.2 ⟨i - 1, by omega, rfl⟩)).1
          have hright : ∀ hr : s.Right, May s.more[i] ∧ 2 ≤ s.more[i].seq - s.u s.more[i].node.toNat ∧ ∀ hz : 0 < i, Before (s.more[i - 1]'(by omega)) s.more[i] := fun hr => ⟨(hr.2.2.1 _ (List.getElem_mem hlt)).1, (hr.2.2.1 _ (List.getElem_mem hlt)).2, fun hz => right_prev hr hz hlt⟩
          have hub := (upList_any s.u).1 HC.out
          generalize s.more[i] = d at *
          have hmx : Tryz.prog.follows .mixedOrders = true := by kernel_rfl
          have hblt : b < wr.heap.size := World.block_lt_of_cell? wr _ c0
          have hslt : w.heap.size < wr.heap.size := (Array.getElem?_eq_some_iff.1 hrow).1
          have HBA := Lib.hid ((Below.refl wr.heap.size wr).alloc (Nat.le_refl _) (.cells #[.int .i64 d.node, .int .i64 d.seq] 108))
          have hnew : (wr.alloc (.cells #[.int .i64 d.node, .int .i64 d.seq] 108)).heap[wr.heap.size]? = some (.cells #[.int .i64 d.node, .int .i64 d.seq] 108) := heap_alloc_new wr _
          have hrowA := (HBA.out.block _ hslt).trans hrow
          have hprevA : ∀ hz : 0 < i, (wr.alloc (.cells #[.int .i64 d.node, .int .i64 d.seq] 108)).cell? ⟨b, off + (i - 1) * 2, none⟩ = some (.int .i64 (s.more[i - 1]'(by omega)).node) ∧ (wr.alloc (.cells #[.int .i64 d.node, .int .i64 d.seq] 108)).cell? ⟨b, off + (i - 1) * 2 + 1, none⟩ = some (.int .i64 (s.more[i - 1]'(by omega)).seq) := fun hz => ⟨(HBA.out.cell hblt).trans (hprev hz).1, (HBA.out.cell hblt).trans (hprev hz).2⟩
          have hltA : wr.heap.size < (wr.alloc (.cells #[.int .i64 d.node, .int .i64 d.seq] 108)).heap.size := by simp
          have HPRE := Lib.hid hprevA
          have HPM := Lib.hid hprevMay
          have HSTEP := Lib.hid hstep
          have HRIGHT := Lib.hid hright
          have HUB := Lib.hid hub
          clear hsl hrow hprev hprevA hprevMay hstep hright hub HP
          go_wp2_with fail
          have HBW := Lib.hid (HB.out.trans (HBA.out.mono HB.out.size))
          have hmay := fun n os => may_any d (grow ((wr.alloc (.cells #[.int .i64 d.node, .int .i64 d.seq] 108)).drewN n) os)
          generalize wr.alloc (.cells #[.int .i64 d.node, .int .i64 d.seq] 108) = W at *
          generalize wr.heap.size = db at *
          have sbW : w.heap.size < W.heap.size := by omega
          have bW : b < W.heap.size := by omega
          have d0 : ∀ n os, (grow (W.drewN n) os).cell? ⟨db, 0, none⟩ = some (.int .i64 d.node) := cell_grown (o := 0) hltA (cell_of_row W db 0 _ _ _ hnew)
          have d1 : ∀ n os, (grow (W.drewN n) os).cell? ⟨db, 1, none⟩ = some (.int .i64 d.seq) := cell_grown (o := 1) hltA (cell_of_row W db 1 _ _ _ hnew)
          have m0 := cell_grown (o := 8) sbW (set_more (u := s.u) hrowA)
          by_cases hm : May d
          · have hmb : mayB d = true := decide_eq_true hm
            rw [hmb] at hmay
            have HMAY := Lib.hid hmay
            obtain ⟨h1, h2, h3, h4⟩ := hm
            have hu := HUB.out d.node.toNat (by omega)
            have u0 := cell_grown (o := d.node.toNat) sbW (set_up (u := s.u) hrowA d.node.toNat (by omega))
            have hnodez : ((d.node.toNat : Nat) : Int) = d.node := Int.toNat_of_nonneg h1
            by_cases h5 : 2 ≤ d.seq - s.u d.node.toNat
            · generalize hux : s.u d.node.toNat = ux at *
              obtain ⟨df, hdf⟩ : ∃ df, d.seq - ux = df := ⟨_, rfl⟩
              have hwr : IntKind.i64.wrap df = df := IntWalk.i64_in _ (by omega)
              have h5n : ¬ df < 2 := by omega
              have H5 := Lib.hid h5
              clear h5
              by_cases hz : 0 < i
              · have hzb : decide (0 < i) = true := decide_eq_true hz
                have hpi : i - 1 < s.more.length := by omega
                obtain ⟨p0, p1⟩ := HPRE.out hz
                have hpm := HPM.out hz
                have hstep2 := fun (h6 : Before (s.more[i - 1]'hpi) d) => HSTEP.out ⟨h1, h2, h3, h4⟩ H5.out (fun _ => h6)
                have hright2 : ¬ Before (s.more[i - 1]'hpi) d → ¬ s.Right := fun h6 hr => h6 ((HRIGHT.out hr).2.2 hz)
                have hcmp := fun n os => dcompare_any (s.more[i - 1]'hpi) d hpm ⟨h1, h2, h3, h4⟩ (grow (W.drewN n) os)
                have hcn := cmpDot_neg (a := s.more[i - 1]'hpi) (b := d)
                generalize cmpDot (s.more[i - 1]'hpi) d = cv at hcmp hcn
                generalize s.more[i - 1]'hpi = pd at *
                obtain ⟨p, hp⟩ : ∃ p, i - 1 = p := ⟨_, rfl⟩
                rw [hp] at p0 p1 hpi
                have hsub : (i : Int) - 1 = (p : Int) := by omega
                have hwp : IntKind.i64.wrap (p : Int) = (p : Int) := IntWalk.i64_in _ (by omega)
                have hplt : (p : Int) < (s.more.length : Int) := by omega
                have q0 := cell_grown bW p0
                have q1 := cell_grown bW p1
                have HCMP := Lib.hid hcmp
                clear hmay hcmp hnew hrowA HSTEP HRIGHT HUB HPRE HPM H5 hux hz hpm p0 p1 hp
                by_cases h6 : Before pd d
                · have hcb : decide (0 ≤ cv) = false := decide_eq_false (by have := hcn.2 h6; omega)
                  have HST := Lib.hid (hstep2 h6)
                  clear hstep2 hright2 h6 hcn
                  refine wp_region_quiet_grown (by assumption) (by kernel_rfl) ?_
                  repeat (go_big_quiet_step (first | (go_at_call 119; refine Calls.grown_of (HMAY.out _ _)) | (go_at_call 120; refine Calls.grown_of (HCMP.out _ _))))
                  refine wpQuiet_nil ?_
                  intro _ hw'
                  obtain ⟨⟨nq, osq⟩, hw''⟩ := hw'
                  subst hw''
                  go_wp2_with fail
                  go_roundg (s.more.length - (i + 1))
                  case measure => omega
                  case rel => exact ⟨i + 1, by go_num, by omega, Nat.le_refl _, HST.out, HBW.out.trans ((Grew.below ⟨nq, osq, rfl⟩).mono HBW.out.size)⟩
                · have hcb : decide (0 ≤ cv) = true := decide_eq_true (Int.not_lt.1 fun h => h6 (hcn.1 h))
                  have HNR := Lib.hid (hright2 h6)
                  clear hstep2 hright2 h6 hcn
                  refine wp_region_quiet_grown (by assumption) (by kernel_rfl) ?_
                  repeat (go_big_quiet_step (first | (go_at_call 119; refine Calls.grown_of (HMAY.out _ _)) | (go_at_call 120; refine Calls.grown_of (HCMP.out _ _))))
                  refine wpQuiet_nil ?_
                  intro _ hw'
                  obtain ⟨⟨nq, osq⟩, hw''⟩ := hw'
                  subst hw''
                  go_wp2_with fail
                  go_ret
                  exact ⟨retB (DSet.rightB_false HNR.out).symm, (HB1.out.trans ((HBW.out.trans ((Grew.below ⟨nq, osq, rfl⟩).mono HBW.out.size)).mono HB1.out.size))⟩
              · have hzb : decide (0 < i) = false := decide_eq_false hz
                have HST := Lib.hid (HSTEP.out ⟨h1, h2, h3, h4⟩ H5.out (fun hz => by omega))
                clear hmay hnew hrowA HSTEP HRIGHT HUB HPRE HPM H5 hux hz
                refine wp_region_quiet_grown (by assumption) (by kernel_rfl) ?_
                repeat (go_big_quiet_step (first | (go_at_call 119; refine Calls.grown_of (HMAY.out _ _))))
                refine wpQuiet_nil ?_
                intro _ hw'
                obtain ⟨⟨nq, osq⟩, hw''⟩ := hw'
                subst hw''
                go_wp2_with fail
                go_roundg (s.more.length - (i + 1))
                case measure => omega
                case rel => exact ⟨i + 1, by go_num, by omega, Nat.le_refl _, HST.out, HBW.out.trans ((Grew.below ⟨nq, osq, rfl⟩).mono HBW.out.size)⟩
            · have HNR := Lib.hid (fun hr : s.Right => h5 (HRIGHT.out hr).2.1)
              generalize s.u d.node.toNat = ux at *
              obtain ⟨df, hdf⟩ : ∃ df, d.seq - ux = df := ⟨_, rfl⟩
              have hwr : IntKind.i64.wrap df = df := IntWalk.i64_in _ (by omega)
              have h5n : df < 2 := by omega
              clear hmay hnew hrowA HSTEP HRIGHT HUB HPRE HPM h5
              refine wp_region_quiet_grown (by assumption) (by kernel_rfl) ?_
              repeat (go_big_quiet_step (first | (go_at_call 119; refine Calls.grown_of (HMAY.out _ _))))
              refine wpQuiet_nil ?_
              intro _ hw'
              obtain ⟨⟨nq, osq⟩, hw''⟩ := hw'
              subst hw''
              go_wp2_with fail
              go_ret
              exact ⟨retB (DSet.rightB_false HNR.out).symm, (HB1.out.trans ((HBW.out.trans ((Grew.below ⟨nq, osq, rfl⟩).mono HBW.out.size)).mono HB1.out.size))⟩
          · have hmb : mayB d = false := decide_eq_false hm
            rw [hmb] at hmay
            have HMAY := Lib.hid hmay
            have HNR := Lib.hid (fun hr : s.Right => hm (HRIGHT.out hr).1)
            clear hmay hnew hrowA HSTEP HRIGHT HUB HPRE HPM hm
            refine wp_region_quiet_grown (by assumption) (by kernel_rfl) ?_
            repeat (go_big_quiet_step (first | (go_at_call 119; refine Calls.grown_of (HMAY.out _ _))))
            refine wpQuiet_nil ?_
            intro _ hw'
            obtain ⟨⟨nq, osq⟩, hw''⟩ := hw'
            subst hw''
            go_wp2_with fail
            go_ret
            exact ⟨retB (DSet.rightB_false HNR.out).symm, (HB1.out.trans ((HBW.out.trans ((Grew.below ⟨nq, osq, rfl⟩).mono HBW.out.size)).mono HB1.out.size))⟩
        · have hltz : ¬ (i : Int) < (s.more.length : Int) := by omega
          obtain rfl : i = s.more.length := by omega
          go_wp2_with fail
          go_ret
          exact ⟨retB (DSet.rightB_true (rightTo_done HP.out HC.out (by omega))).symm, HB1.out.trans (HB.out.mono HB1.out.size)⟩
end Go.Proofs.YtejihgfigclppaaGreat
