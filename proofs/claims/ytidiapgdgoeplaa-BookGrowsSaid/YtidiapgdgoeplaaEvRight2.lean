/-
  event.Right walked: whether an event may be.
-/
import Derived.Test.YtidiapgdgoeplaaEvRight
namespace Go.Proofs.Ytidiapgdgoeplaa
open Go.Shelf Go.RowKit Go.Lib Go.Sort
set_option linter.unusedVariables false
/-- the cells of an event in a block of its own -/
theorem ev_row {W : World} {b : Nat} {ev : Ev} {v : Value} {e : TypeId} (h : W.heap[b]? = some (.cells #[.int .i64 ev.dot.node, .int .i64 ev.dot.seq, .int .i64 ev.time, .int .i64 ev.kind, .int .i64 ev.work, .int .i64 ev.value, .int .i64 ev.pol.mn, .int .i64 ev.pol.mx, .int .i64 ev.pol.goal, .int .i64 ev.pol.slack, .int .i64 ev.pol.up, .int .i64 ev.pol.down, .int .i64 ev.pol.cool, v] e)) : W.cell? ⟨b, 0, none⟩ = some (.int .i64 ev.dot.node) ∧ W.cell? ⟨b, 1, none⟩ = some (.int .i64 ev.dot.seq) ∧ W.cell? ⟨b, 2, none⟩ = some (.int .i64 ev.time) ∧ W.cell? ⟨b, 3, none⟩ = some (.int .i64 ev.kind) ∧ W.cell? ⟨b, 4, none⟩ = some (.int .i64 ev.work) ∧ W.cell? ⟨b, 5, none⟩ = some (.int .i64 ev.value) ∧ W.cell? ⟨b, 6, none⟩ = some (.int .i64 ev.pol.mn) ∧ W.cell? ⟨b, 7, none⟩ = some (.int .i64 ev.pol.mx) ∧ W.cell? ⟨b, 8, none⟩ = some (.int .i64 ev.pol.goal) ∧ W.cell? ⟨b, 9, none⟩ = some (.int .i64 ev.pol.slack) ∧ W.cell? ⟨b, 10, none⟩ = some (.int .i64 ev.pol.up) ∧ W.cell? ⟨b, 11, none⟩ = some (.int .i64 ev.pol.down) ∧ W.cell? ⟨b, 12, none⟩ = some (.int .i64 ev.pol.cool) ∧ W.cell? ⟨b, 13, none⟩ = some v :=
  ⟨cell_of_row W b 0 _ _ _ h, cell_of_row W b 1 _ _ _ h, cell_of_row W b 2 _ _ _ h, cell_of_row W b 3 _ _ _ h, cell_of_row W b 4 _ _ _ h, cell_of_row W b 5 _ _ _ h, cell_of_row W b 6 _ _ _ h, cell_of_row W b 7 _ _ _ h, cell_of_row W b 8 _ _ _ h, cell_of_row W b 9 _ _ _ h, cell_of_row W b 10 _ _ _ h, cell_of_row W b 11 _ _ _ h, cell_of_row W b 12 _ _ _ h, cell_of_row W b 13 _ _ _ h⟩
theorem run_eql_pol0 (p : Pol) (w : World) : (binOp .eql 30 (.agg #[.int .i64 p.mn, .int .i64 p.mx, .int .i64 p.goal, .int .i64 p.slack, .int .i64 p.up, .int .i64 p.down, .int .i64 p.cool]) (.agg #[.int .i64 0, .int .i64 0, .int .i64 0, .int .i64 0, .int .i64 0, .int .i64 0, .int .i64 0])).run Try.prog w = .ok (.bool (decide (p = polZero))) w := by
  obtain ⟨a, b, c, d, e, f, g⟩ := p
  go_simp
  simp only [polZero, Pol.mk.injEq]
  by_cases h1 : a = 0 <;> by_cases h2 : b = 0 <;> by_cases h3 : c = 0 <;> by_cases h4 : d = 0 <;> by_cases h5 : e = 0 <;> by_cases h6 : f = 0 <;> by_cases h7 : g = 0 <;> simp [h1, h2, h3, h4, h5, h6, h7]
theorem polRight_iff (p : Pol) : p.right ↔ PolRight p := by unfold Pol.right PolRight; omega
def rightEvB (e : Ev) : Bool := decide (RightEv e)
set_option maxHeartbeats 16000000 in
theorem evRight_any (hd : Hdr) (ev : Ev) (w : World) (h : SlAt Dot.cells w hd.val ev.rem) (hl : ev.rem.length ≤ 1000000) :
    Calls Try.prog 23 #[.agg #[.int .i64 ev.dot.node, .int .i64 ev.dot.seq, .int .i64 ev.time, .int .i64 ev.kind, .int .i64 ev.work, .int .i64 ev.value, .int .i64 ev.pol.mn, .int .i64 ev.pol.mx, .int .i64 ev.pol.goal, .int .i64 ev.pol.slack, .int .i64 ev.pol.up, .int .i64 ev.pol.down, .int .i64 ev.pol.cool, hd.val]] w fun e w' => e = .returned (.bool (rightEvB ev)) ∧ Below w.heap.size w w' := by
  obtain ⟨ra, rn, rc⟩ := hd
  obtain ⟨ra', rc', hv, _⟩ := h.slice_of
  simp only [Hdr.val, Value.slice.injEq] at hv h ⊢
  obtain ⟨rfl, rfl, rfl⟩ := hv
  have hb1 := (Below.refl w.heap.size w).alloc (Nat.le_refl _) (.cells #[.int .i64 ev.dot.node, .int .i64 ev.dot.seq, .int .i64 ev.time, .int .i64 ev.kind, .int .i64 ev.work, .int .i64 ev.value, .int .i64 ev.pol.mn, .int .i64 ev.pol.mx, .int .i64 ev.pol.goal, .int .i64 ev.pol.slack, .int .i64 ev.pol.up, .int .i64 ev.pol.down, .int .i64 ev.pol.cool, .slice ra ev.rem.length rc] 33)
  have hrow : (w.alloc (.cells #[.int .i64 ev.dot.node, .int .i64 ev.dot.seq, .int .i64 ev.time, .int .i64 ev.kind, .int .i64 ev.work, .int .i64 ev.value, .int .i64 ev.pol.mn, .int .i64 ev.pol.mx, .int .i64 ev.pol.goal, .int .i64 ev.pol.slack, .int .i64 ev.pol.up, .int .i64 ev.pol.down, .int .i64 ev.pol.cool, .slice ra ev.rem.length rc] 33)).heap[w.heap.size]? = some (.cells #[.int .i64 ev.dot.node, .int .i64 ev.dot.seq, .int .i64 ev.time, .int .i64 ev.kind, .int .i64 ev.work, .int .i64 ev.value, .int .i64 ev.pol.mn, .int .i64 ev.pol.mx, .int .i64 ev.pol.goal, .int .i64 ev.pol.slack, .int .i64 ev.pol.up, .int .i64 ev.pol.down, .int .i64 ev.pol.cool, .slice ra ev.rem.length rc] 33) := heap_alloc_new w _
  have hadd := fun W => addNone_any ev.dot W
  have HADD := Lib.hid hadd
  have HS := Lib.hid h
  have HB1 := Lib.hid hb1
  have HROW := Lib.hid hrow
  obtain ⟨RE, hre⟩ : ∃ RE : Prop, RightEv ev = RE := ⟨_, rfl⟩
  have HRE := Lib.hid hre
  clear hadd h hb1 hrow hre
  go_enter Try.func23, Try.ntmps23
  go_wp2_with fail
  refine (HADD.out _).mono ?_
  rintro e w2 ⟨u2, ⟨o2, n2, c2⟩, c, rfl, hc, hb2⟩
  have hrow2 := (hb2.block _ (by simp)).trans HROW.out
  have HB2 := Lib.hid (HB1.out.trans (hb2.mono HB1.out.size))
  have hsz2 : w.heap.size < w2.heap.size := (Array.getElem?_eq_some_iff.1 hrow2).1
  clear hb2 HROW HADD
  by_cases hm : May ev.dot
  · rw [if_pos hm] at hc
    subst hc
    have HMY := Lib.hid hm
    obtain ⟨e0, e1, e2, e3, e4, e5, e6, e7, e8, e9, e10, e11, e12, e13⟩ := ev_row hrow2
    clear e3 e5 e6 e7 e8 e9 e10 e11 e12 hm
    by_cases hT : 1 ≤ ev.time ∧ ev.time ≤ 1099511627776
    · have bT := inB_yes hT
      by_cases hW : 0 ≤ ev.work ∧ ev.work ≤ 7
      · have bW := inB_yes hW
        by_cases hL : ev.rem.length ≤ 96
        · have hLz : (ev.rem.length : Int) ≤ 96 := by omega
          have hnm := fun W (hb : Below w.heap.size w W) => named_any ev.dot ra rc ev.rem W (HS.out.below Dot.cells_len (by decide) hb (Nat.le_refl _)) hl
          have HNM := Lib.hid hnm
          have HT := Lib.hid hT
          have HW := Lib.hid hW
          have HBA := Lib.hid (fun o => HB2.out.alloc HB2.out.size o)
          have HROW2 := Lib.hid hrow2
          clear hnm hT hW hrow2
          go_wp2_with (go_at_call 43; refine (evWithin_inB _ _ _ (by omega) _).mono ?_; rintro e w' ⟨rfl, rfl⟩)
          refine (HNM.out _ (HBA.out _)).mono ?_
          rintro e w4 ⟨rfl, hb4⟩
          have hrow4 := (hb4.block _ (by rw [World.size_alloc]; omega)).trans ((Below.heap_alloc _ _ _ hsz2).trans HROW2.out)
          have HB4 := Lib.hid ((HBA.out _).trans (hb4.mono (HBA.out _).size))
          obtain ⟨f0, f1, f2, f3, f4, f5, f6, f7, f8, f9, f10, f11, f12, f13⟩ := ev_row hrow4
          have hlt4 : w.heap.size < w4.heap.size := (Array.getElem?_eq_some_iff.1 hrow4).1
          obtain ⟨rb, hrb⟩ : ∃ rb, remB ev.dot ev.rem = rb := ⟨_, rfl⟩
          have hqp := run_eql_pol0 ev.pol
          obtain ⟨bz, hbz⟩ : ∃ bz, decide (ev.pol = polZero) = bz := ⟨_, rfl⟩
          rw [hbz] at hqp
          have HZ := Lib.hid hbz
          clear hb4 hrow4 hbz e0 e1 e2 e4 e13 bT bW HROW2 HNM
          simp only [hrb]
          cases rb with
          | false =>
            have HN := Lib.hid (show ¬ RightEv ev from fun hr => by have := decide_eq_true hr.2.2.2.2.1; unfold remB at hrb; rw [hrb] at this; cases this)
            clear hrb
            go_wp2_with fail
            go_ret
            exact ⟨retB (decide_eq_false HN.out).symm, HB4.out⟩
          | true =>
            have HRB := Lib.hid (of_decide_eq_true hrb)
            clear hrb
            by_cases k1 : ev.kind = 1
            · cases bz with
              | false =>
                have hpz := of_decide_eq_false HZ.out
                have HN := Lib.hid (show ¬ RightEv ev from fun hr => hpz (by rcases hr.2.2.2.2.2 with h | h | h; exact h.2.1; omega; omega))
                clear hpz
                go_wp2_with (go_at_call 43; refine (evWithin_inB _ _ _ (by omega) _).mono ?_; rintro e w' ⟨rfl, rfl⟩)
                go_ret
                exact ⟨retB (decide_eq_false HN.out).symm, HB4.out⟩
              | true =>
                have hpz := of_decide_eq_true HZ.out
                by_cases hV : 0 ≤ ev.value ∧ ev.value ≤ 1099511627776
                · have bV := inB_yes hV
                  by_cases hR : ev.rem.length = 0
                  · have hRz : (ev.rem.length : Int) = 0 := by omega
                    have HY := Lib.hid (show RightEv ev from ⟨HMY.out, HT.out, HW.out, hL, HRB.out, .inl ⟨k1, hpz, hV.1, hV.2, List.eq_nil_of_length_eq_zero hR⟩⟩)
                    clear hpz hV
                    go_wp2_with (go_at_call 43; refine (evWithin_inB _ _ _ (by omega) _).mono ?_; rintro e w' ⟨rfl, rfl⟩)
                    go_ret
                    exact ⟨retB (decide_eq_true HY.out).symm, HB4.out⟩
                  · have hRz : ¬ (ev.rem.length : Int) = 0 := by omega
                    have hRb : ((ev.rem.length : Int) == 0) = false := beq_eq_false_iff_ne.2 hRz
                    have HN := Lib.hid (show ¬ RightEv ev from fun hr => hR (by rcases hr.2.2.2.2.2 with h | h | h; rw [h.2.2.2.2]; rfl; omega; omega))
                    clear hpz hV hR
                    go_wp2_with (go_at_call 43; refine (evWithin_inB _ _ _ (by omega) _).mono ?_; rintro e w' ⟨rfl, rfl⟩)
                    go_ret
                    exact ⟨retB (decide_eq_false HN.out).symm, HB4.out⟩
                · have bV := inB_no hV
                  have HN := Lib.hid (show ¬ RightEv ev from fun hr => hV (by rcases hr.2.2.2.2.2 with h | h | h; exact ⟨h.2.2.1, h.2.2.2.1⟩; omega; omega))
                  clear hpz hV
                  go_wp2_with (go_at_call 43; refine (evWithin_inB _ _ _ (by omega) _).mono ?_; rintro e w' ⟨rfl, rfl⟩)
                  go_ret
                  exact ⟨retB (decide_eq_false HN.out).symm, HB4.out⟩
            · by_cases k2 : ev.kind = 2
              · have hrp := fun W => rightPolicy_any ev.pol W
                have HRP := Lib.hid hrp
                clear hrp
                go_wp2_with fail
                refine (HRP.out _).mono ?_
                rintro e w5 ⟨rfl, hb5⟩
                have f5' := (hb5.cell (p := ⟨w.heap.size, 5, none⟩) hlt4).trans f5
                have HB5 := Lib.hid (HB4.out.trans (hb5.mono HB4.out.size))
                obtain ⟨pb, hpb⟩ : ∃ pb, ev.pol.rightB = pb := ⟨_, rfl⟩
                simp only [hpb]
                have hlt5 : w.heap.size < w5.heap.size := Nat.lt_of_lt_of_le hlt4 hb5.size
                clear hb5 f0 f1 f2 f3 f4 f5 f6 f7 f8 f9 f10 f11 f12 f13 HRP
                cases pb with
                | false =>
                  have HN := Lib.hid (show ¬ RightEv ev from fun hr => by
                    rcases hr.2.2.2.2.2 with h | h | h
                    · omega
                    · rw [Pol.rightB_true ((polRight_iff _).2 h.2.1)] at hpb; cases hpb
                    · omega)
                  clear hpb
                  go_wp2_with fail
                  go_ret
                  exact ⟨retB (decide_eq_false HN.out).symm, HB5.out⟩
                | true =>
                  have hpr := (polRight_iff _).1 (Pol.rightB_iff.1 hpb)
                  clear hpb
                  by_cases hv0 : ev.value = 0
                  · have HY := Lib.hid (show RightEv ev from ⟨HMY.out, HT.out, HW.out, hL, HRB.out, .inr (.inl ⟨k2, hpr, hv0⟩)⟩)
                    clear hpr
                    go_wp2_with fail
                    go_ret
                    exact ⟨retB (decide_eq_true HY.out).symm, HB5.out⟩
                  · have HN := Lib.hid (show ¬ RightEv ev from fun hr => hv0 (by rcases hr.2.2.2.2.2 with h | h | h; omega; exact h.2.2; omega))
                    have hvb : (ev.value == 0) = false := beq_eq_false_iff_ne.2 hv0
                    clear hpr
                    go_wp2_with fail
                    go_ret
                    exact ⟨retB (decide_eq_false HN.out).symm, HB5.out⟩
              · by_cases k3 : ev.kind = 3
                · cases bz with
                  | false =>
                    have HN := Lib.hid (show ¬ RightEv ev from fun hr => (of_decide_eq_false HZ.out) (by rcases hr.2.2.2.2.2 with h | h | h; omega; omega; exact h.2.1))
                    go_wp2_with fail
                    go_ret
                    exact ⟨retB (decide_eq_false HN.out).symm, HB4.out⟩
                  | true =>
                    by_cases hv0 : ev.value = 0
                    · have HY := Lib.hid (show RightEv ev from ⟨HMY.out, HT.out, HW.out, hL, HRB.out, .inr (.inr ⟨k3, of_decide_eq_true HZ.out, hv0⟩)⟩)
                      go_wp2_with fail
                      go_ret
                      exact ⟨retB (decide_eq_true HY.out).symm, HB4.out⟩
                    · have HN := Lib.hid (show ¬ RightEv ev from fun hr => hv0 (by rcases hr.2.2.2.2.2 with h | h | h; omega; omega; exact h.2.2))
                      have hvb : (ev.value == 0) = false := beq_eq_false_iff_ne.2 hv0
                      go_wp2_with fail
                      go_ret
                      exact ⟨retB (decide_eq_false HN.out).symm, HB4.out⟩
                · have HN := Lib.hid (show ¬ RightEv ev from fun hr => by rcases hr.2.2.2.2.2 with h | h | h <;> omega)
                  go_wp2_with fail
                  go_ret
                  exact ⟨retB (decide_eq_false HN.out).symm, HB4.out⟩
        · have hLz : ¬ (ev.rem.length : Int) ≤ 96 := by omega
          have HN := Lib.hid (show ¬ RightEv ev from fun hr => hL hr.2.2.2.1)
          clear hT hW hL
          go_wp2_with (go_at_call 43; refine (evWithin_inB _ _ _ (by omega) _).mono ?_; rintro e w' ⟨rfl, rfl⟩)
          go_ret
          exact ⟨retB (decide_eq_false HN.out).symm, HB2.out.alloc HB2.out.size _⟩
      · have bW := inB_no hW
        have HN := Lib.hid (show ¬ RightEv ev from fun hr => hW hr.2.2.1)
        clear hT hW
        go_wp2_with (go_at_call 43; refine (evWithin_inB _ _ _ (by omega) _).mono ?_; rintro e w' ⟨rfl, rfl⟩)
        go_ret
        exact ⟨retB (decide_eq_false HN.out).symm, HB2.out.alloc HB2.out.size _⟩
    · have bT := inB_no hT
      have HN := Lib.hid (show ¬ RightEv ev from fun hr => hT hr.2.1)
      clear hT
      go_wp2_with (go_at_call 43; refine (evWithin_inB _ _ _ (by omega) _).mono ?_; rintro e w' ⟨rfl, rfl⟩)
      go_ret
      exact ⟨retB (decide_eq_false HN.out).symm, HB2.out.alloc HB2.out.size _⟩
  · rw [if_neg hm] at hc
    subst hc
    have HNM := Lib.hid hm
    clear hm hrow2
    go_wp2_with fail
    go_ret
    exact ⟨retB (decide_eq_false fun hr => HNM.out hr.1).symm, HB2.out.alloc HB2.out.size _⟩
end Go.Proofs.Ytidiapgdgoeplaa
