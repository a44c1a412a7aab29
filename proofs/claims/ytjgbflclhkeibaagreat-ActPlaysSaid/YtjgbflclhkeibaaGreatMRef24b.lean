/-
  The reference's Recent and Done, walked.
  The reference's Step and Stable, walked: they answer as the program's do.
-/
import Derived.Test.YtjgbflclhkeibaaGreatMRef24
import Derived.Test.YtjgbflclhkeibaaGreatActD
import Derived.Test.YtjgbflclhkeibaaGreatMRefOrder
import Derived.Test.YtjgbflclhkeibaaGreatMIntRow
import Derived.Deep.QuietTactic
import Derived.BigQuiet
namespace Go.Proofs.YtjgbflclhkeibaaGreat
open Go.Shelf Go.RowKit Go.Lib Go.Sort
set_option linter.unusedVariables false
section
variable {b B : Nat} {c : ACfg} {vs : Nat → Value} {ts : Nat → Trk} {w : World}
set_option maxHeartbeats 2000000 in
theorem refRecent_in (n : Nat) (hn : n < 8) (hk1 : 1 ≤ c.keep) (hk2 : c.keep ≤ 16) (hl : (ts n).wished.length ≤ 1000) (h : RObj b B w c vs ts) :
    Calls Tryz.prog 15 #[.pointer (some ⟨b, 0, none⟩), .int .i64 (n : Int)] w fun e w' => ∃ v', e = .returned v' ∧ Owns icells 1 w.heap.size 3 w' v' (lastN c.keep.toNat (ts n).wished) ∧ Below w.heap.size w w' := by
  have c0 : w.cell? ⟨b, 4 + n, none⟩ = some (vs n) := (h.cell _).trans (rcells_wished c vs ts hn)
  have c2 : w.cell? ⟨b, 2, none⟩ = some (.int .i64 c.keep) := h.cell 2
  obtain ⟨ho, hnil⟩ := h.row n hn
  have hblt := h.lt
  have hb0 : decide ((n : Int) < 0) = false := decide_eq_false (by omega)
  have hb1 : decide ((n : Int) > 7) = false := decide_eq_false (by omega)
  have hz : (n : Int) < 8 := by omega
  clear h
  generalize (ts n).wished = l at *
  by_cases hle : l = []
  · have hvn := hnil hle
    subst hle
    rw [hvn] at c0
    have hw1 : wrap64 (-c.keep) = -c.keep := by unfold wrap64; omega
    have hmx : max 0 (-c.keep) = 0 := by omega
    have hnl : lastN c.keep.toNat ([] : List Int) = [] := by simp [lastN]
    rw [hnl]
    clear ho hnil hvn hnl
    go_enter Tryz.func15, Tryz.ntmps15
    go_wp2_with (at_builtin; go_loud (refine wpList_appD icells 1 icells_len (by decide) icells_one _ rfl _ _ 37 rfl w.heap.size 3 _ 8 Tryz.underlying37 infoInt rfl _ [] rfl ?h1 _ [] rfl ?h2 ?h3 ?h4 ?h5 ?_))
    case h1 => exact owns_made_int _ _ rfl
    case h2 => exact SlAt.nil _ _
    case h3 => simp
    case h4 => simp
    try (case h5 => simp)
    intro v' w' hown hg2 hv2 hd2
    have hb2 : Below w.heap.size w w' := ((Below.refl _ _).alloc (Nat.le_refl _) _).grown hg2 (by simp) (fun k hk => by simp [Value.ownBlock] at hk; omega)
    have HOWN := Lib.hid hown
    have HB2 := Lib.hid hb2
    clear hown hg2 hv2 hd2 hb2
    go_wp2_with fail
    go_ret
    exact ⟨v', rfl, HOWN.out, HB2.out⟩
  · obtain ⟨oa, cap, hv⟩ := slAt_slice ho.at
    rw [hv] at ho c0
    obtain ⟨g, cc, _, hcap, rfl, rfl, hsl, _⟩ := lastN_owns ho c.keep.toNat (by omega) hle
    have hlp : 0 < l.length := List.length_pos_iff.2 hle
    obtain ⟨k4, hk4⟩ : ∃ k4, k4 = l.length - c.keep.toNat := ⟨_, rfl⟩
    have hw1 : wrap64 ((l.length : Int) - c.keep) = (l.length : Int) - c.keep := by unfold wrap64; omega
    have hmx : max 0 ((l.length : Int) - c.keep) = (k4 : Int) := by omega
    have hkl : k4 ≤ l.length := by omega
    have hkc : k4 ≤ cap := by omega
    have hkn : ¬ cap = k4 := by omega
    have hmin : min c.keep.toNat l.length = l.length - k4 := by omega
    have hln : (lastN c.keep.toNat l).length ≤ 16 := by have := lastN_len c.keep.toNat l; omega
    rw [← hk4, hmin] at hsl
    have HSL := Lib.hid hsl
    generalize lastN c.keep.toNat l = ll at *
    clear ho hnil hle hv hk4 hmin hsl
    go_enter Tryz.func15, Tryz.ntmps15
    go_wp2_with (at_builtin; go_loud (refine wpList_appD icells 1 icells_len (by decide) icells_one _ rfl _ _ 37 rfl w.heap.size 3 _ 8 Tryz.underlying37 infoInt rfl _ [] rfl ?h1 _ ll rfl ?h2 ?h3 ?h4 ?h5 ?_))
    case h1 => exact owns_made_int _ _ rfl
    case h2 => exact HSL.out.below icells_len (by decide) ((Below.refl _ _).alloc (Nat.le_refl _) _) (Nat.le_refl _)
    case h3 => (try simp only [List.length_nil]); omega
    case h4 => (try simp only [List.length_nil]); omega
    try (case h5 => simp)
    intro v' w' hown hg2 hv2 hd2
    have hb2 : Below w.heap.size w w' := ((Below.refl _ _).alloc (Nat.le_refl _) _).grown hg2 (by simp) (fun k hk => by simp [Value.ownBlock] at hk; omega)
    have HOWN := Lib.hid hown
    have HB2 := Lib.hid hb2
    clear hown hg2 hv2 hd2 hb2
    go_wp2_with fail
    go_ret
    exact ⟨v', rfl, HOWN.out, HB2.out⟩
theorem refRecent_out (b : Nat) (k : Int) (hk : ¬ (0 ≤ k ∧ k ≤ 7)) (w : World) :
    Calls Tryz.prog 15 #[.pointer (some ⟨b, 0, none⟩), .int .i64 k] w fun e w' => e = .returned (.slice none 0 0) ∧ w = w' := by
  obtain ⟨y, hy⟩ : ∃ y, decide (k < 0) = y := ⟨_, rfl⟩
  cases y with
  | true =>
    clear hk
    go_enter Tryz.func15, Tryz.ntmps15
    go_wp2_with fail
    go_ret
    exact ⟨rfl, rfl⟩
  | false =>
    have hb1 : decide (k > 7) = true := decide_eq_true (by have := of_decide_eq_false hy; omega)
    clear hk
    go_enter Tryz.func15, Tryz.ntmps15
    go_wp2_with fail
    go_ret
    exact ⟨rfl, rfl⟩
set_option maxHeartbeats 2000000 in
theorem refDone_in (n : Nat) (hn : n < 8) (tick : Int) (h : RObj b B w c vs ts) :
    Calls Tryz.prog 9 #[.pointer (some ⟨b, 0, none⟩), .int .i64 (n : Int), .int .i64 tick] w fun e w' => e = .returned (.int .i64 0) ∧ RObj b B w' c vs (upd ts n ⟨(ts n).wished, true, tick⟩) ∧ w.grownBy w' (some b) := by
  have c1 : w.cell? ⟨b, 12 + n, none⟩ = some (.bool (ts n).written) := (h.cell _).trans (rcells_written c vs ts hn)
  have c2 : w.cell? ⟨b, 20 + n, none⟩ = some (.int .i64 (ts n).at') := (h.cell _).trans (rcells_at c vs ts hn)
  have f1 := h.frozen (12 + n)
  have f2 := h.frozen (20 + n)
  have hb0 : decide ((n : Int) < 0) = false := decide_eq_false (by omega)
  have hb1 : decide ((n : Int) > 7) = false := decide_eq_false (by omega)
  have hz : (n : Int) < 8 := by omega
  have hfin : ∀ W : World, W = w.drew → RObj b B ((W.setCell ⟨b, 12 + n, none⟩ (.bool true)).setCell ⟨b, 20 + n, none⟩ (.int .i64 tick)) c vs (upd ts n ⟨(ts n).wished, true, tick⟩) ∧ w.grownBy ((W.setCell ⟨b, 12 + n, none⟩ (.bool true)).setCell ⟨b, 20 + n, none⟩ (.int .i64 tick)) (some b) := by
    intro W hW
    have hb : Below w.heap.size w W := by rw [hW]; exact below_drew (Below.refl _ _)
    have h1 := h.below hb
    refine ⟨⟨?_, h1.bB, fun m hm => ?_, h1.apart⟩, grown_setC (grown_setC (by rw [hW]; exact ⟨rfl, rfl, rfl, Nat.le_refl _, fun _ _ _ => rfl⟩) _) _⟩
    · rw [heap_setCell_same _ b _ _ _ _ _ (heap_setCell_same _ b _ _ _ _ _ h1.heap), rcells_setD c vs ts hn]
    · have hr := h1.row m hm
      have e1 : (upd ts n ⟨(ts n).wished, true, tick⟩ m).wished = (ts m).wished := by
        unfold upd; split
        · subst_vars; rfl
        · rfl
      rw [e1]
      exact ⟨hr.1.keep fun g hg => (Below.heap_setCell _ _ _ g fun e => h1.nrow m hm (by rw [hg, e])).trans (Below.heap_setCell _ _ _ g fun e => h1.nrow m hm (by rw [hg, e])), hr.2⟩
  have HFIN := Lib.hid hfin
  clear h hfin
  go_enter Tryz.func9, Tryz.ntmps9
  go_wp2_with fail
  go_region
  all_goals
    go_wp2_with fail
    go_ret
    exact ⟨rfl, HFIN.out _ rfl⟩
theorem refDone_out (b : Nat) (k tick : Int) (hk : ¬ (0 ≤ k ∧ k ≤ 7)) (w : World) :
    Calls Tryz.prog 9 #[.pointer (some ⟨b, 0, none⟩), .int .i64 k, .int .i64 tick] w fun e w' => e = .returned (.int .i64 2) ∧ w = w' := by
  obtain ⟨y, hy⟩ : ∃ y, decide (k < 0) = y := ⟨_, rfl⟩
  cases y with
  | true =>
    clear hk
    go_enter Tryz.func9, Tryz.ntmps9
    go_wp2_with fail
    go_ret
    exact ⟨rfl, rfl⟩
  | false =>
    have hb1 : decide (k > 7) = true := decide_eq_true (by have := of_decide_eq_false hy; omega)
    clear hk
    go_enter Tryz.func9, Tryz.ntmps9
    go_wp2_with fail
    go_ret
    exact ⟨rfl, rfl⟩
end
end Go.Proofs.YtjgbflclhkeibaaGreat
namespace Go.Proofs.YtjgbflclhkeibaaGreat
open Go.Shelf Go.RowKit Go.Lib Go.Sort
set_option linter.unusedVariables false
set_option maxRecDepth 100000 in
set_option maxHeartbeats 4000000 in
theorem refStep_any (p : Pol) (hp : p.right) (load now : Int) (h0 : 0 ≤ now) (h1 : now ≤ 1000) (w : World) :
    Calls Tryz.prog 34 #[.agg #[.int .i64 p.mn, .int .i64 p.mx, .int .i64 p.goal, .int .i64 p.slack, .int .i64 p.up, .int .i64 p.down, .int .i64 p.cool], .int .i64 load, .int .i64 now] w fun e w' => e = .returned (.tuple #[.int .i64 (stepI p load now), .int .i64 0]) ∧ Below w.heap.size w w' := by
  have hrp := fun W => refRightPolicy_any p W
  rw [p.rightB_true hp] at hrp
  have hasked := fun W => refAsked_any p (topLoad load) W
  rw [asked_ok hp] at hasked
  have hain := asked_in hp (topLoad load)
  have hw1 := fun W => refWithin_any load 0 1099511627776 W
  rw [show within load 0 1099511627776 = topLoad load from rfl] at hw1
  have hstep : stepI p load now = within (within (if calmB p (topLoad load) now = true then now else (asked p (topLoad load)).1) p.mn p.mx) (now - p.down) (now + p.up) := rfl
  rw [hstep]
  clear hstep
  unfold Pol.right at hp
  obtain ⟨hp1, hp2, hp3, hp4, hp5, hp6, hp7, hp8, hp9, hp10, hp11, _⟩ := hp
  have e1 : clamp now = now := clamp_id (by omega) (by omega)
  have e2 : clamp p.goal = p.goal := clamp_id (by omega) (by omega)
  have hm1 := fun W => refMul_any now p.goal W (by rw [e1]; exact h0) (by rw [e2]; omega)
  have hca0 : 0 ≤ satMul now p.goal := by
    have : 0 ≤ now * p.goal := Int.mul_nonneg h0 (by omega)
    unfold satMul
    rw [e1, e2]
    unfold clamp within
    split <;> (try split) <;> omega
  generalize topLoad load = tl at *
  obtain ⟨ca, hca⟩ : ∃ ca, ca = satMul now p.goal := ⟨_, rfl⟩
  have hcab : -1099511627776 ≤ ca ∧ ca ≤ 1099511627776 := by rw [hca]; exact satMul_bd _ _
  have hofb := offI_bd tl ca
  have hsb := satSub_bd tl ca
  have hof : offI tl ca = max (satSub tl ca) (-(satSub tl ca)) := rfl
  have hsub := fun W => refSub_any tl ca W
  have e3 : clamp (100 : Int) = 100 := clamp_id (by omega) (by omega)
  have e4 : clamp (offI tl ca) = offI tl ca := clamp_id (by omega) (by omega)
  have hm2 := fun W => refMul_any 100 (offI tl ca) W (by rw [e3]; omega) (by rw [e4]; omega)
  have e5 : clamp p.slack = p.slack := clamp_id (by omega) (by omega)
  have e6 : clamp ca = ca := clamp_id (by omega) (by omega)
  have hm3 := fun W => refMul_any p.slack ca W (by rw [e5]; omega) (by rw [e6, hca]; omega)
  have hcb : calmB p tl now = (decide (now > 0) && decide (satMul 100 (offI tl ca) ≤ satMul p.slack ca)) := by rw [hca]; rfl
  rw [hcb]
  rw [← hca] at hm1
  generalize satMul 100 (offI tl ca) = m1 at *
  generalize satMul p.slack ca = m2 at *
  generalize offI tl ca = of at *
  generalize satSub tl ca = sb at *
  generalize (asked p tl).1 = ak at *
  have hw2 := fun W => refWithin_any now p.mn p.mx W
  have hw3 := fun x W => refWithin_any x (now - p.down) (now + p.up) W
  have HRP := Lib.hid hrp
  have HAS := Lib.hid hasked
  have HW1 := Lib.hid hw1
  have HW2 := Lib.hid hw2
  have HW3 := Lib.hid hw3
  have HM1 := Lib.hid hm1
  have hm2' := fun W => (hm2 W).mono fun e w' ⟨he, hw⟩ => (⟨he, hw.symm⟩ : e = _ ∧ w' = W)
  have hm3' := fun W => (hm3 W).mono fun e w' ⟨he, hw⟩ => (⟨he, hw.symm⟩ : e = _ ∧ w' = W)
  have HM2 := Lib.hid hm2'
  have HM3 := Lib.hid hm3'
  have HS := Lib.hid hsub
  have hs1 : wrap64 (now - p.down) = now - p.down := by unfold wrap64; omega
  have hs2 : wrap64 (now + p.up) = now + p.up := by unfold wrap64; omega
  have hz0 : ¬ now < 0 := by omega
  have hz1 : ¬ 1000 < now := by omega
  have hmx : Tryz.prog.follows .mixedOrders = true := by kernel_rfl
  clear hrp hasked hw1 hw2 hw3 hm1 hm2 hm3 hm2' hm3' hsub hcb hca hca0 e1 e2 e3 e4 e5 e6 hofb hp1 hp2 hp3 hp4 hp5 hp6 hp7 hp8 hp9 hp10 hp11 hcab h0 h1
  have HAI := Lib.hid hain
  clear hain
  have core : ∀ (Q : Ending → World → Prop), (∀ w', Below w.heap.size w w' → Q (.returned (.tuple #[.int .i64 (within (within (if (decide (now > 0) && decide (m1 ≤ m2)) = true then now else ak) p.mn p.mx) (now - p.down) (now + p.up)), .int .i64 0])) w') → Calls Tryz.prog 34 #[.agg #[.int .i64 p.mn, .int .i64 p.mx, .int .i64 p.goal, .int .i64 p.slack, .int .i64 p.up, .int .i64 p.down, .int .i64 p.cool], .int .i64 load, .int .i64 now] w Q := by
    intro Q HQ
    have hq := Lib.hid HQ
    clear HQ
    by_cases hsg : sb < 0
    · have hneg : wrap64 (-sb) = of := by unfold wrap64; omega
      clear hof hsb
      go_enter Tryz.func34, Tryz.ntmps34
      go_wp2_with fail
      refine (HRP.out _).mono ?_
      rintro e w1 ⟨rfl, hb1⟩
      have HB1 := Lib.hid (((Below.refl w.heap.size w).alloc (Nat.le_refl _) (.cells #[.int .i64 p.mn, .int .i64 p.mx, .int .i64 p.goal, .int .i64 p.slack, .int .i64 p.up, .int .i64 p.down, .int .i64 p.cool] 53)).trans (hb1.mono (by simp)))
      have HP1 := Lib.hid (show PolAt w1 w.heap.size p from (hb1.block _ (by simp)).trans (heap_alloc_new w _))
      obtain ⟨g0, g1, g2, g3, g4, g5, g6⟩ := HP1.out.cells
      clear hb1
      go_wp2_with fail
      refine (HW1.out _).mono ?_
      rintro e w2 ⟨rfl, rfl⟩
      go_wp2_with fail
      refine (HM1.out _).mono ?_
      rintro e w2 ⟨rfl, rfl⟩
      go_wp2_with fail
      refine (HS.out _).mono ?_
      rintro e w2 ⟨rfl, rfl⟩
      go_wp2_with fail
      refine (HAS.out _).mono ?_
      rintro e w3 ⟨rfl, hb3⟩
      have HB3 := Lib.hid (HB1.out.trans (hb3.mono HB1.out.size))
      have HP3 := Lib.hid (HP1.out.below hb3)
      clear hb3 g0 g1 g2 g3 g4 g5 g6 HB1 HP1
      obtain ⟨g0, g1, g2, g3, g4, g5, g6⟩ := HP3.out.cells
      by_cases hn0 : now > 0
      · have hb0 : decide (now > 0) = true := decide_eq_true hn0
        obtain ⟨y, hy⟩ : ∃ y, decide (m1 ≤ m2) = y := ⟨_, rfl⟩
        go_wp2_with fail
        go_quiet (first | (go_at_call_of 53 (Value.int .i64 of); refine Calls.quiet_of_same (HM2.out _)) | (go_at_call_of 53 (Value.int .i64 p.slack); refine Calls.quiet_of_same (HM3.out _)))
        cases y with
        | true =>
          go_wp2_with fail
          refine (HW2.out _).mono ?_
          rintro e w4 ⟨rfl, rfl⟩
          go_wp2_with fail
          refine (HW3.out _ _).mono ?_
          rintro e w4 ⟨rfl, rfl⟩
          go_wp2_with fail
          have := hq.out _ (HB3.out.trans ((below_drewN w3 nq).mono HB3.out.size))
          rw [hb0, hy] at this
          exact this
        | false =>
          go_wp2_with fail
          refine (HW3.out _ _).mono ?_
          rintro e w4 ⟨rfl, rfl⟩
          go_wp2_with fail
          have := hq.out _ (HB3.out.trans ((below_drewN w3 nq).mono HB3.out.size))
          rw [hb0, hy] at this
          simp only [Bool.and_false, Bool.false_eq_true, if_false, HAI.out] at this
          exact this
      · have hb0 : decide (now > 0) = false := decide_eq_false hn0
        go_wp2_with fail
        go_quiet (fail)
        go_wp2_with fail
        refine (HW3.out _ _).mono ?_
        rintro e w4 ⟨rfl, rfl⟩
        go_wp2_with fail
        have := hq.out _ (HB3.out.trans ((below_drewN w3 nq).mono HB3.out.size))
        rw [hb0] at this
        simp only [Bool.false_and, Bool.false_eq_true, if_false, HAI.out] at this
        exact this

    · have hpos : of = sb := by omega
      subst hpos
      clear hof hsb
      go_enter Tryz.func34, Tryz.ntmps34
      go_wp2_with fail
      refine (HRP.out _).mono ?_
      rintro e w1 ⟨rfl, hb1⟩
      have HB1 := Lib.hid (((Below.refl w.heap.size w).alloc (Nat.le_refl _) (.cells #[.int .i64 p.mn, .int .i64 p.mx, .int .i64 p.goal, .int .i64 p.slack, .int .i64 p.up, .int .i64 p.down, .int .i64 p.cool] 53)).trans (hb1.mono (by simp)))
      have HP1 := Lib.hid (show PolAt w1 w.heap.size p from (hb1.block _ (by simp)).trans (heap_alloc_new w _))
      obtain ⟨g0, g1, g2, g3, g4, g5, g6⟩ := HP1.out.cells
      clear hb1
      go_wp2_with fail
      refine (HW1.out _).mono ?_
      rintro e w2 ⟨rfl, rfl⟩
      go_wp2_with fail
      refine (HM1.out _).mono ?_
      rintro e w2 ⟨rfl, rfl⟩
      go_wp2_with fail
      refine (HS.out _).mono ?_
      rintro e w2 ⟨rfl, rfl⟩
      go_wp2_with fail
      refine (HAS.out _).mono ?_
      rintro e w3 ⟨rfl, hb3⟩
      have HB3 := Lib.hid (HB1.out.trans (hb3.mono HB1.out.size))
      have HP3 := Lib.hid (HP1.out.below hb3)
      clear hb3 g0 g1 g2 g3 g4 g5 g6 HB1 HP1
      obtain ⟨g0, g1, g2, g3, g4, g5, g6⟩ := HP3.out.cells
      by_cases hn0 : now > 0
      · have hb0 : decide (now > 0) = true := decide_eq_true hn0
        obtain ⟨y, hy⟩ : ∃ y, decide (m1 ≤ m2) = y := ⟨_, rfl⟩
        go_wp2_with fail
        go_quiet (first | (go_at_call_of 53 (Value.int .i64 of); refine Calls.quiet_of_same (HM2.out _)) | (go_at_call_of 53 (Value.int .i64 p.slack); refine Calls.quiet_of_same (HM3.out _)))
        cases y with
        | true =>
          go_wp2_with fail
          refine (HW2.out _).mono ?_
          rintro e w4 ⟨rfl, rfl⟩
          go_wp2_with fail
          refine (HW3.out _ _).mono ?_
          rintro e w4 ⟨rfl, rfl⟩
          go_wp2_with fail
          have := hq.out _ (HB3.out.trans ((below_drewN w3 nq).mono HB3.out.size))
          rw [hb0, hy] at this
          exact this
        | false =>
          go_wp2_with fail
          refine (HW3.out _ _).mono ?_
          rintro e w4 ⟨rfl, rfl⟩
          go_wp2_with fail
          have := hq.out _ (HB3.out.trans ((below_drewN w3 nq).mono HB3.out.size))
          rw [hb0, hy] at this
          simp only [Bool.and_false, Bool.false_eq_true, if_false, HAI.out] at this
          exact this
      · have hb0 : decide (now > 0) = false := decide_eq_false hn0
        go_wp2_with fail
        go_quiet (fail)
        go_wp2_with fail
        refine (HW3.out _ _).mono ?_
        rintro e w4 ⟨rfl, rfl⟩
        go_wp2_with fail
        have := hq.out _ (HB3.out.trans ((below_drewN w3 nq).mono HB3.out.size))
        rw [hb0] at this
        simp only [Bool.false_and, Bool.false_eq_true, if_false, HAI.out] at this
        exact this

  exact core _ fun w' hb => ⟨rfl, hb⟩
set_option maxHeartbeats 2000000 in
theorem refStable_any (oa : Option Addr) (cap : Nat) (l : List Int) (want now : Int) (w : World) (h : SlAt icells w (.slice oa l.length cap) l) (hl : l.length ≤ 1000000) :
    Calls Tryz.prog 35 #[.slice oa l.length cap, .int .i64 want, .int .i64 now] w fun e w' => e = .returned (.int .i64 (stableI l want now)) ∧ w' = w := by
  have HE := Lib.hid h
  clear h
  unfold stableI
  by_cases hw : now ≤ want
  · rw [if_pos hw]
    go_enter Tryz.func35, Tryz.ntmps35
    go_wp2_with fail
    go_ret
    exact ⟨rfl, rfl⟩
  · rw [if_neg hw]
    have hw2 : want < now := by omega
    go_enter Tryz.func35, Tryz.ntmps35
    go_wp2_with fail
    go_loopg [1, 15] l.length (fun gk s1 s15 wr => ∃ (i : Nat), s15 = .int .i64 i ∧ s1 = .int .i64 ((l.take i).foldl max want) ∧ i ≤ l.length ∧ l.length - i ≤ gk ∧ wr = w)
    case atStart => exact ⟨0, rfl, rfl, Nat.zero_le _, Nat.le_refl _, rfl⟩
    case round =>
      obtain ⟨i, rfl, rfl, hi, hg, rfl⟩ := hrel
      by_cases hlt : i < l.length
      · have hltz : (i : Int) < (l.length : Int) := by omega
        have hsl := HE.out
        obtain ⟨b, off, rfl⟩ := hsl.plain icells_len (by decide) (by intro e; rw [e] at hlt; exact absurd hlt (by simp))
        have c1 : wr.cell? ⟨b, off + i, none⟩ = some (.int .i64 (l[i]'hlt)) := by
          have := hsl.cell icells_len (i := i) (c := 0) hlt (by decide)
          simpa [icells] using this
        have hs : (l.take (i + 1)).foldl max want = max ((l.take i).foldl max want) (l[i]'hlt) := by rw [List.take_succ_eq_append_getElem hlt, List.foldl_append]; rfl
        have HS := Lib.hid hs
        clear hs hsl
        generalize l[i]'hlt = y at *
        generalize (l.take i).foldl max want = m at *
        by_cases hym : m < y
        · have hyz : y > m := hym
          have hmx : max m y = y := by omega
          go_wp2_with fail
          go_roundg (l.length - (i + 1))
          case measure => omega
          case rel => exact ⟨i + 1, by go_num, by rw [HS.out, hmx], by omega, Nat.le_refl _, rfl⟩
        · have hyz : ¬ y > m := hym
          have hmx : max m y = m := by omega
          go_wp2_with fail
          go_roundg (l.length - (i + 1))
          case measure => omega
          case rel => exact ⟨i + 1, by go_num, by rw [HS.out, hmx], by omega, Nat.le_refl _, rfl⟩
      · have hltz : ¬ (i : Int) < (l.length : Int) := by omega
        obtain rfl : i = l.length := by omega
        rw [List.take_length]
        have hres : ∀ m, l.foldl max want = m → (now < m → min (l.foldl max want) now = now) ∧ (¬ now < m → min (l.foldl max want) now = m) := fun m hm => by rw [hm]; omega
        obtain ⟨m, hm⟩ : ∃ m, l.foldl max want = m := ⟨_, rfl⟩
        have HRES := Lib.hid (hres m hm)
        rw [hm]
        clear hres hm
        by_cases hmn : now < m
        · have hmz : m > now := hmn
          go_wp2_with fail
          go_ret
          exact ⟨by rw [HRES.out.1 hmn]; rfl, rfl⟩
        · have hmz : ¬ m > now := hmn
          go_wp2_with fail
          go_ret
          exact ⟨by rw [HRES.out.2 hmn]; rfl, rfl⟩
end Go.Proofs.YtjgbflclhkeibaaGreat
