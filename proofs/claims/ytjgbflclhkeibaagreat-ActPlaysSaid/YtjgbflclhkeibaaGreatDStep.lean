/-
  decide.Step and decide.Stable, and the reference's: how many replicas there should be next; of a policy that may be, at so many replicas as may be.
-/
import Derived.Test.YtjgbflclhkeibaaGreatMDecide
namespace Go.Proofs.YtjgbflclhkeibaaGreat
open Go.Shelf Go.RowKit Go.Lib Go.Sort
set_option linter.unusedVariables false
theorem within_bd (n lo hi : Int) (h : lo ≤ hi) : lo ≤ within n lo hi ∧ within n lo hi ≤ hi := by
  unfold within
  split
  · omega
  · split <;> omega
theorem within_same {n lo hi : Int} (h1 : lo ≤ n) (h2 : n ≤ hi) : within n lo hi = n := by
  unfold within
  rw [if_neg (by omega), if_neg (by omega)]
def topLoad (load : Int) : Int := within load 0 1099511627776
def wantedI (p : Pol) (load now : Int) : Int := if calmB p load now = true then now else (asked p load).1
def stepI (p : Pol) (load now : Int) : Int := within (within (wantedI p (topLoad load) now) p.mn p.mx) (now - p.down) (now + p.up)
theorem refSub_any (a b : Int) (w : World) :
    Calls Tryz.prog 33 #[.int .i64 a, .int .i64 b] w fun e w' => e = .returned (.int .i64 (satSub a b)) ∧ w = w' := by
  have ha := clamp_bd a
  have hb := clamp_bd b
  have hca := fun W => refClamp_any a W
  have hcb := fun W => refClamp_any b W
  have hcc := fun W => refClamp_any (clamp a - clamp b) W
  unfold satSub
  generalize clamp (clamp a - clamp b) = z at *
  generalize clamp a = x at *
  generalize clamp b = y at *
  have HA := Lib.hid hca
  have HB := Lib.hid hcb
  have HC := Lib.hid hcc
  have hw : wrap64 (x - y) = x - y := by unfold wrap64; omega
  clear hca hcb hcc ha hb
  go_enter Tryz.func33, Tryz.ntmps33
  go_wp2_with fail
  refine (HA.out _).mono ?_
  rintro e w' ⟨rfl, rfl⟩
  go_wp2_with fail
  refine (HB.out _).mono ?_
  rintro e w' ⟨rfl, rfl⟩
  go_wp2_with fail
  refine (HC.out _).mono ?_
  rintro e w' ⟨rfl, rfl⟩
  go_wp2_with fail
  go_ret
  exact ⟨rfl, rfl⟩
theorem mul_div_le (x y : Int) (hx : 0 ≤ x) (hy : 0 < y) : x ≤ (1099511627776 : Int).tdiv y ↔ x * y ≤ 1099511627776 := by
  rw [Int.tdiv_eq_ediv_of_nonneg (by omega), Int.le_ediv_iff_mul_le hy]
set_option maxHeartbeats 1000000 in
theorem refMul_any (a b : Int) (w : World) (h0 : 0 ≤ clamp a) (h1 : 0 ≤ clamp b) :
    Calls Tryz.prog 53 #[.int .i64 a, .int .i64 b] w fun e w' => e = .returned (.int .i64 (satMul a b)) ∧ w = w' := by
  have ha := clamp_bd a
  have hb := clamp_bd b
  have hca := fun W => refClamp_any a W
  have hcb := fun W => refClamp_any b W
  unfold satMul
  generalize clamp a = x at *
  generalize clamp b = y at *
  have HA := Lib.hid hca
  have HB := Lib.hid hcb
  clear hca hcb
  by_cases hx : x = 0
  · subst hx
    rw [Int.zero_mul]
    go_enter Tryz.func53, Tryz.ntmps53
    go_wp2_with fail
    refine (HA.out _).mono ?_
    rintro e w' ⟨rfl, rfl⟩
    go_wp2_with fail
    refine (HB.out _).mono ?_
    rintro e w' ⟨rfl, rfl⟩
    go_wp2_with fail
    go_ret
    exact ⟨rfl, rfl⟩
  by_cases hy : y = 0
  · subst hy
    rw [Int.mul_zero]
    have hxb : (x == 0) = false := by simpa using hx
    go_enter Tryz.func53, Tryz.ntmps53
    go_wp2_with fail
    refine (HA.out _).mono ?_
    rintro e w' ⟨rfl, rfl⟩
    go_wp2_with fail
    refine (HB.out _).mono ?_
    rintro e w' ⟨rfl, rfl⟩
    go_wp2_with fail
    go_ret
    exact ⟨rfl, rfl⟩
  have hxb : (x == 0) = false := by simpa using hx
  have hyb : (y == 0) = false := by simpa using hy
  have hn1 : ¬ x < 0 := by omega
  have hn2 : ¬ y < 0 := by omega
  have hn1b : decide (x < 0) = false := decide_eq_false hn1
  have hn2b : decide (y < 0) = false := decide_eq_false hn2
  have hdv := mul_div_le x y h0 (by omega)
  by_cases hle : x * y ≤ 1099511627776
  · have hq : x ≤ (1099511627776 : Int).tdiv y := hdv.2 hle
    have hp : 0 ≤ x * y := Int.mul_nonneg h0 h1
    have hw : wrap64 (x * y) = x * y := by unfold wrap64; omega
    have hw2 : IntKind.i64.wrap (x * y) = x * y := by rw [IntKind.wrap_i64]; omega
    have hcl : clamp (x * y) = x * y := clamp_id (by omega) hle
    rw [hcl]
    have hqe : x ≤ 1099511627776 / y := by rwa [Int.tdiv_eq_ediv_of_nonneg (by omega)] at hq
    clear hcl hdv ha hb hp hle
    go_enter Tryz.func53, Tryz.ntmps53
    go_wp2_with fail
    refine (HA.out _).mono ?_
    rintro e w' ⟨rfl, rfl⟩
    go_wp2_with fail
    refine (HB.out _).mono ?_
    rintro e w' ⟨rfl, rfl⟩
    go_wp2_with fail
    go_ret
    exact ⟨rfl, rfl⟩
  · have hq : ¬ x ≤ (1099511627776 : Int).tdiv y := fun h => hle (hdv.1 h)
    have hcl : clamp (x * y) = 1099511627776 := by unfold clamp within; rw [if_pos (by omega)]
    rw [hcl]
    have hqe : ¬ x ≤ 1099511627776 / y := by rwa [Int.tdiv_eq_ediv_of_nonneg (by omega)] at hq
    clear hcl hdv ha hb hle
    go_enter Tryz.func53, Tryz.ntmps53
    go_wp2_with fail
    refine (HA.out _).mono ?_
    rintro e w' ⟨rfl, rfl⟩
    go_wp2_with fail
    refine (HB.out _).mono ?_
    rintro e w' ⟨rfl, rfl⟩
    go_wp2_with fail
    go_ret
    exact ⟨rfl, rfl⟩
/-- a policy at a block -/
def PolAt (w : World) (b : Nat) (p : Pol) : Prop := w.heap[b]? = some (.cells #[.int .i64 p.mn, .int .i64 p.mx, .int .i64 p.goal, .int .i64 p.slack, .int .i64 p.up, .int .i64 p.down, .int .i64 p.cool] 53)
theorem PolAt.below {w w' : World} {b : Nat} {p : Pol} (h : PolAt w b p) (hb : Below w.heap.size w w') : PolAt w' b p := (hb.block b (Array.getElem?_eq_some_iff.1 h).1).trans h
theorem PolAt.cells {w : World} {b : Nat} {p : Pol} (h : PolAt w b p) : w.cell? ⟨b, 0, none⟩ = some (.int .i64 p.mn) ∧ w.cell? ⟨b, 1, none⟩ = some (.int .i64 p.mx) ∧ w.cell? ⟨b, 2, none⟩ = some (.int .i64 p.goal) ∧ w.cell? ⟨b, 3, none⟩ = some (.int .i64 p.slack) ∧ w.cell? ⟨b, 4, none⟩ = some (.int .i64 p.up) ∧ w.cell? ⟨b, 5, none⟩ = some (.int .i64 p.down) ∧ w.cell? ⟨b, 6, none⟩ = some (.int .i64 p.cool) := by
  refine ⟨?_, ?_, ?_, ?_, ?_, ?_, ?_⟩ <;> (rw [cell_of_row _ b _ _ _ _ h]; rfl)
theorem asked_in {p : Pol} (hp : p.right) (load : Int) : within (asked p load).1 p.mn p.mx = (asked p load).1 := by
  unfold asked
  rw [if_pos hp]
  have h2 := within_bd (ceilQ (clamp (max load 0)) (clamp p.goal)) p.mn p.mx hp.2.1
  exact within_same h2.1 h2.2
theorem asked_ok {p : Pol} (hp : p.right) (load : Int) : (asked p load).2 = 0 := by
  unfold asked
  rw [if_pos hp]
set_option maxRecDepth 100000 in
theorem index2a (a b c d : Int) (W : World) : Sem.run Tryz.prog (Instr.index 120 (.agg #[.int .i64 a, .int .i64 b, .int .i64 c, .int .i64 d]) (.int .i64 0)) W = .ok (.agg #[.int .i64 a, .int .i64 b]) W := by
  first | kernel_rfl | simp [Instr.index, go_sem, Tryz.underlying120, sizeOf, typeInfo, Value.cells]
set_option maxRecDepth 100000 in
theorem index2b (a b c d : Int) (W : World) : Sem.run Tryz.prog (Instr.index 120 (.agg #[.int .i64 a, .int .i64 b, .int .i64 c, .int .i64 d]) (.int .i64 1)) W = .ok (.agg #[.int .i64 c, .int .i64 d]) W := by
  first | kernel_rfl | simp [Instr.index, go_sem, Tryz.underlying120, sizeOf, typeInfo, Value.cells]
set_option maxRecDepth 100000 in
set_option maxHeartbeats 4000000 in
theorem step_any (p : Pol) (hp : p.right) (load now : Int) (h0 : 0 ≤ now) (h1 : now ≤ 1000) (w : World) :
    Calls Tryz.prog 45 #[.agg #[.int .i64 p.mn, .int .i64 p.mx, .int .i64 p.goal, .int .i64 p.slack, .int .i64 p.up, .int .i64 p.down, .int .i64 p.cool], .int .i64 load, .int .i64 now] w fun e w' => e = .returned (.tuple #[.int .i64 (stepI p load now), .int .i64 0]) ∧ Below w.heap.size w w' := by
  have hr := fun W => rightPolicy_yes p hp W
  have hh1 := fun W => hold_any 0 1000 now W
  rw [within_same h0 h1] at hh1
  have hh2 := fun W => hold_any 0 1099511627776 load W
  have hcalm := fun W => calm_any p hp (topLoad load) now h0 h1 W
  have hask := fun W => policyAsked_any p (topLoad load) W
  rw [asked_ok hp] at hask
  unfold stepI wantedI
  rw [show within load 0 1099511627776 = topLoad load from rfl] at hh2
  generalize topLoad load = tl at *
  generalize (asked p tl).1 = ak at *
  have HR := Lib.hid hr
  have HH1 := Lib.hid hh1
  have HH2 := Lib.hid hh2
  have HC := Lib.hid hcalm
  have HA := Lib.hid hask
  clear hr hh1 hh2 hcalm hask
  obtain ⟨_, _, _, _, _, _, _, u1, u2, d1, d2, _, _⟩ := hp
  have hs1 : wrap64 (now - p.down) = now - p.down := by unfold wrap64; omega
  have hs2 : wrap64 (now + p.up) = now + p.up := by unfold wrap64; omega
  have hne : (now != now) = false := by simp
  obtain ⟨cb, hcb⟩ : ∃ b, calmB p tl now = b := ⟨_, rfl⟩
  rw [hcb] at HC ⊢
  have ia := fun a b c d W => index2a a b c d W
  have ib := fun a b c d W => index2b a b c d W
  go_enter Tryz.func45, Tryz.ntmps45
  go_wp2_with fail
  refine (HR.out _).mono ?_
  rintro e w1 ⟨rfl, hb1⟩
  have HB1 := Lib.hid (((Below.refl w.heap.size w).alloc (Nat.le_refl _) (.cells #[.int .i64 p.mn, .int .i64 p.mx, .int .i64 p.goal, .int .i64 p.slack, .int .i64 p.up, .int .i64 p.down, .int .i64 p.cool] 53)).trans (hb1.mono (by simp)))
  have HP1 := Lib.hid (show PolAt w1 w.heap.size p from (hb1.block _ (by simp)).trans (heap_alloc_new w _))
  clear hb1
  go_wp2_with fail
  refine (HH1.out _).mono ?_
  rintro e w2 ⟨rfl, hb2⟩
  have HB2 := Lib.hid (HB1.out.trans (hb2.mono HB1.out.size))
  have HP2 := Lib.hid (HP1.out.below hb2)
  clear hb2 HB1 HP1
  go_wp2_with fail
  refine (HH2.out _).mono ?_
  rintro e w3 ⟨rfl, hb3⟩
  have HB3 := Lib.hid (HB2.out.trans (hb3.mono HB2.out.size))
  have HP3 := Lib.hid (HP2.out.below hb3)
  clear hb3 HB2 HP2
  obtain ⟨c0, c1, c2, c3, c4, c5, c6⟩ := HP3.out.cells
  go_wp2_with fail
  refine (HC.out _).mono ?_
  rintro e w4 ⟨rfl, hb4⟩
  have HB4 := Lib.hid (HB3.out.trans (hb4.mono HB3.out.size))
  have HP4 := Lib.hid (HP3.out.below hb4)
  clear hb4 HB3 HP3 c0 c1 c2 c3 c4 c5 c6
  obtain ⟨c0, c1, c2, c3, c4, c5, c6⟩ := HP4.out.cells
  cases cb with
  | true =>
    have hq1 := fun W => hold_any p.mn p.mx now W
    have hq2 := fun W => hold_any (now - p.down) (now + p.up) (within now p.mn p.mx) W
    have HQ1 := Lib.hid hq1
    have HQ2 := Lib.hid hq2
    clear hq1 hq2
    have HBL := HB4
    clear HB4
    go_wp2_with fail
    go_loopg [8, 58] 2 (fun gk s8 s58 wr => ∃ (i : Nat), s58 = .int .i64 i ∧ s8 = .int .i64 (if i = 0 then now else if i = 1 then within now p.mn p.mx else within (within now p.mn p.mx) (now - p.down) (now + p.up)) ∧ i ≤ 2 ∧ 2 - i ≤ gk ∧ Hid (Below w.heap.size w wr))
    case atStart => exact ⟨0, rfl, rfl, by omega, by omega, HBL.out⟩
    case round =>
      clear HBL
      obtain ⟨i, rfl, rfl, hi, hg, HBR⟩ := hrel
      rcases (show i = 0 ∨ i = 1 ∨ i = 2 by omega) with rfl | rfl | rfl
      · go_wp2_with fail
        refine (HQ1.out _).mono ?_
        rintro e wa ⟨rfl, hba⟩
        have HBA := Lib.hid (((HBR.out.alloc HBR.out.size (.cells #[.int .i64 p.mn, .int .i64 p.mx] 116))).trans (hba.mono (by have := HBR.out.size; simp; omega)))
        clear hba HBR
        go_wp2_with fail
        go_roundg (1)
        case measure => omega
        case rel => exact ⟨1, by go_num, rfl, by omega, by omega, HBA.out⟩
      · go_wp2_with fail
        refine (HQ2.out _).mono ?_
        rintro e wa ⟨rfl, hba⟩
        have HBA := Lib.hid (((HBR.out.alloc HBR.out.size (.cells #[.int .i64 (now - p.down), .int .i64 (now + p.up)] 116))).trans (hba.mono (by have := HBR.out.size; simp; omega)))
        clear hba HBR
        go_wp2_with fail
        go_roundg (0)
        case measure => omega
        case rel => exact ⟨2, by go_num, rfl, by omega, by omega, HBA.out⟩
      · go_wp2_with fail
        go_ret2
        exact ⟨rfl, HBR.out⟩
  | false =>
    go_wp2_with fail
    refine (HA.out _).mono ?_
    rintro e w5 ⟨rfl, hb5⟩
    have HBL := Lib.hid (HB4.out.trans (hb5.mono HB4.out.size))
    have HP5 := Lib.hid (HP4.out.below hb5)
    clear hb5 HB4 HP4 c0 c1 c2 c3 c4 c5 c6
    obtain ⟨c0, c1, c2, c3, c4, c5, c6⟩ := HP5.out.cells
    have hq1 := fun W => hold_any p.mn p.mx ak W
    have hq2 := fun W => hold_any (now - p.down) (now + p.up) (within ak p.mn p.mx) W
    have HQ1 := Lib.hid hq1
    have HQ2 := Lib.hid hq2
    clear hq1 hq2
    go_wp2_with fail
    go_loopg [8, 58] 2 (fun gk s8 s58 wr => ∃ (i : Nat), s58 = .int .i64 i ∧ s8 = .int .i64 (if i = 0 then ak else if i = 1 then within ak p.mn p.mx else within (within ak p.mn p.mx) (now - p.down) (now + p.up)) ∧ i ≤ 2 ∧ 2 - i ≤ gk ∧ Hid (Below w.heap.size w wr))
    case atStart => exact ⟨0, rfl, rfl, by omega, by omega, HBL.out⟩
    case round =>
      clear HBL
      obtain ⟨i, rfl, rfl, hi, hg, HBR⟩ := hrel
      rcases (show i = 0 ∨ i = 1 ∨ i = 2 by omega) with rfl | rfl | rfl
      · go_wp2_with fail
        refine (HQ1.out _).mono ?_
        rintro e wa ⟨rfl, hba⟩
        have HBA := Lib.hid (((HBR.out.alloc HBR.out.size (.cells #[.int .i64 p.mn, .int .i64 p.mx] 116))).trans (hba.mono (by have := HBR.out.size; simp; omega)))
        clear hba HBR
        go_wp2_with fail
        go_roundg (1)
        case measure => omega
        case rel => exact ⟨1, by go_num, rfl, by omega, by omega, HBA.out⟩
      · go_wp2_with fail
        refine (HQ2.out _).mono ?_
        rintro e wa ⟨rfl, hba⟩
        have HBA := Lib.hid (((HBR.out.alloc HBR.out.size (.cells #[.int .i64 (now - p.down), .int .i64 (now + p.up)] 116))).trans (hba.mono (by have := HBR.out.size; simp; omega)))
        clear hba HBR
        go_wp2_with fail
        go_roundg (0)
        case measure => omega
        case rel => exact ⟨2, by go_num, rfl, by omega, by omega, HBA.out⟩
      · go_wp2_with fail
        go_ret2
        exact ⟨rfl, HBR.out⟩
end Go.Proofs.YtjgbflclhkeibaaGreat
