/-
  sat.Sub, sat.Mul (of numbers whose product is reckoned), decide's functions: what each answers.
  decide.calm: whether a load is near enough to what so many replicas carry.
-/
import Derived.Test.YtjgbflclhkeibaaGreatMPol
import Derived.Test.YtjgbflclhkeibaaGreatCmp
import Derived.Deep.LoopGhost
import Derived.Deep.QuietTactic
import Derived.BigQuiet
import Derived.Deep.DeepCutAuto
namespace Go.Proofs.YtjgbflclhkeibaaGreat
open Go.Shelf Go.RowKit Go.Lib Go.Sort
set_option linter.unusedVariables false
def satSub (a b : Int) : Int := clamp (clamp a - clamp b)
def satMul (a b : Int) : Int := clamp (clamp a * clamp b)
theorem satSub_bd (a b : Int) : -1099511627776 ≤ satSub a b ∧ satSub a b ≤ 1099511627776 := clamp_bd _
theorem satMul_bd (a b : Int) : -1099511627776 ≤ satMul a b ∧ satMul a b ≤ 1099511627776 := clamp_bd _
theorem pairDiff_any (a b : Int) (w : World) (h1 : -4611686018427387904 ≤ a - b) (h2 : a - b ≤ 4611686018427387904) :
    Calls Tryz.prog 62 #[.agg #[.int .i64 a, .int .i64 b]] w fun e w' => e = .returned (.int .i64 (a - b)) ∧ Grew w w' := by
  go_enter Tryz.func62, Tryz.ntmps62
  go_wp2
  go_ret
  exact ⟨rfl, (Grew.refl _).alloc _⟩
theorem ofDiff_any (a b : Int) (r : Int) (w : World) (hs : ∀ W, Calls Tryz.prog 62 #[.agg #[.int .i64 (clamp a), .int .i64 (clamp b)]] W fun e w' => e = .returned (.int .i64 r) ∧ Grew W w') :
    Calls Tryz.prog 61 #[.int .i64 a, .int .i64 b, .func (.func 62) #[] #[]] w fun e w' => e = .returned (.int .i64 (clamp r)) ∧ Grew w w' := by
  have hca := clamp_any a
  have hcb := clamp_any b
  have hc := clamp_any r
  generalize clamp a = x at *
  generalize clamp b = y at *
  generalize clamp r = z at *
  have HA := Lib.hid hca
  have HB := Lib.hid hcb
  have HS := Lib.hid hs
  have HC := Lib.hid hc
  clear hca hcb hs hc
  go_enter Tryz.func61, Tryz.ntmps61
  go_wp2_with fail
  refine (HA.out _).mono ?_
  rintro e w' ⟨rfl, rfl⟩
  go_wp2_with fail
  refine (HB.out _).mono ?_
  rintro e w' ⟨rfl, rfl⟩
  go_wp2_with fail
  refine (HS.out _).mono ?_
  rintro e w1 ⟨rfl, hg⟩
  have HG := Lib.hid hg
  clear hg
  go_wp2_with fail
  refine (HC.out _).mono ?_
  rintro e w' ⟨rfl, rfl⟩
  go_wp2
  go_ret
  exact ⟨rfl, HG.out⟩

theorem sub_any (a b : Int) (w : World) :
    Calls Tryz.prog 44 #[.int .i64 a, .int .i64 b] w fun e w' => e = .returned (.int .i64 (satSub a b)) ∧ Grew w w' := by
  have ha := clamp_bd a
  have hb := clamp_bd b
  have hs := fun W => ofDiff_any a b (clamp a - clamp b) W (fun W => pairDiff_any _ _ W (by omega) (by omega))
  unfold satSub
  generalize clamp (clamp a - clamp b) = z at *
  have HS := Lib.hid hs
  clear hs ha hb
  go_enter Tryz.func44, Tryz.ntmps44
  go_wp2_with fail
  refine (HS.out _).mono ?_
  rintro e w1 ⟨rfl, hg⟩
  have HG := Lib.hid hg
  clear hg
  go_wp2
  go_ret
  exact ⟨rfl, HG.out⟩
theorem Grew.drewN {w w1 : World} (h : Grew w w1) (n : Nat) : Grew w (w1.drewN n) := by
  obtain ⟨q, os, rfl⟩ := h
  exact ⟨q + n, os, by simp [grow, World.drewN, Nat.add_assoc]⟩
theorem mul_back (a b : Int) (hb : b ≠ 0) : (a * b).tdiv b = a := Int.mul_tdiv_cancel a hb
set_option maxHeartbeats 1000000 in
theorem pairProd_any (a b : Int) (w : World) (ha1 : -1099511627776 ≤ a) (ha2 : a ≤ 1099511627776) (h1 : -4611686018427387904 ≤ a * b) (h2 : a * b ≤ 4611686018427387904) :
    Calls Tryz.prog 102 #[.agg #[.int .i64 a, .int .i64 b]] w fun e w' => e = .returned (.int .i64 (a * b)) ∧ Grew w w' := by
  by_cases ha : a = 0
  · subst ha
    rw [Int.zero_mul]
    go_enter Tryz.func102, Tryz.ntmps102
    go_wp2
    go_ret
    exact ⟨rfl, (Grew.refl _).alloc _⟩
  by_cases hb : b = 0
  · subst hb
    rw [Int.mul_zero]
    have hab : (a == 0) = false := by simpa using ha
    go_enter Tryz.func102, Tryz.ntmps102
    go_wp2
    go_ret
    exact ⟨rfl, (Grew.refl _).alloc _⟩
  have hab : (a == 0) = false := by simpa using ha
  have hbb : (b == 0) = false := by simpa using hb
  have hd := mul_back a b hb
  have hw : IntKind.i64.wrap (a * b) = a * b := by rw [IntKind.wrap_i64]; omega
  have hw' : wrap64 (a * b) = a * b := by unfold wrap64; omega
  have hwa : wrap64 a = a := by unfold wrap64; omega
  have hwa2 : IntKind.i64.wrap a = a := by rw [IntKind.wrap_i64]; omega
  clear h1 h2 ha1 ha2
  go_enter Tryz.func102, Tryz.ntmps102
  go_wp2_with fail
  go_quiet (fail)
  go_wp2_with fail
  go_ret
  exact ⟨rfl, ((Grew.refl _).alloc _).drewN _⟩
theorem ofProd_any (a b : Int) (r : Int) (w : World) (hs : ∀ W, Calls Tryz.prog 102 #[.agg #[.int .i64 (clamp a), .int .i64 (clamp b)]] W fun e w' => e = .returned (.int .i64 r) ∧ Grew W w') :
    Calls Tryz.prog 61 #[.int .i64 a, .int .i64 b, .func (.func 102) #[] #[]] w fun e w' => e = .returned (.int .i64 (clamp r)) ∧ Grew w w' := by
  have hca := clamp_any a
  have hcb := clamp_any b
  have hc := clamp_any r
  generalize clamp a = x at *
  generalize clamp b = y at *
  generalize clamp r = z at *
  have HA := Lib.hid hca
  have HB := Lib.hid hcb
  have HS := Lib.hid hs
  have HC := Lib.hid hc
  clear hca hcb hs hc
  go_enter Tryz.func61, Tryz.ntmps61
  go_wp2_with fail
  refine (HA.out _).mono ?_
  rintro e w' ⟨rfl, rfl⟩
  go_wp2_with fail
  refine (HB.out _).mono ?_
  rintro e w' ⟨rfl, rfl⟩
  go_wp2_with fail
  refine (HS.out _).mono ?_
  rintro e w1 ⟨rfl, hg⟩
  have HG := Lib.hid hg
  clear hg
  go_wp2_with fail
  refine (HC.out _).mono ?_
  rintro e w' ⟨rfl, rfl⟩
  go_wp2
  go_ret
  exact ⟨rfl, HG.out⟩

theorem mul_any (a b : Int) (w : World) (h1 : -4611686018427387904 ≤ clamp a * clamp b) (h2 : clamp a * clamp b ≤ 4611686018427387904) :
    Calls Tryz.prog 86 #[.int .i64 a, .int .i64 b] w fun e w' => e = .returned (.int .i64 (satMul a b)) ∧ Grew w w' := by
  have hs := fun W => ofProd_any a b (clamp a * clamp b) W (fun W => pairProd_any _ _ W (clamp_bd a).1 (clamp_bd a).2 h1 h2)
  unfold satMul
  generalize clamp (clamp a * clamp b) = z at *
  have HS := Lib.hid hs
  clear hs h1 h2
  go_enter Tryz.func86, Tryz.ntmps86
  go_wp2_with fail
  refine (HS.out _).mono ?_
  rintro e w1 ⟨rfl, hg⟩
  have HG := Lib.hid hg
  clear hg
  go_wp2
  go_ret
  exact ⟨rfl, HG.out⟩
theorem mul_small {x y : Int} (h1 : -1000 ≤ x) (h2 : x ≤ 1000) (h3 : -1099511627776 ≤ y) (h4 : y ≤ 1099511627776) : -4611686018427387904 ≤ x * y ∧ x * y ≤ 4611686018427387904 := by
  have h := Int.natAbs_mul x y
  have h5 : x.natAbs * y.natAbs ≤ 1000 * 1099511627776 := Nat.mul_le_mul (by omega) (by omega)
  omega
theorem hold_any (lo hi n : Int) (w : World) :
    Calls Tryz.prog 63 #[.agg #[.int .i64 lo, .int .i64 hi], .int .i64 n] w fun e w' => e = .returned (.int .i64 (within n lo hi)) ∧ Below w.heap.size w w' := by
  have hw := fun W => within_any n lo hi W
  generalize within n lo hi = z at *
  have HW := Lib.hid hw
  clear hw
  go_enter Tryz.func63, Tryz.ntmps63
  go_wp2_with fail
  refine (HW.out _).mono ?_
  rintro e w1 ⟨rfl, rfl⟩
  go_wp2_with fail
  go_ret
  exact ⟨rfl, (Below.refl _ _).alloc (Nat.le_refl _) _⟩
def offI (a b : Int) : Int := max (satSub a b) (-(satSub a b))
theorem offI_bd (a b : Int) : 0 ≤ offI a b ∧ offI a b ≤ 1099511627776 := by unfold offI; have := satSub_bd a b; omega
theorem off_any (a b : Int) (w : World) :
    Calls Tryz.prog 87 #[.int .i64 a, .int .i64 b] w fun e w' => e = .returned (.int .i64 (offI a b)) ∧ Grew w w' := by
  have hs := fun W => sub_any a b W
  have hb := satSub_bd a b
  unfold offI
  generalize satSub a b = z at *
  have hw : wrap64 (-z) = -z := by unfold wrap64; omega
  have hw2 : IntKind.i64.wrap (-z) = -z := by rw [IntKind.wrap_i64]; omega
  have HS := Lib.hid hs
  clear hs hb
  go_enter Tryz.func87, Tryz.ntmps87
  go_wp2_with fail
  refine (HS.out _).mono ?_
  rintro e w1 ⟨rfl, hg⟩
  have HG := Lib.hid hg
  clear hg
  go_wp2_with fail
  go_ret
  exact ⟨rfl, HG.out⟩
def calmB (p : Pol) (load now : Int) : Bool := decide (0 < now) && decide (satMul 100 (offI load (satMul now p.goal)) ≤ satMul p.slack (satMul now p.goal))
end Go.Proofs.YtjgbflclhkeibaaGreat
namespace Go.Proofs.YtjgbflclhkeibaaGreat
open Go.Shelf Go.RowKit Go.Lib Go.Sort
set_option linter.unusedVariables false
theorem cell_grown {W : World} {b o : Nat} {v : Value} (hlt : b < W.heap.size) (hc : W.cell? ⟨b, o, none⟩ = some v) : ∀ n os, (grow (W.drewN n) os).cell? ⟨b, o, none⟩ = some v := fun n os =>
  (World.cell?_of_block (a := ⟨b, o, none⟩) (heap_grow_old (W.drewN n) os hlt)).trans hc
set_option maxRecDepth 100000 in
set_option maxHeartbeats 2000000 in
theorem calm_any (p : Pol) (hp : p.right) (load now : Int) (h0 : 0 ≤ now) (h1 : now ≤ 1000) (w : World) :
    Calls Tryz.prog 64 #[.agg #[.int .i64 p.mn, .int .i64 p.mx, .int .i64 p.goal, .int .i64 p.slack, .int .i64 p.up, .int .i64 p.down, .int .i64 p.cool], .int .i64 load, .int .i64 now] w fun e w' => e = .returned (.bool (calmB p load now)) ∧ Below w.heap.size w w' := by
  unfold Pol.right at hp
  obtain ⟨hp1, hp2, hp3, hp4, hp5, hp6, hp7, _⟩ := hp
  have e1 : clamp now = now := clamp_id (by omega) (by omega)
  have e2 : clamp p.goal = p.goal := clamp_id (by omega) (by omega)
  have hm1 := fun W => mul_any now p.goal W (by rw [e1, e2]; exact (mul_small (by omega) (by omega) (by omega) (by omega)).1) (by rw [e1, e2]; exact (mul_small (by omega) (by omega) (by omega) (by omega)).2)
  obtain ⟨ca, hca⟩ : ∃ ca, ca = satMul now p.goal := ⟨_, rfl⟩
  have hcab : -1099511627776 ≤ ca ∧ ca ≤ 1099511627776 := by rw [hca]; exact satMul_bd _ _
  have hof := fun W => off_any load ca W
  have hofb := offI_bd load ca
  have e3 : clamp (100 : Int) = 100 := clamp_id (by omega) (by omega)
  have e4 : clamp (offI load ca) = offI load ca := clamp_id (by omega) (by omega)
  have hm2 := fun W => mul_any 100 (offI load ca) W (by rw [e3, e4]; omega) (by rw [e3, e4]; omega)
  have e5 : clamp p.slack = p.slack := clamp_id (by omega) (by omega)
  have e6 : clamp ca = ca := clamp_id (by omega) (by omega)
  have hm3 := fun W => mul_any p.slack ca W (by rw [e5, e6]; exact (mul_small (by omega) (by omega) (by omega) (by omega)).1) (by rw [e5, e6]; exact (mul_small (by omega) (by omega) (by omega) (by omega)).2)
  have hcb : calmB p load now = (decide (0 < now) && decide (satMul 100 (offI load ca) ≤ satMul p.slack ca)) := by rw [hca]; rfl
  rw [hcb]
  rw [← hca] at hm1
  generalize offI load ca = of at *
  generalize satMul 100 of = m1 at *
  generalize satMul p.slack ca = m2 at *
  have HM1 := Lib.hid hm1
  have HM2 := Lib.hid hm2
  have HM3 := Lib.hid hm3
  have HOF := Lib.hid hof
  have hmx : Tryz.prog.follows .mixedOrders = true := by kernel_rfl
  clear hm1 hm2 hm3 hof hofb hcab hca hcb e1 e2 e3 e4 e5 e6 hp1 hp2 hp3 hp4 hp5 hp6 hp7
  have core : Calls Tryz.prog 64 #[.agg #[.int .i64 p.mn, .int .i64 p.mx, .int .i64 p.goal, .int .i64 p.slack, .int .i64 p.up, .int .i64 p.down, .int .i64 p.cool], .int .i64 load, .int .i64 now] w fun e w' => e = .returned (.bool (decide (0 < now) && decide (m1 ≤ m2))) ∧ Below w.heap.size w w' := by
    by_cases hp : 0 < now
    · have hb : decide (now > 0) = true := decide_eq_true hp
      rw [decide_eq_true hp, Bool.true_and]
      obtain ⟨mm, hmm⟩ : ∃ b, decide (m1 ≤ m2) = b := ⟨_, rfl⟩
      rw [hmm]
      go_enter Tryz.func64, Tryz.ntmps64
      go_wp2_with fail
      refine (HM1.out _).mono ?_
      rintro e w1 ⟨rfl, hg⟩
      have hb1 : Below w.heap.size w w1 := ((Below.refl _ _).alloc (Nat.le_refl _) _).trans (hg.below.mono (by simp))
      have hbig : w.heap.size < w1.heap.size := by have := hg.below.size; simp at this; omega
      have hc3 : w1.cell? ⟨w.heap.size, 3, none⟩ = some (.int .i64 p.slack) := (hg.below.cell (p := ⟨w.heap.size, 3, none⟩) (by simp)).trans (by rw [cell_of_row _ _ _ _ _ _ (heap_alloc_new w _)]; rfl)
      have HB1 := Lib.hid hb1
      have c3 := cell_grown hbig hc3
      clear hg hb1 hc3
      go_wp2_with fail
      go_quiet_grown (first | (go_at_call 87; refine Calls.grown_of (HOF.out _)) | (go_at_call_of 86 (Value.int .i64 of); refine Calls.grown_of (HM2.out _)) | (go_at_call_of 86 (Value.int .i64 p.slack); refine Calls.grown_of (HM3.out _)))
      go_wp2_with fail
      go_ret
      exact ⟨rfl, HB1.out.trans (Below.mono ⟨rfl, rfl, rfl, by simp, fun k hk => heap_grow_old _ _ hk⟩ HB1.out.size)⟩
    · have hz : now ≤ 0 := by omega
      have hb : decide (now > 0) = false := decide_eq_false hp
      rw [decide_eq_false hp, Bool.false_and]
      go_enter Tryz.func64, Tryz.ntmps64
      go_wp2_with fail
      refine (HM1.out _).mono ?_
      rintro e w1 ⟨rfl, hg⟩
      have hb1 : Below w.heap.size w w1 := ((Below.refl _ _).alloc (Nat.le_refl _) _).trans (hg.below.mono (by simp))
      have HB1 := Lib.hid hb1
      clear hg hb1
      go_wp2_with fail
      go_quiet (fail)
      go_wp2_with fail
      go_ret
      exact ⟨rfl, HB1.out.trans (Below.mono ⟨rfl, rfl, rfl, by simp, fun k hk => rfl⟩ HB1.out.size)⟩
  exact core
end Go.Proofs.YtjgbflclhkeibaaGreat
