/-
  The numbers of layer 1 (sat) and of its reference: what Within, Clamp and CeilDiv return, for all integers. No memory is touched.
-/
import Derived.Test.YtjgbflclhkeibaaGreatProg
import Derived.WalkKit
import Derived.Handy
import Derived.Lib.Hide
namespace Go.Proofs.YtjgbflclhkeibaaGreat
open Go.RowKit
set_option linter.unusedVariables false

def within (n lo hi : Int) : Int := if hi < n then hi else if n < lo then lo else n
def clamp (n : Int) : Int := within n (-1099511627776) 1099511627776
theorem clamp_bd (n : Int) : -1099511627776 ≤ clamp n ∧ clamp n ≤ 1099511627776 := by
  unfold clamp within; split <;> try split
  all_goals omega
theorem clamp_id {n : Int} (h1 : -1099511627776 ≤ n) (h2 : n ≤ 1099511627776) : clamp n = n := by
  unfold clamp within; rw [if_neg (by omega), if_neg (by omega)]
/-- of clamped numbers -/
def ceilQ (a b : Int) : Int := if 0 < a ∧ a.tmod b ≠ 0 then a.tdiv b + 1 else a.tdiv b
def ceilDiv (a b : Int) : Int × Int := if clamp b ≤ 0 then (0, 2) else (ceilQ (clamp a) (clamp b), 0)

theorem tdiv_bd (x y : Int) (h1 : -1099511627776 ≤ x) (h2 : x ≤ 1099511627776) (h3 : 1 ≤ y) : -1099511627776 ≤ x.tdiv y ∧ x.tdiv y ≤ 1099511627776 := by
  by_cases h : 0 ≤ x
  · rw [Int.tdiv_eq_ediv_of_nonneg h]
    have a := Int.ediv_nonneg h (show 0 ≤ y by omega)
    have b := Int.ediv_le_self y h
    omega
  · have e : x = -(-x) := by omega
    rw [e, Int.neg_tdiv, Int.tdiv_eq_ediv_of_nonneg (by omega)]
    have a := Int.ediv_nonneg (show 0 ≤ -x by omega) (show 0 ≤ y by omega)
    have b := Int.ediv_le_self y (show 0 ≤ -x by omega)
    omega
theorem ceilQ_bd (x y : Int) (h1 : -1099511627776 ≤ x) (h2 : x ≤ 1099511627776) (h3 : 1 ≤ y) : -1099511627776 ≤ ceilQ x y ∧ ceilQ x y ≤ 1099511627777 := by
  have := tdiv_bd x y h1 h2 h3
  unfold ceilQ; split <;> omega
/-- the reference's test -/
theorem ceilQ_ref (x y : Int) (h3 : 1 ≤ y) : (x.tdiv y * y < x) ↔ (0 < x ∧ x.tmod y ≠ 0) := by
  have e := Int.tmod_add_mul_tdiv x y
  rw [Int.mul_comm] at e
  constructor
  · intro h
    have h0 : 0 < x.tmod y := by omega
    refine ⟨?_, by omega⟩
    by_cases hx : 0 < x
    · exact hx
    · have e2 : x.tmod y = -((-x).tmod y) := by rw [Int.neg_tmod]; omega
      have := Int.tmod_nonneg y (show 0 ≤ -x by omega); omega
  · rintro ⟨h1, h2⟩
    have := Int.tmod_nonneg y (show 0 ≤ x by omega)
    omega

theorem within_any (n lo hi : Int) (w : World) :
    Calls Tryz.prog 38 #[.int .i64 n, .int .i64 lo, .int .i64 hi] w fun e w' => e = .returned (.int .i64 (within n lo hi)) ∧ w = w' := by
  go_enter Tryz.func38, Tryz.ntmps38
  go_wp2
  all_goals (go_ret; refine ⟨?_, rfl⟩; unfold within; (repeat' split) <;> first | rfl | omega)
theorem clamp_any (n : Int) (w : World) :
    Calls Tryz.prog 85 #[.int .i64 n] w fun e w' => e = .returned (.int .i64 (clamp n)) ∧ w = w' := by
  go_enter Tryz.func85, Tryz.ntmps85
  go_wp2_with (go_at_call 38; refine (within_any _ _ _ _).mono ?_; rintro e w' ⟨rfl, rfl⟩)
  go_ret
  exact ⟨rfl, rfl⟩
theorem ceilDiv_any (a b : Int) (w : World) :
    Calls Tryz.prog 84 #[.int .i64 a, .int .i64 b] w fun e w' => e = .returned (.tuple #[.int .i64 (ceilDiv a b).1, .int .i64 (ceilDiv a b).2]) ∧ w = w' := by
  have ha := clamp_bd a
  have hb := clamp_bd b
  have hca := clamp_any a
  have hcb := clamp_any b
  unfold ceilDiv
  generalize clamp a = x at *
  generalize clamp b = y at *
  obtain ⟨ha1, ha2⟩ := ha
  obtain ⟨hb1, hb2⟩ := hb
  have HA := Lib.hid hca
  have HB := Lib.hid hcb
  clear hca hcb
  by_cases h1 : y ≤ 0
  · rw [if_pos h1]
    go_enter Tryz.func84, Tryz.ntmps84
    go_wp2_with fail
    refine (HA.out _).mono ?_
    rintro e w' ⟨rfl, rfl⟩
    go_wp2_with fail
    refine (HB.out _).mono ?_
    rintro e w' ⟨rfl, rfl⟩
    go_wp2
    go_ret2
    exact ⟨rfl, rfl⟩
  · have h2 : 1 ≤ y := by omega
    obtain ⟨hq1, hq2⟩ := tdiv_bd x y ha1 ha2 h2
    rw [if_neg h1]
    go_enter Tryz.func84, Tryz.ntmps84
    go_wp2_with fail
    refine (HA.out _).mono ?_
    rintro e w' ⟨rfl, rfl⟩
    go_wp2_with fail
    refine (HB.out _).mono ?_
    rintro e w' ⟨rfl, rfl⟩
    go_wp2
    all_goals go_ret2
    all_goals (refine ⟨?_, rfl⟩; unfold ceilQ)
    · have hx : (x % y != 0) = true := by assumption
      have hp : 0 < x := by assumption
      rw [if_pos ⟨hp, by rw [Int.tmod_eq_emod_of_nonneg (by omega)]; simpa using hx⟩]; rfl
    · have hx : (x % y != 0) = false := by assumption
      have hp : 0 < x := by assumption
      rw [if_neg (fun h => h.2 (by rw [Int.tmod_eq_emod_of_nonneg (by omega)]; simpa using hx))]; rfl
    · have hp : x ≤ 0 := by assumption
      rw [if_neg (fun h => by omega)]; rfl
theorem refClamp_any (n : Int) (w : World) :
    Calls Tryz.prog 51 #[.int .i64 n] w fun e w' => e = .returned (.int .i64 (clamp n)) ∧ w = w' := by
  go_enter Tryz.func51, Tryz.ntmps51
  go_wp2
  all_goals (go_ret; refine ⟨?_, rfl⟩; unfold clamp within; (repeat' split) <;> first | rfl | omega)
theorem refWithin_any (n lo hi : Int) (w : World) :
    Calls Tryz.prog 52 #[.int .i64 n, .int .i64 lo, .int .i64 hi] w fun e w' => e = .returned (.int .i64 (within n lo hi)) ∧ w = w' := by
  go_enter Tryz.func52, Tryz.ntmps52
  go_wp2
  all_goals (go_ret; refine ⟨?_, rfl⟩; unfold within; (repeat' split) <;> first | rfl | omega)
theorem refCeilDiv_any (a b : Int) (w : World) :
    Calls Tryz.prog 70 #[.int .i64 a, .int .i64 b] w fun e w' => e = .returned (.tuple #[.int .i64 (ceilDiv a b).1, .int .i64 (ceilDiv a b).2]) ∧ w = w' := by
  have ha := clamp_bd a
  have hb := clamp_bd b
  have hca := refClamp_any a
  have hcb := refClamp_any b
  unfold ceilDiv
  generalize clamp a = x at *
  generalize clamp b = y at *
  obtain ⟨ha1, ha2⟩ := ha
  obtain ⟨hb1, hb2⟩ := hb
  have HA := Lib.hid hca
  have HB := Lib.hid hcb
  clear hca hcb
  by_cases h1 : y ≤ 0
  · rw [if_pos h1]
    go_enter Tryz.func70, Tryz.ntmps70
    go_wp2_with fail
    refine (HA.out _).mono ?_
    rintro e w' ⟨rfl, rfl⟩
    go_wp2_with fail
    refine (HB.out _).mono ?_
    rintro e w' ⟨rfl, rfl⟩
    go_wp2
    go_ret2
    exact ⟨rfl, rfl⟩
  · have h2 : 1 ≤ y := by omega
    obtain ⟨hq1, hq2⟩ := tdiv_bd x y ha1 ha2 h2
    have hr := ceilQ_ref x y h2
    have he := Int.tmod_add_mul_tdiv x y
    have hm1 : -2199023255552 ≤ x.tdiv y * y := by
      rw [Int.mul_comm]
      have h5 := Int.tmod_lt_of_pos x (show 0 < y by omega)
      omega
    have hm2 : x.tdiv y * y ≤ 2199023255552 := by
      rw [Int.mul_comm]
      have h5 : -y < x.tmod y := Int.lt_tmod_of_pos x (show 0 < y by omega)
      omega
    rw [if_neg h1]
    have HR := Lib.hid hr
    clear hr he
    by_cases h4 : x.tdiv y * y < x
    · have hr' := HR.out.1 h4
      have HE : Hid (ceilQ x y = x.tdiv y + 1) := by show _ = _; unfold ceilQ; rw [if_pos hr']
      clear HR hr'
      go_enter Tryz.func70, Tryz.ntmps70
      go_wp2_with fail
      refine (HA.out _).mono ?_
      rintro e w' ⟨rfl, rfl⟩
      go_wp2_with fail
      refine (HB.out _).mono ?_
      rintro e w' ⟨rfl, rfl⟩
      go_wp2
      go_ret2
      rw [HE.out]
      exact ⟨rfl, rfl⟩
    · have hr' : ¬ (0 < x ∧ x.tmod y ≠ 0) := fun h => h4 (HR.out.2 h)
      have HE : Hid (ceilQ x y = x.tdiv y) := by show _ = _; unfold ceilQ; rw [if_neg hr']
      clear HR hr'
      go_enter Tryz.func70, Tryz.ntmps70
      go_wp2_with fail
      refine (HA.out _).mono ?_
      rintro e w' ⟨rfl, rfl⟩
      go_wp2_with fail
      refine (HB.out _).mono ?_
      rintro e w' ⟨rfl, rfl⟩
      go_wp2
      go_ret2
      rw [HE.out]
      exact ⟨rfl, rfl⟩
end Go.Proofs.YtjgbflclhkeibaaGreat
