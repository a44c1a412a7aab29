/-
  The numbers of layer 1 (sat) and of its reference: what Within, Clamp and CeilDiv return, for all integers. No memory is touched.
-/
import Derived.Test.YtkdjfoehpioghaaProg
import Derived.WalkKit
import Derived.Handy
import Derived.Lib.Hide
namespace Go.Proofs.Ytkdjfoehpioghaa
open Go.RowKit
set_option linter.unusedVariables false

def within (n lo hi : Int) : Int := if hi < n then hi else if n < lo then lo else n
def clamp (n : Int) : Int := within n (-1099511627776) 1099511627776
theorem clamp_bd (n : Int) : -1099511627776 ≤ clamp n ∧ clamp n ≤ 1099511627776 := by
  unfold clamp within; split <;> try split
  all_goals omega
theorem clamp_id {n : Int} (h1 : -1099511627776 ≤ n) (h2 : n ≤ 1099511627776) : clamp n = n := by
  unfold clamp within; rw [if_neg (by omega), if_neg (by omega)]
/-- of clamped numbers -/
def ceilQ (a b : Int) : Int := if 0 < a ∧ a.tmod b ≠ 0 then a.tdiv b + 1 else a.tdiv b
def ceilDiv (a b : Int) : Int × Int := if clamp b ≤ 0 then (0, 2) else (ceilQ (clamp a) (clamp b), 0)

theorem tdiv_bd (x y : Int) (h1 : -1099511627776 ≤ x) (h2 : x ≤ 1099511627776) (h3 : 1 ≤ y) : -1099511627776 ≤ x.tdiv y ∧ x.tdiv y ≤ 1099511627776 := by
  by_cases h : 0 ≤ x
  · rw [Int.tdiv_eq_ediv_of_nonneg h]
    have a := Int.ediv_nonneg h (show 0 ≤ y by omega)
    have b := Int.ediv_le_self y h
    omega
  · have e : x = -(-x) := by omega
    rw [e, Int.neg_tdiv, Int.tdiv_eq_ediv_of_nonneg (by omega)]
    have a := Int.ediv_nonneg (show 0 ≤ -x by omega) (show 0 ≤ y by omega)
    have b := Int.ediv_le_self y (show 0 ≤ -x by omega)
    omega
theorem ceilQ_bd (x y : Int) (h1 : -1099511627776 ≤ x) (h2 : x ≤ 1099511627776) (h3 : 1 ≤ y) : -1099511627776 ≤ ceilQ x y ∧ ceilQ x y ≤ 1099511627777 := by
  have := tdiv_bd x y h1 h2 h3
  unfold ceilQ; split <;> omega
/-- the reference's test -/
theorem ceilQ_ref (x y : Int) (h3 : 1 ≤ y) : (x.tdiv y * y < x) ↔ (0 < x ∧ x.tmod y ≠ 0) := by
  have e := Int.tmod_add_mul_tdiv x y
  rw [Int.mul_comm] at e
  constructor
  · intro h
    have h0 : 0 < x.tmod y := by omega
    refine ⟨?_, by omega⟩
    by_cases hx : 0 < x
    · exact hx
    · have e2 : x.tmod y = -((-x).tmod y) := by rw [Int.neg_tmod]; omega
      have := Int.tmod_nonneg y (show 0 ≤ -x by omega); omega
  · rintro ⟨h1, h2⟩
    have := Int.tmod_nonneg y (show 0 ≤ x by omega)
    omega

theorem within_any (n lo hi : Int) (w : World) :
    Calls Try.prog 52 #[.int .i64 n, .int .i64 lo, .int .i64 hi] w fun e w' => e = .returned (.int .i64 (within n lo hi)) ∧ w = w' := by
  go_enter Try.func52, Try.ntmps52
  go_wp2
  all_goals (go_ret; refine ⟨?_, rfl⟩; unfold within; (repeat' split) <;> first | rfl | omega)
end Go.Proofs.Ytkdjfoehpioghaa
