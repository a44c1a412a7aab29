/-
  How many replicas are asked for, in plain Lean: monotone, within bounds, enough, none too many.
-/
import Derived.Test.YtfbbafmklahmmaaAsk
namespace Go.Proofs.Ytfbbafmklahmmaa
open Go.RowKit
set_option linter.unusedVariables false

/-! ### the plain law -/
theorem ceilQ_enough (x y : Int) (hx : 0 ≤ x) (hy : 1 ≤ y) : x ≤ ceilQ x y * y ∧ (ceilQ x y - 1) * y < x ∨ x = 0 ∧ ceilQ x y = 0 := by
  have e := Int.tmod_add_mul_tdiv x y
  have m0 := Int.tmod_nonneg y hx
  have m1 := Int.tmod_lt_of_pos x (show 0 < y by omega)
  rw [Int.mul_comm] at e
  unfold ceilQ
  split
  · rename_i h
    left
    rw [Int.add_mul, Int.one_mul, show x.tdiv y + 1 - 1 = x.tdiv y by omega]
    omega
  · rename_i h
    by_cases h0 : x = 0
    · right; subst h0; exact ⟨rfl, Int.zero_tdiv y⟩
    · left
      have : x.tmod y = 0 := by
        by_cases hh : x.tmod y = 0
        · exact hh
        · exact absurd ⟨by omega, hh⟩ h
      rw [Int.sub_mul, Int.one_mul]
      omega
theorem ceilQ_nonneg (x y : Int) (hx : 0 ≤ x) (hy : 1 ≤ y) : 0 ≤ ceilQ x y := by
  have : 0 ≤ x.tdiv y := Int.tdiv_nonneg hx (by omega)
  unfold ceilQ; split <;> omega
theorem ceilQ_zero (y : Int) : ceilQ 0 y = 0 := by unfold ceilQ; rw [if_neg (by omega)]; exact Int.zero_tdiv y
theorem ceilQ_mono (x x' y : Int) (hx : 0 ≤ x) (h : x ≤ x') (hy : 1 ≤ y) : ceilQ x y ≤ ceilQ x' y := by
  have hq := ceilQ_nonneg x' y (by omega) hy
  rcases ceilQ_enough x y hx hy with ⟨_, h2⟩ | ⟨_, h2⟩
  · rcases ceilQ_enough x' y (by omega) hy with ⟨h3, _⟩ | ⟨h3, h4⟩
    · have : (ceilQ x y - 1) * y < ceilQ x' y * y := by omega
      have := Int.lt_of_mul_lt_mul_right this (by omega)
      omega
    · obtain rfl : x = 0 := by omega
      rw [ceilQ_zero]; exact hq
  · omega
structure MoreF (p : Pol) (a b n m x : Int) : Prop where
  lo : p.mn ≤ n
  hi : n ≤ p.mx
  mono : a ≤ b → n ≤ m
  enough : p.mx ≤ n ∨ x ≤ n * p.goal
  none : n ≤ p.mn ∨ (n - 1) * p.goal < x
theorem within_mono (n m lo hi : Int) (h : n ≤ m) (hl : lo ≤ hi) : within n lo hi ≤ within m lo hi := by
  unfold within; repeat' split
  all_goals omega
theorem within_range (n lo hi : Int) (hl : lo ≤ hi) : lo ≤ within n lo hi ∧ within n lo hi ≤ hi := by
  unfold within; repeat' split
  all_goals omega
theorem more_facts (p : Pol) (h : p.right) (a b : Int) : MoreF p a b (asked p a).1 (asked p b).1 (min (max a 0) 1099511627776) := by
  have hr := h
  unfold Pol.right at hr
  have hc : ∀ z : Int, clamp (max z 0) = min (max z 0) 1099511627776 := by
    intro z
    unfold clamp within
    repeat' split
    all_goals omega
  have hg : clamp p.goal = p.goal := clamp_id (by omega) (by omega)
  unfold asked
  rw [if_pos h, if_pos h, hc, hc, hg]
  have q1 := ceilQ_enough (min (max a 0) 1099511627776) p.goal (by omega) (by omega)
  have q0 := ceilQ_nonneg (min (max a 0) 1099511627776) p.goal (by omega) (by omega)
  refine ⟨(within_range _ _ _ (by omega)).1, (within_range _ _ _ (by omega)).2, fun hab => within_mono _ _ _ _ (ceilQ_mono _ _ _ (by omega) (by omega) (by omega)) (by omega), ?_, ?_⟩
  · generalize ceilQ (min (max a 0) 1099511627776) p.goal = q at q1 q0 ⊢
    unfold within
    split
    · left; omega
    · split
      · right
        have : q * p.goal ≤ p.mn * p.goal := Int.mul_le_mul_of_nonneg_right (by omega) (by omega)
        rcases q1 with ⟨h1, _⟩ | ⟨h1, h2⟩
        · show _ ≤ p.mn * p.goal; omega
        · have : 0 ≤ p.mn * p.goal := Int.mul_nonneg (by omega) (by omega)
          show _ ≤ p.mn * p.goal; omega
      · right
        rcases q1 with ⟨h1, _⟩ | ⟨h1, h2⟩
        · exact h1
        · show _ ≤ q * p.goal; rw [h2, Int.zero_mul]; omega
  · generalize ceilQ (min (max a 0) 1099511627776) p.goal = q at q1 q0 ⊢
    unfold within
    split
    · right
      have : (p.mx - 1) * p.goal ≤ (q - 1) * p.goal := Int.mul_le_mul_of_nonneg_right (by omega) (by omega)
      rcases q1 with ⟨_, h1⟩ | ⟨h1, h2⟩
      · show (p.mx - 1) * p.goal < _; omega
      · omega
    · split
      · left; show p.mn ≤ p.mn; omega
      · rcases q1 with ⟨_, h1⟩ | ⟨h1, h2⟩
        · right; exact h1
        · left; show q ≤ p.mn; omega
end Go.Proofs.Ytfbbafmklahmmaa
