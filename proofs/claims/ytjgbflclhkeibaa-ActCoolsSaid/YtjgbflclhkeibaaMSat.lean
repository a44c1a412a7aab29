/-
  The numbers of layer 1 (sat) and of its reference: what Within, Clamp and CeilDiv return, for all integers. No memory is touched.
  Policies: which ones may be (RightPolicy), and how many replicas a load asks for (Asked), of the program and of the reference. One new block, nothing old is turned.
  How many replicas a load asks for: Asked, of the program and of the reference, for every policy and load.
  How many replicas are asked for, in plain Lean: monotone, within bounds, enough, none too many.
-/
import Derived.Test.YtjgbflclhkeibaaProg
import Derived.WalkKit
import Derived.Handy
import Derived.Lib.Hide
import Derived.Test.YtjgbflclhkeibaaMRd
namespace Go.Proofs.Ytjgbflclhkeibaa
open Go.RowKit
set_option linter.unusedVariables false

def within (n lo hi : Int) : Int := if hi < n then hi else if n < lo then lo else n
def clamp (n : Int) : Int := within n (-1099511627776) 1099511627776
theorem clamp_bd (n : Int) : -1099511627776 ≤ clamp n ∧ clamp n ≤ 1099511627776 := by
  unfold clamp within; split <;> try split
  all_goals omega
theorem clamp_id {n : Int} (h1 : -1099511627776 ≤ n) (h2 : n ≤ 1099511627776) : clamp n = n := by
  unfold clamp within; rw [if_neg (by omega), if_neg (by omega)]
/-- of clamped numbers -/
def ceilQ (a b : Int) : Int := if 0 < a ∧ a.tmod b ≠ 0 then a.tdiv b + 1 else a.tdiv b
def ceilDiv (a b : Int) : Int × Int := if clamp b ≤ 0 then (0, 2) else (ceilQ (clamp a) (clamp b), 0)

theorem tdiv_bd (x y : Int) (h1 : -1099511627776 ≤ x) (h2 : x ≤ 1099511627776) (h3 : 1 ≤ y) : -1099511627776 ≤ x.tdiv y ∧ x.tdiv y ≤ 1099511627776 := by
  by_cases h : 0 ≤ x
  · rw [Int.tdiv_eq_ediv_of_nonneg h]
    have a := Int.ediv_nonneg h (show 0 ≤ y by omega)
    have b := Int.ediv_le_self y h
    omega
  · have e : x = -(-x) := by omega
    rw [e, Int.neg_tdiv, Int.tdiv_eq_ediv_of_nonneg (by omega)]
    have a := Int.ediv_nonneg (show 0 ≤ -x by omega) (show 0 ≤ y by omega)
    have b := Int.ediv_le_self y (show 0 ≤ -x by omega)
    omega
theorem ceilQ_bd (x y : Int) (h1 : -1099511627776 ≤ x) (h2 : x ≤ 1099511627776) (h3 : 1 ≤ y) : -1099511627776 ≤ ceilQ x y ∧ ceilQ x y ≤ 1099511627777 := by
  have := tdiv_bd x y h1 h2 h3
  unfold ceilQ; split <;> omega
/-- the reference's test -/
theorem ceilQ_ref (x y : Int) (h3 : 1 ≤ y) : (x.tdiv y * y < x) ↔ (0 < x ∧ x.tmod y ≠ 0) := by
  have e := Int.tmod_add_mul_tdiv x y
  rw [Int.mul_comm] at e
  constructor
  · intro h
    have h0 : 0 < x.tmod y := by omega
    refine ⟨?_, by omega⟩
    by_cases hx : 0 < x
    · exact hx
    · have e2 : x.tmod y = -((-x).tmod y) := by rw [Int.neg_tmod]; omega
      have := Int.tmod_nonneg y (show 0 ≤ -x by omega); omega
  · rintro ⟨h1, h2⟩
    have := Int.tmod_nonneg y (show 0 ≤ x by omega)
    omega

theorem within_any (n lo hi : Int) (w : World) :
    Calls Try.prog 31 #[.int .i64 n, .int .i64 lo, .int .i64 hi] w fun e w' => e = .returned (.int .i64 (within n lo hi)) ∧ w = w' := by
  go_enter Try.func31, Try.ntmps31
  go_wp2
  all_goals (go_ret; refine ⟨?_, rfl⟩; unfold within; (repeat' split) <;> first | rfl | omega)
theorem clamp_any (n : Int) (w : World) :
    Calls Try.prog 49 #[.int .i64 n] w fun e w' => e = .returned (.int .i64 (clamp n)) ∧ w = w' := by
  go_enter Try.func49, Try.ntmps49
  go_wp2_with (go_at_call 31; refine (within_any _ _ _ _).mono ?_; rintro e w' ⟨rfl, rfl⟩)
  go_ret
  exact ⟨rfl, rfl⟩
theorem ceilDiv_any (a b : Int) (w : World) :
    Calls Try.prog 30 #[.int .i64 a, .int .i64 b] w fun e w' => e = .returned (.tuple #[.int .i64 (ceilDiv a b).1, .int .i64 (ceilDiv a b).2]) ∧ w = w' := by
  have ha := clamp_bd a
  have hb := clamp_bd b
  have hca := clamp_any a
  have hcb := clamp_any b
  unfold ceilDiv
  generalize clamp a = x at *
  generalize clamp b = y at *
  obtain ⟨ha1, ha2⟩ := ha
  obtain ⟨hb1, hb2⟩ := hb
  have HA := Lib.hid hca
  have HB := Lib.hid hcb
  clear hca hcb
  by_cases h1 : y ≤ 0
  · rw [if_pos h1]
    go_enter Try.func30, Try.ntmps30
    go_wp2_with fail
    refine (HA.out _).mono ?_
    rintro e w' ⟨rfl, rfl⟩
    go_wp2_with fail
    refine (HB.out _).mono ?_
    rintro e w' ⟨rfl, rfl⟩
    go_wp2
    go_ret2
    exact ⟨rfl, rfl⟩
  · have h2 : 1 ≤ y := by omega
    obtain ⟨hq1, hq2⟩ := tdiv_bd x y ha1 ha2 h2
    rw [if_neg h1]
    go_enter Try.func30, Try.ntmps30
    go_wp2_with fail
    refine (HA.out _).mono ?_
    rintro e w' ⟨rfl, rfl⟩
    go_wp2_with fail
    refine (HB.out _).mono ?_
    rintro e w' ⟨rfl, rfl⟩
    go_wp2
    all_goals go_ret2
    all_goals (refine ⟨?_, rfl⟩; unfold ceilQ)
    · have hx : (x % y != 0) = true := by assumption
      have hp : 0 < x := by assumption
      rw [if_pos ⟨hp, by rw [Int.tmod_eq_emod_of_nonneg (by omega)]; simpa using hx⟩]; rfl
    · have hx : (x % y != 0) = false := by assumption
      have hp : 0 < x := by assumption
      rw [if_neg (fun h => h.2 (by rw [Int.tmod_eq_emod_of_nonneg (by omega)]; simpa using hx))]; rfl
    · have hp : x ≤ 0 := by assumption
      rw [if_neg (fun h => by omega)]; rfl
end Go.Proofs.Ytjgbflclhkeibaa
namespace Go.Proofs.Ytjgbflclhkeibaa
open Go.RowKit
set_option linter.unusedVariables false

structure Pol where
  mn : Int
  mx : Int
  goal : Int
  slack : Int
  up : Int
  down : Int
  cool : Int
deriving DecidableEq

def Pol.cells (p : Pol) : List Value := [.int .i64 p.mn, .int .i64 p.mx, .int .i64 p.goal, .int .i64 p.slack, .int .i64 p.up, .int .i64 p.down, .int .i64 p.cool]
def Pol.right (p : Pol) : Prop := 0 ≤ p.mn ∧ p.mn ≤ p.mx ∧ p.mx ≤ 1000 ∧ 1 ≤ p.goal ∧ p.goal ≤ 1073741824 ∧ 0 ≤ p.slack ∧ p.slack ≤ 100 ∧ 1 ≤ p.up ∧ p.up ≤ 1000 ∧ 1 ≤ p.down ∧ p.down ≤ 1000 ∧ 0 ≤ p.cool ∧ p.cool ≤ 1000
instance (p : Pol) : Decidable p.right := by unfold Pol.right; infer_instance
def Pol.rightB (p : Pol) : Bool := decide p.right
theorem Pol.rightB_true {p : Pol} (h : p.right) : p.rightB = true := decide_eq_true h
theorem Pol.rightB_false {p : Pol} (h : ¬ p.right) : p.rightB = false := decide_eq_false h
theorem Pol.rightB_iff {p : Pol} : p.rightB = true ↔ p.right := by unfold Pol.rightB; exact decide_eq_true_iff

def inB (n lo hi : Int) : Bool := decide (lo ≤ n ∧ n ≤ hi)
theorem inB_true {n lo hi : Int} (h : inB n lo hi = true) : lo ≤ n ∧ n ≤ hi := of_decide_eq_true h
theorem inB_false {n lo hi : Int} (h : inB n lo hi = false) : ¬ (lo ≤ n ∧ n ≤ hi) := of_decide_eq_false h
theorem inB_yes {n lo hi : Int} (h : lo ≤ n ∧ n ≤ hi) : inB n lo hi = true := decide_eq_true h
theorem inB_no {n lo hi : Int} (h : ¬ (lo ≤ n ∧ n ≤ hi)) : inB n lo hi = false := decide_eq_false h
theorem retB {a b : Bool} (h : a = b) : Ending.returned (.bool a) = .returned (.bool b) := by rw [h]
theorem within_eq (n lo hi : Int) (hl : lo ≤ hi) : within n lo hi = n ↔ (lo ≤ n ∧ n ≤ hi) := by
  unfold within; split
  · omega
  · split <;> omega

theorem evWithin_any (n lo hi : Int) (w : World) :
    Calls Try.prog 48 #[.int .i64 n, .int .i64 lo, .int .i64 hi] w fun e w' => e = .returned (.bool (within n lo hi == n)) ∧ w = w' := by
  go_enter Try.func48, Try.ntmps48
  go_wp2_with (go_at_call 31; refine (within_any _ _ _ _).mono ?_; rintro e w' ⟨rfl, rfl⟩)
  go_ret
  exact ⟨rfl, rfl⟩
/-- where the bounds are bounds -/
theorem evWithin_inB (n lo hi : Int) (hl : lo ≤ hi) (w : World) :
    Calls Try.prog 48 #[.int .i64 n, .int .i64 lo, .int .i64 hi] w fun e w' => e = .returned (.bool (inB n lo hi)) ∧ w = w' :=
  (evWithin_any n lo hi w).mono fun e w' ⟨he, hw⟩ => ⟨by rw [he]; exact retB (by rw [Bool.eq_iff_iff]; unfold inB; rw [beq_iff_eq, decide_eq_true_iff]; exact within_eq n lo hi hl), hw⟩

set_option maxHeartbeats 1000000 in
theorem rightPolicy_yes (p : Pol) (h : p.right) (w : World) :
    Calls Try.prog 29 #[.agg #[.int .i64 p.mn, .int .i64 p.mx, .int .i64 p.goal, .int .i64 p.slack, .int .i64 p.up, .int .i64 p.down, .int .i64 p.cool]] w fun e w' => e = .returned (.bool true) ∧ Below w.heap.size w w' := by
  obtain ⟨h1, h2, h3, h4, h5, h6, h7, h8, h9, h10, h11, h12, h13⟩ := h
  have e1 := inB_yes (n := p.mx) (lo := 0) (hi := 1000) ⟨by omega, by omega⟩
  have e2 := inB_yes (n := p.mn) (lo := 0) (hi := p.mx) ⟨by omega, by omega⟩
  have e3 := inB_yes (n := p.goal) (lo := 1) (hi := 1073741824) ⟨by omega, by omega⟩
  have e4 := inB_yes (n := p.slack) (lo := 0) (hi := 100) ⟨by omega, by omega⟩
  have e5 := inB_yes (n := p.up) (lo := 1) (hi := 1000) ⟨by omega, by omega⟩
  have e6 := inB_yes (n := p.down) (lo := 1) (hi := 1000) ⟨by omega, by omega⟩
  have e7 := inB_yes (n := p.cool) (lo := 0) (hi := 1000) ⟨by omega, by omega⟩
  go_enter Try.func29, Try.ntmps29
  go_wp2_with (go_at_call 48; refine (evWithin_inB _ _ _ (by omega) _).mono ?_; rintro e w' ⟨rfl, rfl⟩)
  go_ret
  exact ⟨rfl, (Below.refl _ _).alloc (Nat.le_refl _) _⟩

set_option maxHeartbeats 2000000 in
theorem rightPolicy_any (p : Pol) (w : World) :
    Calls Try.prog 29 #[.agg #[.int .i64 p.mn, .int .i64 p.mx, .int .i64 p.goal, .int .i64 p.slack, .int .i64 p.up, .int .i64 p.down, .int .i64 p.cool]] w fun e w' => e = .returned (.bool p.rightB) ∧ Below w.heap.size w w' := by
  by_cases hr : p.right
  · rw [Pol.rightB_true hr]; exact rightPolicy_yes p hr w
  rw [Pol.rightB_false hr]
  have HR := Lib.hid hr
  clear hr
  by_cases h1 : 0 ≤ p.mx ∧ p.mx ≤ 1000
  case neg =>
    have e1 := inB_no h1
    clear h1 HR
    go_enter Try.func29, Try.ntmps29
    go_wp2_with (go_at_call 48; refine (evWithin_inB _ _ _ (by omega) _).mono ?_; rintro e w' ⟨rfl, rfl⟩)
    go_ret
    exact ⟨rfl, (Below.refl _ _).alloc (Nat.le_refl _) _⟩
  case pos =>
    have e1 := inB_yes h1
    obtain ⟨h1a, h1b⟩ := h1
    go_enter Try.func29, Try.ntmps29
    go_wp2_with (go_at_call 48; refine (evWithin_inB _ _ _ (by omega) _).mono ?_; rintro e w' ⟨rfl, rfl⟩)
    all_goals go_ret
    all_goals refine ⟨?_, (Below.refl _ _).alloc (Nat.le_refl _) _⟩
    all_goals first | rfl | skip
    all_goals
      refine retB (Bool.eq_false_iff.2 fun hc => ?_)
      refine absurd ?_ HR.out
      have a2 := inB_true (n := p.mn) (by assumption)
      have a3 := inB_true (n := p.goal) (by assumption)
      have a4 := inB_true (n := p.slack) (by assumption)
      have a5 := inB_true (n := p.up) (by assumption)
      have a6 := inB_true (n := p.down) (by assumption)
      have a7 := inB_true hc
      exact ⟨by omega, by omega, by omega, by omega, by omega, by omega, by omega, by omega, by omega, by omega, by omega, by omega, by omega⟩


/-- how many replicas are asked for; an error's number -/
def asked (p : Pol) (load : Int) : Int × Int := if p.right then (within (ceilQ (clamp (max load 0)) (clamp p.goal)) p.mn p.mx, 0) else (0, 2)
theorem asked_right {p : Pol} (h : p.right) (load : Int) : ceilDiv (max load 0) p.goal = (ceilQ (clamp (max load 0)) (clamp p.goal), 0) := by
  unfold Pol.right at h
  unfold ceilDiv
  rw [if_neg (by rw [clamp_id (n := p.goal) (by omega) (by omega)]; omega)]

end Go.Proofs.Ytjgbflclhkeibaa
namespace Go.Proofs.Ytjgbflclhkeibaa
open Go.RowKit
set_option linter.unusedVariables false

/-- m: the load, at least nought -/
theorem policyAsked_m (p : Pol) (load m : Int) (hm : m = max load 0) (w : World) :
    Calls Try.prog 16 #[.agg #[.int .i64 p.mn, .int .i64 p.mx, .int .i64 p.goal, .int .i64 p.slack, .int .i64 p.up, .int .i64 p.down, .int .i64 p.cool], .int .i64 load] w fun e w' => e = .returned (.tuple #[.int .i64 (asked p load).1, .int .i64 (asked p load).2]) ∧ Below w.heap.size w w' := by
  have hrp := rightPolicy_any p
  have hcd := ceilDiv_any m p.goal
  have HR := Lib.hid hrp
  clear hrp
  unfold asked
  by_cases h : p.right
  · rw [if_pos h]
    rw [hm, asked_right h, ← hm] at hcd
    rw [← hm]
    have HC := Lib.hid hcd
    clear hcd
    generalize ceilQ (clamp m) (clamp p.goal) = q at *
    have e1 := Pol.rightB_true h
    have HX := Lib.hid h
    clear h
    rcases (show 0 < load ∨ load = 0 ∨ load < 0 by omega) with hl | hl | hl
    case' inl => obtain rfl : m = load := by omega
    case' inr.inl => obtain rfl : m = 0 := by omega
    case' inr.inl => subst hl
    case' inr.inr => obtain rfl : m = 0 := by omega
    all_goals
      clear hm
      go_enter Try.func16, Try.ntmps16
      go_wp2_with (first
        | (go_at_call 29; refine (HR.out _).mono ?_; rintro e w1 ⟨rfl, hb⟩; obtain ⟨hc, hf⟩ := bcell hb; have hz : w.heap.size < w1.heap.size := by have := hb.size; simp at this; omega)
        | (go_at_call 30; refine (HC.out _).mono ?_; rintro e w2 ⟨rfl, rfl⟩)
        | (go_at_call 31; refine (within_any _ _ _ _).mono ?_; rintro e w3 ⟨rfl, rfl⟩))
      go_ret2
      exact ⟨rfl, ((Below.refl _ _).alloc (Nat.le_refl _) _).trans (hb.mono (by simp))⟩
  · rw [if_neg h]
    have e1 := Pol.rightB_false h
    clear h hcd
    go_enter Try.func16, Try.ntmps16
    go_wp2_with fail
    refine (HR.out _).mono ?_
    rintro e w1 ⟨rfl, hb⟩
    go_wp2
    go_ret2
    exact ⟨rfl, ((Below.refl _ _).alloc (Nat.le_refl _) _).trans (hb.mono (by simp))⟩
theorem policyAsked_any (p : Pol) (load : Int) (w : World) :
    Calls Try.prog 16 #[.agg #[.int .i64 p.mn, .int .i64 p.mx, .int .i64 p.goal, .int .i64 p.slack, .int .i64 p.up, .int .i64 p.down, .int .i64 p.cool], .int .i64 load] w fun e w' => e = .returned (.tuple #[.int .i64 (asked p load).1, .int .i64 (asked p load).2]) ∧ Below w.heap.size w w' := policyAsked_m p load _ rfl w

end Go.Proofs.Ytjgbflclhkeibaa
namespace Go.Proofs.Ytjgbflclhkeibaa
open Go.RowKit
set_option linter.unusedVariables false

/-! ### the plain law -/
theorem ceilQ_enough (x y : Int) (hx : 0 ≤ x) (hy : 1 ≤ y) : x ≤ ceilQ x y * y ∧ (ceilQ x y - 1) * y < x ∨ x = 0 ∧ ceilQ x y = 0 := by
  have e := Int.tmod_add_mul_tdiv x y
  have m0 := Int.tmod_nonneg y hx
  have m1 := Int.tmod_lt_of_pos x (show 0 < y by omega)
  rw [Int.mul_comm] at e
  unfold ceilQ
  split
  · rename_i h
    left
    rw [Int.add_mul, Int.one_mul, show x.tdiv y + 1 - 1 = x.tdiv y by omega]
    omega
  · rename_i h
    by_cases h0 : x = 0
    · right; subst h0; exact ⟨rfl, Int.zero_tdiv y⟩
    · left
      have : x.tmod y = 0 := by
        by_cases hh : x.tmod y = 0
        · exact hh
        · exact absurd ⟨by omega, hh⟩ h
      rw [Int.sub_mul, Int.one_mul]
      omega
theorem ceilQ_nonneg (x y : Int) (hx : 0 ≤ x) (hy : 1 ≤ y) : 0 ≤ ceilQ x y := by
  have : 0 ≤ x.tdiv y := Int.tdiv_nonneg hx (by omega)
  unfold ceilQ; split <;> omega
theorem ceilQ_zero (y : Int) : ceilQ 0 y = 0 := by unfold ceilQ; rw [if_neg (by omega)]; exact Int.zero_tdiv y
theorem ceilQ_mono (x x' y : Int) (hx : 0 ≤ x) (h : x ≤ x') (hy : 1 ≤ y) : ceilQ x y ≤ ceilQ x' y := by
  have hq := ceilQ_nonneg x' y (by omega) hy
  rcases ceilQ_enough x y hx hy with ⟨_, h2⟩ | ⟨_, h2⟩
  · rcases ceilQ_enough x' y (by omega) hy with ⟨h3, _⟩ | ⟨h3, h4⟩
    · have : (ceilQ x y - 1) * y < ceilQ x' y * y := by omega
      have := Int.lt_of_mul_lt_mul_right this (by omega)
      omega
    · obtain rfl : x = 0 := by omega
      rw [ceilQ_zero]; exact hq
  · omega
structure MoreF (p : Pol) (a b n m x : Int) : Prop where
  lo : p.mn ≤ n
  hi : n ≤ p.mx
  mono : a ≤ b → n ≤ m
  enough : p.mx ≤ n ∨ x ≤ n * p.goal
  none : n ≤ p.mn ∨ (n - 1) * p.goal < x
theorem within_mono (n m lo hi : Int) (h : n ≤ m) (hl : lo ≤ hi) : within n lo hi ≤ within m lo hi := by
  unfold within; repeat' split
  all_goals omega
theorem within_range (n lo hi : Int) (hl : lo ≤ hi) : lo ≤ within n lo hi ∧ within n lo hi ≤ hi := by
  unfold within; repeat' split
  all_goals omega
theorem more_facts (p : Pol) (h : p.right) (a b : Int) : MoreF p a b (asked p a).1 (asked p b).1 (min (max a 0) 1099511627776) := by
  have hr := h
  unfold Pol.right at hr
  have hc : ∀ z : Int, clamp (max z 0) = min (max z 0) 1099511627776 := by
    intro z
    unfold clamp within
    repeat' split
    all_goals omega
  have hg : clamp p.goal = p.goal := clamp_id (by omega) (by omega)
  unfold asked
  rw [if_pos h, if_pos h, hc, hc, hg]
  have q1 := ceilQ_enough (min (max a 0) 1099511627776) p.goal (by omega) (by omega)
  have q0 := ceilQ_nonneg (min (max a 0) 1099511627776) p.goal (by omega) (by omega)
  refine ⟨(within_range _ _ _ (by omega)).1, (within_range _ _ _ (by omega)).2, fun hab => within_mono _ _ _ _ (ceilQ_mono _ _ _ (by omega) (by omega) (by omega)) (by omega), ?_, ?_⟩
  · generalize ceilQ (min (max a 0) 1099511627776) p.goal = q at q1 q0 ⊢
    unfold within
    split
    · left; omega
    · split
      · right
        have : q * p.goal ≤ p.mn * p.goal := Int.mul_le_mul_of_nonneg_right (by omega) (by omega)
        rcases q1 with ⟨h1, _⟩ | ⟨h1, h2⟩
        · show _ ≤ p.mn * p.goal; omega
        · have : 0 ≤ p.mn * p.goal := Int.mul_nonneg (by omega) (by omega)
          show _ ≤ p.mn * p.goal; omega
      · right
        rcases q1 with ⟨h1, _⟩ | ⟨h1, h2⟩
        · exact h1
        · show _ ≤ q * p.goal; rw [h2, Int.zero_mul]; omega
  · generalize ceilQ (min (max a 0) 1099511627776) p.goal = q at q1 q0 ⊢
    unfold within
    split
    · right
      have : (p.mx - 1) * p.goal ≤ (q - 1) * p.goal := Int.mul_le_mul_of_nonneg_right (by omega) (by omega)
      rcases q1 with ⟨_, h1⟩ | ⟨h1, h2⟩
      · show (p.mx - 1) * p.goal < _; omega
      · omega
    · split
      · left; show p.mn ≤ p.mn; omega
      · rcases q1 with ⟨_, h1⟩ | ⟨h1, h2⟩
        · right; exact h1
        · left; show q ≤ p.mn; omega
end Go.Proofs.Ytjgbflclhkeibaa
