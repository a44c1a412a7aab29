/-
  Policies: which ones may be (RightPolicy), and how many replicas a load asks for (Asked), of the program and of the reference. One new block, nothing old is turned.
  How many replicas a load asks for: Asked, of the program and of the reference, for every policy and load.
-/
import Derived.Test.YtjgbflclhkeibaaGreatSat
import Derived.Test.YtjgbflclhkeibaaGreatMRd
namespace Go.Proofs.YtjgbflclhkeibaaGreat
open Go.RowKit
set_option linter.unusedVariables false

structure Pol where
  mn : Int
  mx : Int
  goal : Int
  slack : Int
  up : Int
  down : Int
  cool : Int
deriving DecidableEq

def Pol.cells (p : Pol) : List Value := [.int .i64 p.mn, .int .i64 p.mx, .int .i64 p.goal, .int .i64 p.slack, .int .i64 p.up, .int .i64 p.down, .int .i64 p.cool]
def Pol.right (p : Pol) : Prop := 0 ≤ p.mn ∧ p.mn ≤ p.mx ∧ p.mx ≤ 1000 ∧ 1 ≤ p.goal ∧ p.goal ≤ 1073741824 ∧ 0 ≤ p.slack ∧ p.slack ≤ 100 ∧ 1 ≤ p.up ∧ p.up ≤ 1000 ∧ 1 ≤ p.down ∧ p.down ≤ 1000 ∧ 0 ≤ p.cool ∧ p.cool ≤ 1000
instance (p : Pol) : Decidable p.right := by unfold Pol.right; infer_instance
def Pol.rightB (p : Pol) : Bool := decide p.right
theorem Pol.rightB_true {p : Pol} (h : p.right) : p.rightB = true := decide_eq_true h
theorem Pol.rightB_false {p : Pol} (h : ¬ p.right) : p.rightB = false := decide_eq_false h
theorem Pol.rightB_iff {p : Pol} : p.rightB = true ↔ p.right := by unfold Pol.rightB; exact decide_eq_true_iff

def inB (n lo hi : Int) : Bool := decide (lo ≤ n ∧ n ≤ hi)
theorem inB_true {n lo hi : Int} (h : inB n lo hi = true) : lo ≤ n ∧ n ≤ hi := of_decide_eq_true h
theorem inB_false {n lo hi : Int} (h : inB n lo hi = false) : ¬ (lo ≤ n ∧ n ≤ hi) := of_decide_eq_false h
theorem inB_yes {n lo hi : Int} (h : lo ≤ n ∧ n ≤ hi) : inB n lo hi = true := decide_eq_true h
theorem inB_no {n lo hi : Int} (h : ¬ (lo ≤ n ∧ n ≤ hi)) : inB n lo hi = false := decide_eq_false h
theorem retB {a b : Bool} (h : a = b) : Ending.returned (.bool a) = .returned (.bool b) := by rw [h]
theorem within_eq (n lo hi : Int) (hl : lo ≤ hi) : within n lo hi = n ↔ (lo ≤ n ∧ n ≤ hi) := by
  unfold within; split
  · omega
  · split <;> omega

theorem evWithin_any (n lo hi : Int) (w : World) :
    Calls Tryz.prog 58 #[.int .i64 n, .int .i64 lo, .int .i64 hi] w fun e w' => e = .returned (.bool (within n lo hi == n)) ∧ w = w' := by
  go_enter Tryz.func58, Tryz.ntmps58
  go_wp2_with (go_at_call 38; refine (within_any _ _ _ _).mono ?_; rintro e w' ⟨rfl, rfl⟩)
  go_ret
  exact ⟨rfl, rfl⟩
/-- where the bounds are bounds -/
theorem evWithin_inB (n lo hi : Int) (hl : lo ≤ hi) (w : World) :
    Calls Tryz.prog 58 #[.int .i64 n, .int .i64 lo, .int .i64 hi] w fun e w' => e = .returned (.bool (inB n lo hi)) ∧ w = w' :=
  (evWithin_any n lo hi w).mono fun e w' ⟨he, hw⟩ => ⟨by rw [he]; exact retB (by rw [Bool.eq_iff_iff]; unfold inB; rw [beq_iff_eq, decide_eq_true_iff]; exact within_eq n lo hi hl), hw⟩

set_option maxHeartbeats 1000000 in
theorem rightPolicy_yes (p : Pol) (h : p.right) (w : World) :
    Calls Tryz.prog 42 #[.agg #[.int .i64 p.mn, .int .i64 p.mx, .int .i64 p.goal, .int .i64 p.slack, .int .i64 p.up, .int .i64 p.down, .int .i64 p.cool]] w fun e w' => e = .returned (.bool true) ∧ Below w.heap.size w w' := by
  obtain ⟨h1, h2, h3, h4, h5, h6, h7, h8, h9, h10, h11, h12, h13⟩ := h
  have e1 := inB_yes (n := p.mx) (lo := 0) (hi := 1000) ⟨by omega, by omega⟩
  have e2 := inB_yes (n := p.mn) (lo := 0) (hi := p.mx) ⟨by omega, by omega⟩
  have e3 := inB_yes (n := p.goal) (lo := 1) (hi := 1073741824) ⟨by omega, by omega⟩
  have e4 := inB_yes (n := p.slack) (lo := 0) (hi := 100) ⟨by omega, by omega⟩
  have e5 := inB_yes (n := p.up) (lo := 1) (hi := 1000) ⟨by omega, by omega⟩
  have e6 := inB_yes (n := p.down) (lo := 1) (hi := 1000) ⟨by omega, by omega⟩
  have e7 := inB_yes (n := p.cool) (lo := 0) (hi := 1000) ⟨by omega, by omega⟩
  go_enter Tryz.func42, Tryz.ntmps42
  go_wp2_with (go_at_call 58; refine (evWithin_inB _ _ _ (by omega) _).mono ?_; rintro e w' ⟨rfl, rfl⟩)
  go_ret
  exact ⟨rfl, (Below.refl _ _).alloc (Nat.le_refl _) _⟩

set_option maxHeartbeats 2000000 in
theorem rightPolicy_any (p : Pol) (w : World) :
    Calls Tryz.prog 42 #[.agg #[.int .i64 p.mn, .int .i64 p.mx, .int .i64 p.goal, .int .i64 p.slack, .int .i64 p.up, .int .i64 p.down, .int .i64 p.cool]] w fun e w' => e = .returned (.bool p.rightB) ∧ Below w.heap.size w w' := by
  by_cases hr : p.right
  · rw [Pol.rightB_true hr]; exact rightPolicy_yes p hr w
  rw [Pol.rightB_false hr]
  have HR := Lib.hid hr
  clear hr
  by_cases h1 : 0 ≤ p.mx ∧ p.mx ≤ 1000
  case neg =>
    have e1 := inB_no h1
    clear h1 HR
    go_enter Tryz.func42, Tryz.ntmps42
    go_wp2_with (go_at_call 58; refine (evWithin_inB _ _ _ (by omega) _).mono ?_; rintro e w' ⟨rfl, rfl⟩)
    go_ret
    exact ⟨rfl, (Below.refl _ _).alloc (Nat.le_refl _) _⟩
  case pos =>
    have e1 := inB_yes h1
    obtain ⟨h1a, h1b⟩ := h1
    go_enter Tryz.func42, Tryz.ntmps42
    go_wp2_with (go_at_call 58; refine (evWithin_inB _ _ _ (by omega) _).mono ?_; rintro e w' ⟨rfl, rfl⟩)
    all_goals go_ret
    all_goals refine ⟨?_, (Below.refl _ _).alloc (Nat.le_refl _) _⟩
    all_goals first | rfl | skip
    all_goals
      refine retB (Bool.eq_false_iff.2 fun hc => ?_)
      refine absurd ?_ HR.out
      have a2 := inB_true (n := p.mn) (by assumption)
      have a3 := inB_true (n := p.goal) (by assumption)
      have a4 := inB_true (n := p.slack) (by assumption)
      have a5 := inB_true (n := p.up) (by assumption)
      have a6 := inB_true (n := p.down) (by assumption)
      have a7 := inB_true hc
      exact ⟨by omega, by omega, by omega, by omega, by omega, by omega, by omega, by omega, by omega, by omega, by omega, by omega, by omega⟩

set_option maxHeartbeats 2000000 in
theorem refRightPolicy_any (p : Pol) (w : World) :
    Calls Tryz.prog 31 #[.agg #[.int .i64 p.mn, .int .i64 p.mx, .int .i64 p.goal, .int .i64 p.slack, .int .i64 p.up, .int .i64 p.down, .int .i64 p.cool]] w fun e w' => e = .returned (.bool p.rightB) ∧ Below w.heap.size w w' := by
  have hr : Hid (p.rightB = true ↔ p.right) := Pol.rightB_iff
  by_cases h : p.right
  · have hb : Hid (p.rightB = true) := hr.out.2 h
    obtain ⟨h1, h2, h3, h4, h5, h6, h7, h8, h9, h10, h11, h12, h13⟩ := h
    go_enter Tryz.func31, Tryz.ntmps31
    go_wp2
    go_ret
    exact ⟨retB (by rw [hb.out]), (Below.refl _ _).alloc (Nat.le_refl _) _⟩
  · have hb : Hid (p.rightB = false) := by show _ = _; rw [← Bool.not_eq_true, hr.out]; exact h
    have HH := Lib.hid h
    clear h
    go_enter Tryz.func31, Tryz.ntmps31
    go_wp2
    all_goals go_ret
    all_goals refine ⟨retB ?_, (Below.refl _ _).alloc (Nat.le_refl _) _⟩
    all_goals rw [hb.out]
    all_goals first | rfl | exact decide_eq_false fun hc => HH.out ⟨by assumption, by assumption, by assumption, by assumption, by assumption, by assumption, by assumption, by assumption, by assumption, by assumption, by assumption, by assumption, hc⟩

/-- how many replicas are asked for; an error's number -/
def asked (p : Pol) (load : Int) : Int × Int := if p.right then (within (ceilQ (clamp (max load 0)) (clamp p.goal)) p.mn p.mx, 0) else (0, 2)
theorem asked_right {p : Pol} (h : p.right) (load : Int) : ceilDiv (max load 0) p.goal = (ceilQ (clamp (max load 0)) (clamp p.goal), 0) := by
  unfold Pol.right at h
  unfold ceilDiv
  rw [if_neg (by rw [clamp_id (n := p.goal) (by omega) (by omega)]; omega)]

end Go.Proofs.YtjgbflclhkeibaaGreat
namespace Go.Proofs.YtjgbflclhkeibaaGreat
open Go.RowKit
set_option linter.unusedVariables false

/-- m: the load, at least nought -/
theorem policyAsked_m (p : Pol) (load m : Int) (hm : m = max load 0) (w : World) :
    Calls Tryz.prog 65 #[.agg #[.int .i64 p.mn, .int .i64 p.mx, .int .i64 p.goal, .int .i64 p.slack, .int .i64 p.up, .int .i64 p.down, .int .i64 p.cool], .int .i64 load] w fun e w' => e = .returned (.tuple #[.int .i64 (asked p load).1, .int .i64 (asked p load).2]) ∧ Below w.heap.size w w' := by
  have hrp := rightPolicy_any p
  have hcd := ceilDiv_any m p.goal
  have HR := Lib.hid hrp
  clear hrp
  unfold asked
  by_cases h : p.right
  · rw [if_pos h]
    rw [hm, asked_right h, ← hm] at hcd
    rw [← hm]
    have HC := Lib.hid hcd
    clear hcd
    generalize ceilQ (clamp m) (clamp p.goal) = q at *
    have e1 := Pol.rightB_true h
    have HX := Lib.hid h
    clear h
    rcases (show 0 < load ∨ load = 0 ∨ load < 0 by omega) with hl | hl | hl
    case' inl => obtain rfl : m = load := by omega
    case' inr.inl => obtain rfl : m = 0 := by omega
    case' inr.inl => subst hl
    case' inr.inr => obtain rfl : m = 0 := by omega
    all_goals
      clear hm
      go_enter Tryz.func65, Tryz.ntmps65
      go_wp2_with (first
        | (go_at_call 42; refine (HR.out _).mono ?_; rintro e w1 ⟨rfl, hb⟩; obtain ⟨hc, hf⟩ := bcell hb; have hz : w.heap.size < w1.heap.size := by have := hb.size; simp at this; omega)
        | (go_at_call 84; refine (HC.out _).mono ?_; rintro e w2 ⟨rfl, rfl⟩)
        | (go_at_call 38; refine (within_any _ _ _ _).mono ?_; rintro e w3 ⟨rfl, rfl⟩))
      go_ret2
      exact ⟨rfl, ((Below.refl _ _).alloc (Nat.le_refl _) _).trans (hb.mono (by simp))⟩
  · rw [if_neg h]
    have e1 := Pol.rightB_false h
    clear h hcd
    go_enter Tryz.func65, Tryz.ntmps65
    go_wp2_with fail
    refine (HR.out _).mono ?_
    rintro e w1 ⟨rfl, hb⟩
    go_wp2
    go_ret2
    exact ⟨rfl, ((Below.refl _ _).alloc (Nat.le_refl _) _).trans (hb.mono (by simp))⟩
theorem policyAsked_any (p : Pol) (load : Int) (w : World) :
    Calls Tryz.prog 65 #[.agg #[.int .i64 p.mn, .int .i64 p.mx, .int .i64 p.goal, .int .i64 p.slack, .int .i64 p.up, .int .i64 p.down, .int .i64 p.cool], .int .i64 load] w fun e w' => e = .returned (.tuple #[.int .i64 (asked p load).1, .int .i64 (asked p load).2]) ∧ Below w.heap.size w w' := policyAsked_m p load _ rfl w

/-- m: the load, at least nought -/
theorem refAsked_m (p : Pol) (load m : Int) (hm : m = max load 0) (w : World) :
    Calls Tryz.prog 54 #[.agg #[.int .i64 p.mn, .int .i64 p.mx, .int .i64 p.goal, .int .i64 p.slack, .int .i64 p.up, .int .i64 p.down, .int .i64 p.cool], .int .i64 load] w fun e w' => e = .returned (.tuple #[.int .i64 (asked p load).1, .int .i64 (asked p load).2]) ∧ Below w.heap.size w w' := by
  have hrp := refRightPolicy_any p
  have hcd := refCeilDiv_any m p.goal
  have HR := Lib.hid hrp
  clear hrp
  unfold asked
  by_cases h : p.right
  · rw [if_pos h]
    rw [hm, asked_right h, ← hm] at hcd
    rw [← hm]
    have HC := Lib.hid hcd
    clear hcd
    generalize ceilQ (clamp m) (clamp p.goal) = q at *
    have e1 := Pol.rightB_true h
    have HX := Lib.hid h
    clear h
    rcases (show 0 < load ∨ load = 0 ∨ load < 0 by omega) with hl | hl | hl
    case' inl => obtain rfl : m = load := by omega
    case' inr.inl => obtain rfl : m = 0 := by omega
    case' inr.inl => subst hl
    case' inr.inr => obtain rfl : m = 0 := by omega
    all_goals
      clear hm
      go_enter Tryz.func54, Tryz.ntmps54
      go_wp2_with (first
        | (go_at_call 31; refine (HR.out _).mono ?_; rintro e w1 ⟨rfl, hb⟩; obtain ⟨hc, hf⟩ := bcell hb; have hz : w.heap.size < w1.heap.size := by have := hb.size; simp at this; omega)
        | (go_at_call 70; refine (HC.out _).mono ?_; rintro e w2 ⟨rfl, rfl⟩)
        | (go_at_call 52; refine (refWithin_any _ _ _ _).mono ?_; rintro e w3 ⟨rfl, rfl⟩))
      go_ret2
      exact ⟨rfl, ((Below.refl _ _).alloc (Nat.le_refl _) _).trans (hb.mono (by simp))⟩
  · rw [if_neg h]
    have e1 := Pol.rightB_false h
    clear h hcd
    go_enter Tryz.func54, Tryz.ntmps54
    go_wp2_with fail
    refine (HR.out _).mono ?_
    rintro e w1 ⟨rfl, hb⟩
    go_wp2
    go_ret2
    exact ⟨rfl, ((Below.refl _ _).alloc (Nat.le_refl _) _).trans (hb.mono (by simp))⟩
theorem refAsked_any (p : Pol) (load : Int) (w : World) :
    Calls Tryz.prog 54 #[.agg #[.int .i64 p.mn, .int .i64 p.mx, .int .i64 p.goal, .int .i64 p.slack, .int .i64 p.up, .int .i64 p.down, .int .i64 p.cool], .int .i64 load] w fun e w' => e = .returned (.tuple #[.int .i64 (asked p load).1, .int .i64 (asked p load).2]) ∧ Below w.heap.size w w' := refAsked_m p load _ rfl w
end Go.Proofs.YtjgbflclhkeibaaGreat
