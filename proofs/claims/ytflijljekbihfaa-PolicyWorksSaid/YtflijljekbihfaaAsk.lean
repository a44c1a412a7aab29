/-
  How many replicas a load asks for: Asked, of the program and of the reference, for every policy and load.
-/
import Derived.Test.YtflijljekbihfaaPol
namespace Go.Proofs.Ytflijljekbihfaa
open Go.RowKit
set_option linter.unusedVariables false

/-- m: the load, at least nought -/
theorem policyAsked_m (p : Pol) (load m : Int) (hm : m = max load 0) (w : World) :
    Calls Try.prog 15 #[.agg #[.int .i64 p.mn, .int .i64 p.mx, .int .i64 p.goal, .int .i64 p.slack, .int .i64 p.up, .int .i64 p.down, .int .i64 p.cool], .int .i64 load] w fun e w' => e = .returned (.tuple #[.int .i64 (asked p load).1, .int .i64 (asked p load).2]) ∧ Below w.heap.size w w' := by
  have hrp := rightPolicy_any p
  have hcd := ceilDiv_any m p.goal
  have HR := Lib.hid hrp
  clear hrp
  unfold asked
  by_cases h : p.right
  · rw [if_pos h]
    rw [hm, asked_right h, ← hm] at hcd
    rw [← hm]
    have HC := Lib.hid hcd
    clear hcd
    generalize ceilQ (clamp m) (clamp p.goal) = q at *
    have e1 := Pol.rightB_true h
    have HX := Lib.hid h
    clear h
    rcases (show 0 < load ∨ load = 0 ∨ load < 0 by omega) with hl | hl | hl
    case' inl => obtain rfl : m = load := by omega
    case' inr.inl => obtain rfl : m = 0 := by omega
    case' inr.inl => subst hl
    case' inr.inr => obtain rfl : m = 0 := by omega
    all_goals
      clear hm
      go_enter Try.func15, Try.ntmps15
      go_wp2_with (first
        | (go_at_call 24; refine (HR.out _).mono ?_; rintro e w1 ⟨rfl, hb⟩; obtain ⟨hc, hf⟩ := bcell hb; have hz : w.heap.size < w1.heap.size := by have := hb.size; simp at this; omega)
        | (go_at_call 25; refine (HC.out _).mono ?_; rintro e w2 ⟨rfl, rfl⟩)
        | (go_at_call 26; refine (within_any _ _ _ _).mono ?_; rintro e w3 ⟨rfl, rfl⟩))
      go_ret2
      exact ⟨rfl, ((Below.refl _ _).alloc (Nat.le_refl _) _).trans (hb.mono (by simp))⟩
  · rw [if_neg h]
    have e1 := Pol.rightB_false h
    clear h hcd
    go_enter Try.func15, Try.ntmps15
    go_wp2_with fail
    refine (HR.out _).mono ?_
    rintro e w1 ⟨rfl, hb⟩
    go_wp2
    go_ret2
    exact ⟨rfl, ((Below.refl _ _).alloc (Nat.le_refl _) _).trans (hb.mono (by simp))⟩
theorem policyAsked_any (p : Pol) (load : Int) (w : World) :
    Calls Try.prog 15 #[.agg #[.int .i64 p.mn, .int .i64 p.mx, .int .i64 p.goal, .int .i64 p.slack, .int .i64 p.up, .int .i64 p.down, .int .i64 p.cool], .int .i64 load] w fun e w' => e = .returned (.tuple #[.int .i64 (asked p load).1, .int .i64 (asked p load).2]) ∧ Below w.heap.size w w' := policyAsked_m p load _ rfl w

end Go.Proofs.Ytflijljekbihfaa
