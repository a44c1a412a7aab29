/-
  Policies: which ones may be (RightPolicy), and how many replicas a load asks for (Asked), of the program and of the reference. One new block, nothing old is turned.
-/
import Derived.Test.YtkdjfoehpioghaaSat
import Derived.Test.YtkdjfoehpioghaaBase
namespace Go.Proofs.Ytkdjfoehpioghaa
open Go.RowKit
set_option linter.unusedVariables false

structure Pol where
  mn : Int
  mx : Int
  goal : Int
  slack : Int
  up : Int
  down : Int
  cool : Int
deriving DecidableEq

def Pol.cells (p : Pol) : List Value := [.int .i64 p.mn, .int .i64 p.mx, .int .i64 p.goal, .int .i64 p.slack, .int .i64 p.up, .int .i64 p.down, .int .i64 p.cool]
def Pol.right (p : Pol) : Prop := 0 ≤ p.mn ∧ p.mn ≤ p.mx ∧ p.mx ≤ 1000 ∧ 1 ≤ p.goal ∧ p.goal ≤ 1073741824 ∧ 0 ≤ p.slack ∧ p.slack ≤ 100 ∧ 1 ≤ p.up ∧ p.up ≤ 1000 ∧ 1 ≤ p.down ∧ p.down ≤ 1000 ∧ 0 ≤ p.cool ∧ p.cool ≤ 1000
instance (p : Pol) : Decidable p.right := by unfold Pol.right; infer_instance
def Pol.rightB (p : Pol) : Bool := decide p.right
theorem Pol.rightB_true {p : Pol} (h : p.right) : p.rightB = true := decide_eq_true h
theorem Pol.rightB_false {p : Pol} (h : ¬ p.right) : p.rightB = false := decide_eq_false h
theorem Pol.rightB_iff {p : Pol} : p.rightB = true ↔ p.right := by unfold Pol.rightB; exact decide_eq_true_iff

def inB (n lo hi : Int) : Bool := decide (lo ≤ n ∧ n ≤ hi)
theorem inB_true {n lo hi : Int} (h : inB n lo hi = true) : lo ≤ n ∧ n ≤ hi := of_decide_eq_true h
theorem inB_false {n lo hi : Int} (h : inB n lo hi = false) : ¬ (lo ≤ n ∧ n ≤ hi) := of_decide_eq_false h
theorem inB_yes {n lo hi : Int} (h : lo ≤ n ∧ n ≤ hi) : inB n lo hi = true := decide_eq_true h
theorem inB_no {n lo hi : Int} (h : ¬ (lo ≤ n ∧ n ≤ hi)) : inB n lo hi = false := decide_eq_false h
theorem retB {a b : Bool} (h : a = b) : Ending.returned (.bool a) = .returned (.bool b) := by rw [h]
theorem within_eq (n lo hi : Int) (hl : lo ≤ hi) : within n lo hi = n ↔ (lo ≤ n ∧ n ≤ hi) := by
  unfold within; split
  · omega
  · split <;> omega




/-- how many replicas are asked for; an error's number -/
def asked (p : Pol) (load : Int) : Int × Int := if p.right then (within (ceilQ (clamp (max load 0)) (clamp p.goal)) p.mn p.mx, 0) else (0, 2)
theorem asked_right {p : Pol} (h : p.right) (load : Int) : ceilDiv (max load 0) p.goal = (ceilQ (clamp (max load 0)) (clamp p.goal), 0) := by
  unfold Pol.right at h
  unfold ceilDiv
  rw [if_neg (by rw [clamp_id (n := p.goal) (by omega) (by omega)]; omega)]

end Go.Proofs.Ytkdjfoehpioghaa
