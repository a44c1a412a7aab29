/-
  Plain facts on plans: what is asked ahead of one, and what comes out. No function of the program is entered.
  Plain facts on a policy and one sample of a workload: which policy counts, what the load is, what is wished. No function of the program is entered.
-/
import Derived.Test.YtjgbflclhkeibaaMRank
import Derived.Test.YtjgbflclhkeibaaMean
import Derived.Test.YtjgbflclhkeibaaMCmp
import Derived.Test.YtjgbflclhkeibaaMSat
namespace Go.Proofs.Ytjgbflclhkeibaa
open Go.Sort
set_option linter.unusedVariables false
structure ACfg where
  self : Int
  window : Int
  keep : Int
  salt : Int
structure Trk where
  wished : List Int
  written : Bool
  at' : Int
def Trk.none : Trk := ⟨[], false, 0⟩
def ACfg.right (c : ACfg) : Prop := 0 ≤ c.self ∧ c.self ≤ 7 ∧ 1 ≤ c.window ∧ c.window ≤ 16 ∧ 1 ≤ c.keep ∧ c.keep ≤ 16
instance (c : ACfg) : Decidable c.right := by unfold ACfg.right; infer_instance
def lastN (k : Nat) (l : List Int) : List Int := l.drop (l.length - k)
theorem lastN_len (k : Nat) (l : List Int) : (lastN k l).length ≤ k := by unfold lastN; rw [List.length_drop]; omega
theorem lastN_snoc (k : Nat) (l : List Int) (x : Int) (hk : 1 ≤ k) : lastN k (lastN k l ++ [x]) = lastN k (l ++ [x]) := by
  unfold lastN
  simp only [List.length_append, List.length_drop, List.length_cons, List.length_nil]
  by_cases h : l.length ≤ k
  · rw [show l.length - k = 0 by omega, List.drop_zero]
    congr 1
  · rw [List.drop_append_of_le_length (by rw [List.length_drop]; omega), List.drop_append_of_le_length (by omega), List.drop_drop]
    congr 2
    omega
/-- the policy of a workload that counts, if there is one -/
def setsOf (evs : List Ev) (work : Int) : List Ev := stSort evLater (evs.filter (isSet work))
def tooEarly (t : Trk) (p : Pol) (tick : Int) : Prop := t.written = true ∧ satSub tick p.cool < t.at'
instance (t : Trk) (p : Pol) (tick : Int) : Decidable (tooEarly t p tick) := by unfold tooEarly; infer_instance
def wishI (c : ACfg) (p : Pol) (evs : List Ev) (work now : Int) : Int := stepI p (loadN evs work c.window 8).1 now
def decideI (c : ACfg) (t : Trk) (p : Pol) (evs : List Ev) (work now : Int) : (Int × Int) × Trk :=
  if stableI t.wished (wishI c p evs work now) now = now then ((0, 15), ⟨lastN c.keep.toNat (t.wished ++ [wishI c p evs work now]), t.written, t.at'⟩)
  else ((stableI t.wished (wishI c p evs work now) now, 0), ⟨lastN c.keep.toNat (t.wished ++ [wishI c p evs work now]), t.written, t.at'⟩)
def knowI (c : ACfg) (t : Trk) (evs : List Ev) (work now tick : Int) : List Ev → (Int × Int) × Trk
  | [] => ((0, 8), t)
  | e :: _ => if e.pol.right ∧ (loadN evs work c.window 8).2 ≠ 0 then if tooEarly t e.pol tick then ((0, 14), t) else decideI c t e.pol evs work now else ((0, 8), t)
def planI (c : ACfg) (t : Trk) (evs : List Ev) (live : List Int) (work now tick : Int) : (Int × Int) × Trk :=
  if 0 ≤ now ∧ now ≤ 1000 then if own (rk live work c.salt) = (c.self, 0) then knowI c t evs work now tick (setsOf evs work) else ((0, 12), t) else ((0, 2), t)
end Go.Proofs.Ytjgbflclhkeibaa
namespace Go.Proofs.Ytjgbflclhkeibaa
open Go.Sort
set_option linter.unusedVariables false
def zeroPol : Pol := ⟨0, 0, 0, 0, 0, 0, 0⟩
def knownE (p : Pol) (load work : Int) : List Ev := [⟨⟨0, 1⟩, 1, 2, work, 0, p, []⟩, ⟨⟨0, 2⟩, 2, 1, work, load, zeroPol, []⟩]
theorem setsOf_known (p : Pol) (load work : Int) : setsOf (knownE p load work) work = [⟨⟨0, 1⟩, 1, 2, work, 0, p, []⟩] := by
  have e : (knownE p load work).filter (isSet work) = [⟨⟨0, 1⟩, 1, 2, work, 0, p, []⟩] := by simp [knownE, isSet]
  unfold setsOf
  rw [e]
  exact stSort_sorted swo_evLater (List.pairwise_singleton _ _)
theorem samples_known (p : Pol) (load work : Int) : samples (knownE p load work) work 0 = [⟨⟨0, 2⟩, 2, 1, work, load, zeroPol, []⟩] := by
  have e : (knownE p load work).filter (isSample work 0) = [⟨⟨0, 2⟩, 2, 1, work, load, zeroPol, []⟩] := by simp [knownE, isSample]
  unfold samples
  rw [e]
  exact stSort_sorted swo_newerE (List.pairwise_singleton _ _)
theorem samples_none (p : Pol) (load work node : Int) (h : node ≠ 0) : samples (knownE p load work) work node = [] := by
  have e : (knownE p load work).filter (isSample work node) = [] := by
    have : ¬ (0 : Int) = node := fun h' => h h'.symm
    simp [knownE, isSample, this]
  unfold samples
  rw [e]
  exact stSort_sorted swo_newerE List.Pairwise.nil
theorem loadN_known (p : Pol) (load work size : Int) (h1 : 1 ≤ size) (l0 : 0 ≤ load) (l1 : load ≤ 65535) : ∀ n, loadN (knownE p load work) work size (n + 1) = (load, 1)
  | 0 => by
    have hw : winOf (knownE p load work) work 0 size = [⟨⟨0, 2⟩, 2, 1, work, load, zeroPol, []⟩] := by
      unfold winOf
      rw [samples_known]
      have : cutN size 1 = 1 := by unfold cutN within; split <;> (try split) <;> omega
      simp [this]
    have hs : satAdd 0 load = load := by unfold satAdd; rw [clamp_id (n := 0) (by omega) (by omega), clamp_id (n := load) (by omega) (by omega), Int.zero_add, clamp_id (by omega) (by omega)]
    have hm : meanOf [(⟨⟨0, 2⟩, 2, 1, work, load, zeroPol, []⟩ : Ev)] = (load, 0) := by
      have hq : ceilQ load 1 = load := by unfold ceilQ; rw [Int.tmod_one, Int.tdiv_one, if_neg (by omega)]
      show ceilDiv (satAdd 0 load) 1 = _
      rw [hs]
      unfold ceilDiv
      rw [clamp_id (n := 1) (by omega) (by omega), clamp_id (n := load) (by omega) (by omega), if_neg (by omega), hq]
    show loadStep _ _ _ (0, 0) 0 = _
    unfold loadStep
    rw [show ((0 : Nat) : Int) = 0 from rfl, hw, hm, if_pos rfl, hs]
    rfl
  | n + 1 => by
    have ih := loadN_known p load work size h1 l0 l1 n
    have hw : winOf (knownE p load work) work ((n + 1 : Nat) : Int) size = [] := by
      unfold winOf
      rw [samples_none _ _ _ _ (by omega)]
      simp
    show loadStep _ _ _ (loadN _ _ _ (n + 1)) (n + 1) = _
    rw [ih]
    unfold loadStep
    rw [hw, if_neg (by decide)]
/-- what is planned for a workload of which one policy and one sample are known -/
theorem planI_known (c : ACfg) (hc : c.right) (t : Trk) (p : Pol) (hp : p.right) (load work now tick : Int) (live : List Int) (l0 : 0 ≤ load) (l1 : load ≤ 65535) (n0 : 0 ≤ now) (n1 : now ≤ 1000) :
    planI c t (knownE p load work) live work now tick = if own (rk live work c.salt) = (c.self, 0) then if tooEarly t p tick then ((0, 14), t) else
      if stableI t.wished (stepI p load now) now = now then ((0, 15), ⟨lastN c.keep.toNat (t.wished ++ [stepI p load now]), t.written, t.at'⟩) else ((stableI t.wished (stepI p load now) now, 0), ⟨lastN c.keep.toNat (t.wished ++ [stepI p load now]), t.written, t.at'⟩)
      else ((0, 12), t) := by
  have hl := loadN_known p load work c.window (by unfold ACfg.right at hc; omega) l0 l1 7
  unfold planI
  rw [if_pos ⟨n0, n1⟩, setsOf_known]
  unfold knowI decideI wishI
  simp only [hl]
  rw [if_pos (show p.right ∧ (1 : Int) ≠ 0 from ⟨hp, by decide⟩)]
theorem ceilQ_mul (m k : Int) (hm : 0 ≤ m) (hk : 1 ≤ k) : ceilQ (m * k) k = m := by
  have hx : 0 ≤ m * k := Int.mul_nonneg hm (by omega)
  rcases ceilQ_enough (m * k) k hx hk with ⟨h1, h2⟩ | ⟨h1, h2⟩
  · have a : m ≤ ceilQ (m * k) k := Int.le_of_mul_le_mul_right h1 (by omega)
    have b : ceilQ (m * k) k - 1 < m := Int.lt_of_mul_lt_mul_right h2 (by omega)
    omega
  · rw [h2]
    rcases Int.mul_eq_zero.1 h1 with h | h <;> omega
/-- of a policy without slack: what is wished is what is asked for, as near as may be -/
theorem stepI_straight (p : Pol) (hp : p.right) (hs : p.slack = 0) (load now : Int) (l0 : 0 ≤ load) (l1 : load ≤ 65535) (n0 : 0 ≤ now) (n1 : now ≤ 1000) :
    stepI p load now = within (asked p load).1 (now - p.down) (now + p.up) := by
  have ht : topLoad load = load := by unfold topLoad within; rw [if_neg (by omega), if_neg (by omega)]
  unfold stepI
  rw [ht]
  congr 1
  unfold wantedI
  split
  · rename_i hcalm
    unfold calmB at hcalm
    rw [Bool.and_eq_true, decide_eq_true_eq, decide_eq_true_eq, hs] at hcalm
    obtain ⟨h0, hc⟩ := hcalm
    have hg := hp
    unfold Pol.right at hg
    have hmb : 0 ≤ now * p.goal := Int.mul_nonneg (by omega) (by omega)
    have hmc : now * p.goal ≤ 1000 * 1073741824 := Int.mul_le_mul (by omega) (by omega) (by omega) (by omega)
    have hm : satMul now p.goal = now * p.goal := by
      unfold satMul
      rw [clamp_id (n := now) (by omega) (by omega), clamp_id (n := p.goal) (by omega) (by omega), clamp_id (by omega) (by omega)]
    rw [hm] at hc
    have hz : satMul 0 (now * p.goal) = 0 := by
      unfold satMul
      rw [clamp_id (n := 0) (by omega) (by omega), Int.zero_mul, clamp_id (by omega) (by omega)]
    rw [hz] at hc
    have hob := offI_bd load (now * p.goal)
    have ho : offI load (now * p.goal) = 0 := by
      unfold satMul at hc
      rw [clamp_id (n := 100) (by omega) (by omega), clamp_id (n := offI load (now * p.goal)) (by omega) (by omega)] at hc
      unfold clamp within at hc
      split at hc
      · omega
      · split at hc <;> omega
    have hl : load = now * p.goal := by
      unfold offI satSub at ho
      rw [clamp_id (n := load) (by omega) (by omega), clamp_id (n := now * p.goal) (by omega) (by omega), clamp_id (by omega) (by omega)] at ho
      omega
    unfold asked
    rw [if_pos hp]
    simp only
    rw [show max load 0 = load by omega, clamp_id (n := load) (by omega) (by omega), clamp_id (n := p.goal) (by omega) (by omega), hl, ceilQ_mul now p.goal n0 (by omega)]
  · exact asked_in hp load
theorem asked_bd {p : Pol} (hp : p.right) (load : Int) : 0 ≤ (asked p load).1 ∧ (asked p load).1 ≤ 1000 := by
  have hg := hp
  unfold Pol.right at hg
  unfold asked
  rw [if_pos hp]
  have := within_bd (ceilQ (clamp (max load 0)) (clamp p.goal)) p.mn p.mx (by omega)
  simp only
  omega
theorem own_one (x work salt : Int) (h0 : 0 ≤ x) (h1 : x ≤ 7) : own (rk [x] work salt) = (x, 0) := by
  have hb : x = 0 ∨ x = 1 ∨ x = 2 ∨ x = 3 ∨ x = 4 ∨ x = 5 ∨ x = 6 ∨ x = 7 := by omega
  have ht : there [x] = [x] := by rcases hb with rfl | rfl | rfl | rfl | rfl | rfl | rfl | rfl <;> decide
  rw [ranks_one (rk_ranks [x] work salt) ht]
  rfl
end Go.Proofs.Ytjgbflclhkeibaa
