/-
  How many replicas are asked for, in plain Lean: monotone, within bounds, enough, none too many.
  Plain facts on a policy and one sample of a workload: which policy counts, what the load is, what is wished. No function of the program is entered.
  The actuator's functions at any workload; the events of known; alive walked.
  The reference's functions at any workload; the two actuators side by side.
-/
import Derived.Test.YtjgbflclhkeibaaGreatMPol
import Derived.Test.YtjgbflclhkeibaaGreatMWin
import Derived.Test.YtjgbflclhkeibaaGreatPlan
import Derived.Test.YtjgbflclhkeibaaGreatRef24p
namespace Go.Proofs.YtjgbflclhkeibaaGreat
open Go.RowKit
set_option linter.unusedVariables false

/-! ### the plain law -/
theorem ceilQ_enough (x y : Int) (hx : 0 ≤ x) (hy : 1 ≤ y) : x ≤ ceilQ x y * y ∧ (ceilQ x y - 1) * y < x ∨ x = 0 ∧ ceilQ x y = 0 := by
  have e := Int.tmod_add_mul_tdiv x y
  have m0 := Int.tmod_nonneg y hx
  have m1 := Int.tmod_lt_of_pos x (show 0 < y by omega)
  rw [Int.mul_comm] at e
  unfold ceilQ
  split
  · rename_i h
    left
    rw [Int.add_mul, Int.one_mul, show x.tdiv y + 1 - 1 = x.tdiv y by omega]
    omega
  · rename_i h
    by_cases h0 : x = 0
    · right; subst h0; exact ⟨rfl, Int.zero_tdiv y⟩
    · left
      have : x.tmod y = 0 := by
        by_cases hh : x.tmod y = 0
        · exact hh
        · exact absurd ⟨by omega, hh⟩ h
      rw [Int.sub_mul, Int.one_mul]
      omega
theorem ceilQ_nonneg (x y : Int) (hx : 0 ≤ x) (hy : 1 ≤ y) : 0 ≤ ceilQ x y := by
  have : 0 ≤ x.tdiv y := Int.tdiv_nonneg hx (by omega)
  unfold ceilQ; split <;> omega
theorem ceilQ_zero (y : Int) : ceilQ 0 y = 0 := by unfold ceilQ; rw [if_neg (by omega)]; exact Int.zero_tdiv y
theorem ceilQ_mono (x x' y : Int) (hx : 0 ≤ x) (h : x ≤ x') (hy : 1 ≤ y) : ceilQ x y ≤ ceilQ x' y := by
  have hq := ceilQ_nonneg x' y (by omega) hy
  rcases ceilQ_enough x y hx hy with ⟨_, h2⟩ | ⟨_, h2⟩
  · rcases ceilQ_enough x' y (by omega) hy with ⟨h3, _⟩ | ⟨h3, h4⟩
    · have : (ceilQ x y - 1) * y < ceilQ x' y * y := by omega
      have := Int.lt_of_mul_lt_mul_right this (by omega)
      omega
    · obtain rfl : x = 0 := by omega
      rw [ceilQ_zero]; exact hq
  · omega
structure MoreF (p : Pol) (a b n m x : Int) : Prop where
  lo : p.mn ≤ n
  hi : n ≤ p.mx
  mono : a ≤ b → n ≤ m
  enough : p.mx ≤ n ∨ x ≤ n * p.goal
  none : n ≤ p.mn ∨ (n - 1) * p.goal < x
theorem within_mono (n m lo hi : Int) (h : n ≤ m) (hl : lo ≤ hi) : within n lo hi ≤ within m lo hi := by
  unfold within; repeat' split
  all_goals omega
theorem within_range (n lo hi : Int) (hl : lo ≤ hi) : lo ≤ within n lo hi ∧ within n lo hi ≤ hi := by
  unfold within; repeat' split
  all_goals omega
theorem more_facts (p : Pol) (h : p.right) (a b : Int) : MoreF p a b (asked p a).1 (asked p b).1 (min (max a 0) 1099511627776) := by
  have hr := h
  unfold Pol.right at hr
  have hc : ∀ z : Int, clamp (max z 0) = min (max z 0) 1099511627776 := by
    intro z
    unfold clamp within
    repeat' split
    all_goals omega
  have hg : clamp p.goal = p.goal := clamp_id (by omega) (by omega)
  unfold asked
  rw [if_pos h, if_pos h, hc, hc, hg]
  have q1 := ceilQ_enough (min (max a 0) 1099511627776) p.goal (by omega) (by omega)
  have q0 := ceilQ_nonneg (min (max a 0) 1099511627776) p.goal (by omega) (by omega)
  refine ⟨(within_range _ _ _ (by omega)).1, (within_range _ _ _ (by omega)).2, fun hab => within_mono _ _ _ _ (ceilQ_mono _ _ _ (by omega) (by omega) (by omega)) (by omega), ?_, ?_⟩
  · generalize ceilQ (min (max a 0) 1099511627776) p.goal = q at q1 q0 ⊢
    unfold within
    split
    · left; omega
    · split
      · right
        have : q * p.goal ≤ p.mn * p.goal := Int.mul_le_mul_of_nonneg_right (by omega) (by omega)
        rcases q1 with ⟨h1, _⟩ | ⟨h1, h2⟩
        · show _ ≤ p.mn * p.goal; omega
        · have : 0 ≤ p.mn * p.goal := Int.mul_nonneg (by omega) (by omega)
          show _ ≤ p.mn * p.goal; omega
      · right
        rcases q1 with ⟨h1, _⟩ | ⟨h1, h2⟩
        · exact h1
        · show _ ≤ q * p.goal; rw [h2, Int.zero_mul]; omega
  · generalize ceilQ (min (max a 0) 1099511627776) p.goal = q at q1 q0 ⊢
    unfold within
    split
    · right
      have : (p.mx - 1) * p.goal ≤ (q - 1) * p.goal := Int.mul_le_mul_of_nonneg_right (by omega) (by omega)
      rcases q1 with ⟨_, h1⟩ | ⟨h1, h2⟩
      · show (p.mx - 1) * p.goal < _; omega
      · omega
    · split
      · left; show p.mn ≤ p.mn; omega
      · rcases q1 with ⟨_, h1⟩ | ⟨h1, h2⟩
        · right; exact h1
        · left; show q ≤ p.mn; omega
end Go.Proofs.YtjgbflclhkeibaaGreat
namespace Go.Proofs.YtjgbflclhkeibaaGreat
open Go.Sort
set_option linter.unusedVariables false
def zeroPol : Pol := ⟨0, 0, 0, 0, 0, 0, 0⟩
def knownE (p : Pol) (load work : Int) : List Ev := [⟨⟨0, 1⟩, 1, 2, work, 0, p, []⟩, ⟨⟨0, 2⟩, 2, 1, work, load, zeroPol, []⟩]
theorem setsOf_known (p : Pol) (load work : Int) : setsOf (knownE p load work) work = [⟨⟨0, 1⟩, 1, 2, work, 0, p, []⟩] := by
  have e : (knownE p load work).filter (isSet work) = [⟨⟨0, 1⟩, 1, 2, work, 0, p, []⟩] := by simp [knownE, isSet]
  unfold setsOf
  rw [e]
  exact stSort_sorted swo_evLater (List.pairwise_singleton _ _)
theorem samples_known (p : Pol) (load work : Int) : samples (knownE p load work) work 0 = [⟨⟨0, 2⟩, 2, 1, work, load, zeroPol, []⟩] := by
  have e : (knownE p load work).filter (isSample work 0) = [⟨⟨0, 2⟩, 2, 1, work, load, zeroPol, []⟩] := by simp [knownE, isSample]
  unfold samples
  rw [e]
  exact stSort_sorted swo_newerE (List.pairwise_singleton _ _)
theorem samples_none (p : Pol) (load work node : Int) (h : node ≠ 0) : samples (knownE p load work) work node = [] := by
  have e : (knownE p load work).filter (isSample work node) = [] := by
    have : ¬ (0 : Int) = node := fun h' => h h'.symm
    simp [knownE, isSample, this]
  unfold samples
  rw [e]
  exact stSort_sorted swo_newerE List.Pairwise.nil
theorem loadN_known (p : Pol) (load work size : Int) (h1 : 1 ≤ size) (l0 : 0 ≤ load) (l1 : load ≤ 65535) : ∀ n, loadN (knownE p load work) work size (n + 1) = (load, 1)
  | 0 => by
    have hw : winOf (knownE p load work) work 0 size = [⟨⟨0, 2⟩, 2, 1, work, load, zeroPol, []⟩] := by
      unfold winOf
      rw [samples_known]
      have : cutN size 1 = 1 := by unfold cutN within; split <;> (try split) <;> omega
      simp [this]
    have hs : satAdd 0 load = load := by unfold satAdd; rw [clamp_id (n := 0) (by omega) (by omega), clamp_id (n := load) (by omega) (by omega), Int.zero_add, clamp_id (by omega) (by omega)]
    have hm : meanOf [(⟨⟨0, 2⟩, 2, 1, work, load, zeroPol, []⟩ : Ev)] = (load, 0) := by
      have hq : ceilQ load 1 = load := by unfold ceilQ; rw [Int.tmod_one, Int.tdiv_one, if_neg (by omega)]
      show ceilDiv (satAdd 0 load) 1 = _
      rw [hs]
      unfold ceilDiv
      rw [clamp_id (n := 1) (by omega) (by omega), clamp_id (n := load) (by omega) (by omega), if_neg (by omega), hq]
    show loadStep _ _ _ (0, 0) 0 = _
    unfold loadStep
    rw [show ((0 : Nat) : Int) = 0 from rfl, hw, hm, if_pos rfl, hs]
    rfl
  | n + 1 => by
    have ih := loadN_known p load work size h1 l0 l1 n
    have hw : winOf (knownE p load work) work ((n + 1 : Nat) : Int) size = [] := by
      unfold winOf
      rw [samples_none _ _ _ _ (by omega)]
      simp
    show loadStep _ _ _ (loadN _ _ _ (n + 1)) (n + 1) = _
    rw [ih]
    unfold loadStep
    rw [hw, if_neg (by decide)]
/-- what is planned for a workload of which one policy and one sample are known -/
theorem planI_known (c : ACfg) (hc : c.right) (t : Trk) (p : Pol) (hp : p.right) (load work now tick : Int) (live : List Int) (l0 : 0 ≤ load) (l1 : load ≤ 65535) (n0 : 0 ≤ now) (n1 : now ≤ 1000) :
    planI c t (knownE p load work) live work now tick = if own (rk live work c.salt) = (c.self, 0) then if tooEarly t p tick then ((0, 14), t) else
      if stableI t.wished (stepI p load now) now = now then ((0, 15), ⟨lastN c.keep.toNat (t.wished ++ [stepI p load now]), t.written, t.at'⟩) else ((stableI t.wished (stepI p load now) now, 0), ⟨lastN c.keep.toNat (t.wished ++ [stepI p load now]), t.written, t.at'⟩)
      else ((0, 12), t) := by
  have hl := loadN_known p load work c.window (by unfold ACfg.right at hc; omega) l0 l1 7
  unfold planI
  rw [if_pos ⟨n0, n1⟩, setsOf_known]
  unfold knowI decideI wishI
  simp only [hl]
  rw [if_pos (show p.right ∧ (1 : Int) ≠ 0 from ⟨hp, by decide⟩)]
theorem ceilQ_mul (m k : Int) (hm : 0 ≤ m) (hk : 1 ≤ k) : ceilQ (m * k) k = m := by
  have hx : 0 ≤ m * k := Int.mul_nonneg hm (by omega)
  rcases ceilQ_enough (m * k) k hx hk with ⟨h1, h2⟩ | ⟨h1, h2⟩
  · have a : m ≤ ceilQ (m * k) k := Int.le_of_mul_le_mul_right h1 (by omega)
    have b : ceilQ (m * k) k - 1 < m := Int.lt_of_mul_lt_mul_right h2 (by omega)
    omega
  · rw [h2]
    rcases Int.mul_eq_zero.1 h1 with h | h <;> omega
/-- of a policy without slack: what is wished is what is asked for, as near as may be -/
theorem stepI_straight (p : Pol) (hp : p.right) (hs : p.slack = 0) (load now : Int) (l0 : 0 ≤ load) (l1 : load ≤ 65535) (n0 : 0 ≤ now) (n1 : now ≤ 1000) :
    stepI p load now = within (asked p load).1 (now - p.down) (now + p.up) := by
  have ht : topLoad load = load := by unfold topLoad within; rw [if_neg (by omega), if_neg (by omega)]
  unfold stepI
  rw [ht]
  congr 1
  unfold wantedI
  split
  · rename_i hcalm
    unfold calmB at hcalm
    rw [Bool.and_eq_true, decide_eq_true_eq, decide_eq_true_eq, hs] at hcalm
    obtain ⟨h0, hc⟩ := hcalm
    have hg := hp
    unfold Pol.right at hg
    have hmb : 0 ≤ now * p.goal := Int.mul_nonneg (by omega) (by omega)
    have hmc : now * p.goal ≤ 1000 * 1073741824 := Int.mul_le_mul (by omega) (by omega) (by omega) (by omega)
    have hm : satMul now p.goal = now * p.goal := by
      unfold satMul
      rw [clamp_id (n := now) (by omega) (by omega), clamp_id (n := p.goal) (by omega) (by omega), clamp_id (by omega) (by omega)]
    rw [hm] at hc
    have hz : satMul 0 (now * p.goal) = 0 := by
      unfold satMul
      rw [clamp_id (n := 0) (by omega) (by omega), Int.zero_mul, clamp_id (by omega) (by omega)]
    rw [hz] at hc
    have hob := offI_bd load (now * p.goal)
    have ho : offI load (now * p.goal) = 0 := by
      unfold satMul at hc
      rw [clamp_id (n := 100) (by omega) (by omega), clamp_id (n := offI load (now * p.goal)) (by omega) (by omega)] at hc
      unfold clamp within at hc
      split at hc
      · omega
      · split at hc <;> omega
    have hl : load = now * p.goal := by
      unfold offI satSub at ho
      rw [clamp_id (n := load) (by omega) (by omega), clamp_id (n := now * p.goal) (by omega) (by omega), clamp_id (by omega) (by omega)] at ho
      omega
    unfold asked
    rw [if_pos hp]
    simp only
    rw [show max load 0 = load by omega, clamp_id (n := load) (by omega) (by omega), clamp_id (n := p.goal) (by omega) (by omega), hl, ceilQ_mul now p.goal n0 (by omega)]
  · exact asked_in hp load
theorem asked_bd {p : Pol} (hp : p.right) (load : Int) : 0 ≤ (asked p load).1 ∧ (asked p load).1 ≤ 1000 := by
  have hg := hp
  unfold Pol.right at hg
  unfold asked
  rw [if_pos hp]
  have := within_bd (ceilQ (clamp (max load 0)) (clamp p.goal)) p.mn p.mx (by omega)
  simp only
  omega
theorem own_one (x work salt : Int) (h0 : 0 ≤ x) (h1 : x ≤ 7) : own (rk [x] work salt) = (x, 0) := by
  have hb : x = 0 ∨ x = 1 ∨ x = 2 ∨ x = 3 ∨ x = 4 ∨ x = 5 ∨ x = 6 ∨ x = 7 := by omega
  have ht : there [x] = [x] := by rcases hb with rfl | rfl | rfl | rfl | rfl | rfl | rfl | rfl <;> decide
  rw [ranks_one (rk_ranks [x] work salt) ht]
  rfl
end Go.Proofs.YtjgbflclhkeibaaGreat
namespace Go.Proofs.YtjgbflclhkeibaaGreat
open Go.Shelf Go.RowKit Go.Lib Go.Sort
set_option linter.unusedVariables false
def inW (work : Int) : Prop := 0 ≤ work ∧ work ≤ 7
instance (work : Int) : Decidable (inW work) := by unfold inW; infer_instance
def recentA (ts : Nat → Trk) (work : Int) : List Int := if inW work then (ts work.toNat).wished else []
def planA (c : ACfg) (ts : Nat → Trk) (evs : List Ev) (live : List Int) (work now tick : Int) : (Int × Int) × (Nat → Trk) :=
  if inW work then ((planI c (ts work.toNat) evs live work now tick).1, upd ts work.toNat (planI c (ts work.toNat) evs live work now tick).2) else ((0, 2), ts)
def doneA (ts : Nat → Trk) (work tick : Int) : Int × (Nat → Trk) :=
  if inW work then (0, upd ts work.toNat ⟨(ts work.toNat).wished, true, tick⟩) else (2, ts)
section
variable (ab : Nat) (c : ACfg) (vs : Nat → Value) (ts : Nat → Trk) (w : World)
theorem recent_all (work : Int) (h : AObj ab w c vs ts) :
    Calls Tryz.prog 13 #[.pointer (some ⟨ab, 0, none⟩), .int .i64 work] w fun e w' => ∃ v', e = .returned v' ∧ Owns icells 1 w.heap.size 3 w' v' (recentA ts work) ∧ Below w.heap.size w w' := by
  unfold recentA
  by_cases hw : inW work
  · rw [if_pos hw]
    obtain ⟨h0, h7⟩ := hw
    obtain ⟨n, rfl⟩ := Int.eq_ofNat_of_zero_le h0
    exact recent_in ab c vs ts n (by omega) w h
  · rw [if_neg hw]
    exact (recent_out ab work hw w).mono fun e w' ⟨he, hww⟩ => ⟨_, he, Owns.nil _ _ _ _ _, by rw [← hww]; exact Below.refl _ _⟩
theorem done_all (work tick : Int) (h : AObj ab w c vs ts) :
    Calls Tryz.prog 8 #[.pointer (some ⟨ab, 0, none⟩), .int .i64 work, .int .i64 tick] w fun e w' => e = .returned (.int .i64 (doneA ts work tick).1) ∧ AObj ab w' c vs (doneA ts work tick).2 ∧ w.grownBy w' (some ab) := by
  unfold doneA
  by_cases hw : inW work
  · rw [if_pos hw]
    obtain ⟨h0, h7⟩ := hw
    obtain ⟨n, rfl⟩ := Int.eq_ofNat_of_zero_le h0
    exact done_in ab c vs ts n (by omega) tick w h
  · rw [if_neg hw]
    exact (done_out ab work tick hw w).mono fun e w' ⟨he, hww⟩ => ⟨he, by rw [← hww]; exact h, by rw [← hww]; exact World.grownBy.refl _ _⟩
theorem plan_all (oa : Option Addr) (cap : Nat) (ps : List PEv) (ol : Option Addr) (capl : Nat) (nodes : List Int) (work now tick : Int) (hc : c.right) (hsalt : 0 ≤ c.salt ∧ c.salt < 18446744073709551616) (ha : AObj ab w c vs ts) (hE : EvsAt w (.slice oa ps.length cap) ps) (hl : ps.length ≤ 1000000) (hr : ∀ p ∈ ps, p.2.rem.length ≤ 1000000) (hN : SlAt icells w (.slice ol nodes.length capl) nodes) (hnl : nodes.length ≤ 1000000) :
    Calls Tryz.prog 11 #[.pointer (some ⟨ab, 0, none⟩), .slice oa ps.length cap, .slice ol nodes.length capl, .int .i64 work, .int .i64 now, .int .i64 tick] w fun e w' =>
      e = .returned (.tuple #[.int .i64 (planA c ts (ps.map (·.2)) nodes work now tick).1.1, .int .i64 (planA c ts (ps.map (·.2)) nodes work now tick).1.2]) ∧
      (∃ vs', AObj ab w' c vs' (planA c ts (ps.map (·.2)) nodes work now tick).2 ∧ ∀ m, (vs' m = vs m ∧ (planA c ts (ps.map (·.2)) nodes work now tick).2 m = ts m) ∨ ∀ k, (vs' m).ownBlock = some k → w.heap.size ≤ k) ∧ w.grownBy w' (some ab) := by
  unfold planA
  by_cases hw : inW work
  · rw [if_pos hw]
    obtain ⟨h0, h7⟩ := hw
    obtain ⟨n, rfl⟩ := Int.eq_ofNat_of_zero_le h0
    exact (plan_in ab c vs ts oa cap ps ol capl nodes now tick w n (by omega) hc hsalt ha hE hl hr hN hnl).mono fun e w' ⟨he, ⟨v', ho, hf⟩, hg⟩ => ⟨he, ⟨_, ho, fun m => by
      by_cases hmn : m = n
      · subst hmn
        show (upd vs m v' m = vs m ∧ upd ts m _ m = ts m) ∨ _
        rw [upd_same, upd_same]
        exact hf
      · refine .inl ⟨upd_other _ _ hmn, upd_other _ _ hmn⟩⟩, hg⟩
  · rw [if_neg hw]
    exact (plan_out ab oa cap ps ol capl nodes now tick w work hw).mono fun e w' ⟨he, hb⟩ => ⟨he, ⟨vs, ha.below hb, fun m => .inl ⟨rfl, rfl⟩⟩, grown_of_below hb _⟩
end
/-- the events of known as they lie in memory, of the workloads a and b -/
def knownCells (p : Pol) (load a b : Int) : Array Value :=
  #[.int .i64 0, .int .i64 1, .int .i64 1, .int .i64 2, .int .i64 a, .int .i64 0, .int .i64 p.mn, .int .i64 p.mx, .int .i64 p.goal, .int .i64 p.slack, .int .i64 p.up, .int .i64 p.down, .int .i64 p.cool, .slice none 0 0,
    .int .i64 0, .int .i64 2, .int .i64 2, .int .i64 1, .int .i64 b, .int .i64 load, .int .i64 0, .int .i64 0, .int .i64 0, .int .i64 0, .int .i64 0, .int .i64 0, .int .i64 0, .slice none 0 0]
def knownP (p : Pol) (load a : Int) : List PEv := [(⟨none, 0, 0⟩, ⟨⟨0, 1⟩, 1, 2, a, 0, p, []⟩), (⟨none, 0, 0⟩, ⟨⟨0, 2⟩, 2, 1, a, load, zeroPol, []⟩)]
theorem knownP_evs (p : Pol) (load a : Int) : (knownP p load a).map (·.2) = knownE p load a := rfl
theorem knownP_rem (p : Pol) (load a : Int) : ∀ x ∈ knownP p load a, x.2.rem.length ≤ 1000000 := by
  intro x hx
  simp only [knownP, List.mem_cons, List.not_mem_nil, or_false] at hx
  rcases hx with rfl | rfl <;> simp
theorem evs_known {eb : Nat} {W : World} {p : Pol} {load a : Int} {t : TypeId} (h : W.heap[eb]? = some (.cells (knownCells p load a a) t)) : EvsAt W (.slice (some ⟨eb, 0, none⟩) 2 2) (knownP p load a) := by
  refine ⟨SlAt.lay (l := knownP p load a) (by simp [knownP]) fun j u hj => ?_, fun x hx => ?_⟩
  · rw [Nat.zero_add, cell_of_row _ eb j _ _ _ h, ← Array.getElem?_toList]
    exact hj
  · simp only [knownP, List.mem_cons, List.not_mem_nil, or_false] at hx
    rcases hx with rfl | rfl <;> exact SlAt.nil _ _
theorem known_any (p : Pol) (load : Int) (w : World) :
    Calls Tryz.prog 17 #[.agg #[.int .i64 p.mn, .int .i64 p.mx, .int .i64 p.goal, .int .i64 p.slack, .int .i64 p.up, .int .i64 p.down, .int .i64 p.cool], .int .i64 load] w fun e w' =>
      ∃ eb, e = .returned (.slice (some ⟨eb, 0, none⟩) 2 2) ∧ w.heap.size ≤ eb ∧ w'.heap[eb]? = some (.cells (knownCells p load 0 0) 74) ∧ Below w.heap.size w w' := by
  go_enter Tryz.func17, Tryz.ntmps17
  go_wp2_with fail
  go_ret
  refine ⟨w.heap.size + 1, rfl, by omega, ?_, ?_⟩
  · have := heap_alloc_new (w.alloc (.cells #[.int .i64 p.mn, .int .i64 p.mx, .int .i64 p.goal, .int .i64 p.slack, .int .i64 p.up, .int .i64 p.down, .int .i64 p.cool] 53)) (.cells (knownCells p load 0 0) 74)
    simp only [World.alloc, Array.size_push] at this ⊢
    exact this
  · exact ((Below.refl _ _).alloc (Nat.le_refl _) _).alloc (by simp) _
/-- an actuator at block ab, what is known at block eb, and what was done with a workload, behind whatever was made -/
structure ActSt (ab eb : Nat) (c : ACfg) (p : Pol) (load : Int) (n : Nat) (w W : World) (t : Trk) : Prop where
  below : Below w.heap.size w W
  hab : w.heap.size ≤ ab
  heb : eb ≠ ab
  evs : W.heap[eb]? = some (.cells (knownCells p load n n) 74)
  obj : ∃ vs ts, AObj ab W c vs ts ∧ ts n = t
section
variable {ab eb : Nat} {c : ACfg} {p : Pol} {load : Int} {n : Nat} {w W : World} {t : Trk}
theorem ActSt.ablt (h : ActSt ab eb c p load n w W t) : ab < W.heap.size := by obtain ⟨vs, ts, ho, _⟩ := h.obj; exact ho.lt
theorem ActSt.eblt (h : ActSt ab eb c p load n w W t) : eb < W.heap.size := (Array.getElem?_eq_some_iff.1 h.evs).1
theorem ActSt.on (h : ActSt ab eb c p load n w W t) {W' : World} (hb : Below W.heap.size W W') : ActSt ab eb c p load n w W' t := by
  obtain ⟨vs, ts, ho, ht⟩ := h.obj
  exact ⟨h.below.trans (hb.mono h.below.size), h.hab, h.heb, (hb.block eb h.eblt).trans h.evs, vs, ts, ho.below hb, ht⟩
theorem ActSt.turn (h : ActSt ab eb c p load n w W t) {W' : World} {t' : Trk} (hg : W.grownBy W' (some ab)) (ho : ∃ vs ts, AObj ab W' c vs ts ∧ ts n = t') : ActSt ab eb c p load n w W' t' :=
  ⟨below_grown h.below hg h.hab h.below.size, h.hab, h.heb, (hg.block eb h.eblt (fun e => h.heb (Option.some.inj e))).trans h.evs, ho⟩
theorem ActSt.plan (h : ActSt ab eb c p load n w W t) (hn : n < 8) (hc : c.right) (hs : 0 ≤ c.salt ∧ c.salt < 18446744073709551616) (x now tick : Int) :
    Calls Tryz.prog 11 #[.pointer (some ⟨ab, 0, none⟩), .slice (some ⟨eb, 0, none⟩) 2 2, .slice (some ⟨W.heap.size, 0, none⟩) 1 1, .int .i64 (n : Int), .int .i64 now, .int .i64 tick] (W.alloc (.cells #[.int .i64 x] 3)) fun e w' =>
      e = .returned (.tuple #[.int .i64 (planI c t (knownE p load n) [x] n now tick).1.1, .int .i64 (planI c t (knownE p load n) [x] n now tick).1.2]) ∧ ActSt ab eb c p load n w w' (planI c t (knownE p load n) [x] n now tick).2 ∧ W.grownBy w' (some ab) := by
  have hb1 : Below W.heap.size W (W.alloc (.cells #[.int .i64 x] 3)) := (Below.refl _ _).alloc (Nat.le_refl _) _
  have h1 := h.on hb1
  obtain ⟨vs, ts, ho, ht⟩ := h1.obj
  have hp := plan_in ab c vs ts (some ⟨eb, 0, none⟩) 2 (knownP p load n) (some ⟨W.heap.size, 0, none⟩) 1 [x] now tick (W.alloc (.cells #[.int .i64 x] 3)) n hn hc hs ho (evs_known h1.evs) (by simp [knownP]) (knownP_rem _ _ _) (slAt_new _ _ _ _ _ _ _ rfl rfl (by simp)) (by simp)
  rw [ht, knownP_evs] at hp
  exact hp.mono fun e w' ⟨he, ⟨v', ho', _⟩, hg⟩ => ⟨he, h1.turn hg ⟨_, _, ho', upd_same _ _ _⟩, (grown_of_below hb1 _).trans hg⟩
theorem ActSt.done (h : ActSt ab eb c p load n w W t) (hn : n < 8) (tick : Int) :
    Calls Tryz.prog 8 #[.pointer (some ⟨ab, 0, none⟩), .int .i64 (n : Int), .int .i64 tick] W fun e w' => e = .returned (.int .i64 0) ∧ ActSt ab eb c p load n w w' ⟨t.wished, true, tick⟩ ∧ W.grownBy w' (some ab) := by
  obtain ⟨vs, ts, ho, ht⟩ := h.obj
  exact (done_in ab c vs ts n hn tick W ho).mono fun e w' ⟨he, ho', hg⟩ => ⟨he, h.turn hg ⟨_, _, ho', by rw [upd_same, ht]⟩, hg⟩
theorem ActSt.recent (h : ActSt ab eb c p load n w W t) (hn : n < 8) :
    Calls Tryz.prog 13 #[.pointer (some ⟨ab, 0, none⟩), .int .i64 (n : Int)] W fun e w' => ∃ v', e = .returned v' ∧ Owns icells 1 W.heap.size 3 w' v' t.wished ∧ ActSt ab eb c p load n w w' t ∧ W.grownBy w' (some ab) := by
  obtain ⟨vs, ts, ho, ht⟩ := h.obj
  exact (recent_in ab c vs ts n hn W ho).mono fun e w' ⟨v', he, hi, hb⟩ => ⟨v', he, by rw [← ht]; exact hi, h.on hb, grown_of_below hb _⟩
end
end Go.Proofs.YtjgbflclhkeibaaGreat
namespace Go.Proofs.YtjgbflclhkeibaaGreat
open Go.Shelf Go.RowKit Go.Lib Go.Sort
set_option linter.unusedVariables false
def seenA (c : ACfg) (hs : Nat → Trk) : Nat → Trk := fun m => seenT c (hs m)
theorem seenA_upd (c : ACfg) (hs : Nat → Trk) (n : Nat) (x : Trk) : seenA c (upd hs n x) = upd (seenA c hs) n (seenT c x) := by
  funext m
  unfold seenA upd
  split <;> rfl
section
variable {b B : Nat} {c : ACfg} {rvs : Nat → Value} {hs : Nat → Trk} {w : World}
theorem refRecent_all (work : Int) (hc : c.right) (hl : ∀ m, (hs m).wished.length ≤ 1000) (h : RObj b B w c rvs hs) :
    Calls Tryz.prog 15 #[.pointer (some ⟨b, 0, none⟩), .int .i64 work] w fun e w' => ∃ v', e = .returned v' ∧ Owns icells 1 w.heap.size 3 w' v' (recentA (seenA c hs) work) ∧ Below w.heap.size w w' := by
  have hcc := hc
  unfold ACfg.right at hcc
  unfold recentA
  by_cases hw : inW work
  · rw [if_pos hw]
    obtain ⟨h0, h7⟩ := hw
    obtain ⟨n, rfl⟩ := Int.eq_ofNat_of_zero_le h0
    exact refRecent_in n (by omega) (by omega) (by omega) (hl n) h
  · rw [if_neg hw]
    exact (refRecent_out b work hw w).mono fun e w' ⟨he, hww⟩ => ⟨_, he, Owns.nil _ _ _ _ _, by rw [← hww]; exact Below.refl _ _⟩
theorem refDone_all (work tick : Int) (h : RObj b B w c rvs hs) :
    Calls Tryz.prog 9 #[.pointer (some ⟨b, 0, none⟩), .int .i64 work, .int .i64 tick] w fun e w' => e = .returned (.int .i64 (doneA (seenA c hs) work tick).1) ∧ ∃ hs', RObj b B w' c rvs hs' ∧ seenA c hs' = (doneA (seenA c hs) work tick).2 ∧ (∀ m, (hs' m).wished = (hs m).wished) ∧ w.grownBy w' (some b) := by
  unfold doneA
  by_cases hw : inW work
  · rw [if_pos hw]
    obtain ⟨h0, h7⟩ := hw
    obtain ⟨n, rfl⟩ := Int.eq_ofNat_of_zero_le h0
    exact (refDone_in n (by omega) tick h).mono fun e w' ⟨he, ho, hg⟩ => ⟨he, _, ho, seenA_upd c hs n _, fun m => by
      unfold upd
      split
      · subst_vars; rfl
      · rfl, hg⟩
  · rw [if_neg hw]
    exact (refDone_out b work tick hw w).mono fun e w' ⟨he, hww⟩ => ⟨he, hs, by rw [← hww]; exact h, rfl, fun _ => rfl, by rw [← hww]; exact World.grownBy.refl _ _⟩
/-- how the reference stands behind a plan -/
structure RPostA (b B : Nat) (c : ACfg) (rvs : Nat → Value) (hs : Nat → Trk) (w w' : World) (ts : Nat → Trk) : Prop where
  ex : ∃ rvs' hs' q, RObj b B w' c rvs' hs' ∧ seenA c hs' = ts ∧ (∀ m, (hs' m).wished.length ≤ (hs m).wished.length + 1) ∧ (∀ m k, (rvs' m).ownBlock = some k → w.heap.size ≤ k ∨ (rvs m).ownBlock = some k) ∧ But2 b q w w' ∧ ∀ k, q = some k → ∃ m, m < 8 ∧ (rvs m).ownBlock = some k
theorem refPlan_all (oa : Option Addr) (cap : Nat) (ps : List PEv) (ol : Option Addr) (capl : Nat) (nodes : List Int) (work now tick : Int) (hc : c.right) (hsalt : 0 ≤ c.salt ∧ c.salt < 18446744073709551616) (hlen : ∀ m, (hs m).wished.length ≤ 1000) (h : RObj b B w c rvs hs) (hBw : B ≤ w.heap.size)
    (hE : EvsAt w (.slice oa ps.length cap) ps) (hl : ps.length ≤ 1000000) (hr : ∀ p ∈ ps, p.2.rem.length ≤ 1000000) (hN : SlAt icells w (.slice ol nodes.length capl) nodes) (hnl : nodes.length ≤ 1000000) :
    Calls Tryz.prog 12 #[.pointer (some ⟨b, 0, none⟩), .slice oa ps.length cap, .slice ol nodes.length capl, .int .i64 work, .int .i64 now, .int .i64 tick] w fun e w' =>
      e = .returned (.tuple #[.int .i64 (planA c (seenA c hs) (ps.map (·.2)) nodes work now tick).1.1, .int .i64 (planA c (seenA c hs) (ps.map (·.2)) nodes work now tick).1.2]) ∧ RPostA b B c rvs hs w w' (planA c (seenA c hs) (ps.map (·.2)) nodes work now tick).2 := by
  have hsame : ∀ w', w = w' → RPostA b B c rvs hs w w' (seenA c hs) := fun w' hw => ⟨⟨rvs, hs, none, by rw [← hw]; exact h, rfl, fun m => by omega, fun m k hk => .inr hk, by rw [← hw]; exact But2.of_below (Below.refl _ _), fun k hk => nomatch hk⟩⟩
  unfold planA
  by_cases hw : inW work
  · rw [if_pos hw]
    by_cases hn : 0 ≤ now ∧ now ≤ 1000
    · obtain ⟨h0, h7⟩ := hw
      obtain ⟨n, rfl⟩ := Int.eq_ofNat_of_zero_le h0
      have hn8 : n < 8 := by omega
      refine (refPlan_in oa cap ps ol capl nodes now tick n hn8 hc hsalt (hlen n) h hBw hE hl hr hN hnl hn.1 hn.2).mono fun e w' ⟨he, hp⟩ => ⟨he, ?_⟩
      obtain ⟨⟨vs', ts', ho, hse, hoth, hln, hfr⟩, hb2⟩ := hp
      refine ⟨⟨vs', ts', (rvs n).ownBlock, ho, ?_, fun m => ?_, hfr, hb2, fun k hk => ⟨n, hn8, hk⟩⟩⟩
      · funext m
        show seenT c (ts' m) = upd (seenA c hs) n (planI c (seenT c (hs n)) (ps.map (·.2)) nodes n now tick).2 m
        by_cases hmn : m = n
        · subst hmn
          rw [upd_same]
          exact hse
        · rw [upd_other _ _ hmn, hoth m hmn]
          rfl
      · by_cases hmn : m = n
        · subst hmn; exact hln
        · rw [hoth m hmn]; omega
    · have hpi : ∀ t, planI c t (ps.map (·.2)) nodes work now tick = ((0, 2), t) := fun t => by unfold planI; rw [if_neg hn]
      rw [hpi]
      refine (refPlan_out b _ _ work now tick (fun hx => hn hx.2) w).mono fun e w' ⟨he, hww⟩ => ⟨he, ?_⟩
      show RPostA b B c rvs hs w w' (upd (seenA c hs) work.toNat (seenA c hs work.toNat))
      rw [upd_id]
      exact hsame w' hww
  · rw [if_neg hw]
    exact (refPlan_out b _ _ work now tick (fun hx => hw hx.1) w).mono fun e w' ⟨he, hww⟩ => ⟨he, hsame w' hww⟩
end
/-- from a block on, all is as it was -/
structure Over (base : Nat) (W W' : World) : Prop where
  size : W.heap.size ≤ W'.heap.size
  block : ∀ k, base ≤ k → k < W.heap.size → W'.heap[k]? = W.heap[k]?
theorem Over.refl (base : Nat) (W : World) : Over base W W := ⟨Nat.le_refl _, fun _ _ _ => rfl⟩
theorem Over.trans {base : Nat} {a b c : World} (h : Over base a b) (k : Over base b c) : Over base a c := ⟨Nat.le_trans h.size k.size, fun i h1 h2 => (k.block i h1 (Nat.lt_of_lt_of_le h2 h.size)).trans (h.block i h1 h2)⟩
theorem Over.of_below {base : Nat} {W W' : World} (h : Below W.heap.size W W') : Over base W W' := ⟨h.size, fun k _ hk => h.block k hk⟩
theorem Over.of_grown {base q : Nat} {W W' : World} (h : W.grownBy W' (some q)) (hq : q < base) : Over base W W' := ⟨h.size, fun k h1 hk => h.block k hk (fun e => by have := Option.some.inj e; omega)⟩
theorem Over.of_but {base b : Nat} {q : Option Nat} {W W' : World} (h : But2 b q W W') (hb : b < base) (hq : ∀ k, q = some k → k < base) : Over base W W' :=
  ⟨h.size, fun k h1 hk => h.block k hk (by omega) (fun e => by have := hq k e.symm; omega)⟩
theorem Owns.over {α : Type} {enc : α → List Value} {k base e : Nat} {W W' : World} {v : Value} {l : List α} (h : Owns enc k base e W v l) (ho : Over base W W') : Owns enc k base e W' v l :=
  h.keep fun g hg => ho.block g (h.lt g hg).1 (h.lt g hg).2
theorem Acc.over {base e ed : Nat} {W W' : World} {v : Value} {qs : List PEv} (h : Acc base e ed W v qs) (ho : Over base W W') : Acc base e ed W' v qs :=
  ⟨h.row.over ho, fun q hq => ⟨(h.rem q hq).1.over ho, (h.rem q hq).2⟩⟩
/-- the two actuators side by side, behind so many plans -/
structure Pair (ab rb B : Nat) (c : ACfg) (i : Nat) (w W : World) (vs rvs : Nat → Value) (ts hs : Nat → Trk) : Prop where
  below : Below w.heap.size w W
  obj : AObj ab W c vs ts
  ref : RObj rb B W c rvs hs
  hab : w.heap.size ≤ ab
  abrb : ab < rb
  BW : B ≤ W.heap.size
  apart : ∀ m, m < 8 → (ts m).wished ≠ [] → ∀ k, (vs m).ownBlock = some k → k ≠ rb ∧ ∀ m', m' < 8 → (rvs m').ownBlock ≠ some k
  len : ∀ m, (hs m).wished.length ≤ i
section
variable {ab rb B : Nat} {c : ACfg} {i : Nat} {w W W' : World} {vs rvs : Nat → Value} {ts hs : Nat → Trk}
theorem Pair.on (h : Pair ab rb B c i w W vs rvs ts hs) (hb : Below W.heap.size W W') : Pair ab rb B c i w W' vs rvs ts hs :=
  ⟨h.below.trans (hb.mono h.below.size), h.obj.below hb, h.ref.below hb, h.hab, h.abrb, Nat.le_trans h.BW hb.size, h.apart, h.len⟩
theorem Pair.rlt (h : Pair ab rb B c i w W vs rvs ts hs) (m : Nat) (hm : m < 8) (k : Nat) (hk : (rvs m).ownBlock = some k) : rb < k ∧ k < W.heap.size := by
  have := (h.ref.row m hm).1.lt k hk
  have := h.ref.bB
  omega
theorem Pair.planned (h : Pair ab rb B c i w W vs rvs ts hs) {vs' : Nat → Value} {ts' : Nat → Trk} (ho : AObj ab W' c vs' ts') (hf : ∀ m, (vs' m = vs m ∧ ts' m = ts m) ∨ ∀ k, (vs' m).ownBlock = some k → W.heap.size ≤ k) (hg : W.grownBy W' (some ab)) : Pair ab rb B c i w W' vs' rvs ts' hs := by
  have habrb := h.abrb
  refine ⟨below_grown h.below hg h.hab h.below.size, ho, h.ref.kept hg (by omega) (fun n hn e => by have := h.rlt n hn ab e; omega), h.hab, h.abrb, Nat.le_trans h.BW hg.size, fun m hm hne k hk => ?_, h.len⟩
  rcases hf m with ⟨e1, e2⟩ | hfr
  · rw [e1] at hk
    rw [e2] at hne
    exact h.apart m hm hne k hk
  · have h1 := hfr k hk
    have h2 := h.ref.lt
    exact ⟨by omega, fun m' hm' e => by have := h.rlt m' hm' k e; omega⟩
theorem Pair.done (h : Pair ab rb B c i w W vs rvs ts hs) {ts' : Nat → Trk} (ho : AObj ab W' c vs ts') (hw : ∀ m, (ts' m).wished = (ts m).wished) (hg : W.grownBy W' (some ab)) : Pair ab rb B c i w W' vs rvs ts' hs := by
  have habrb := h.abrb
  exact ⟨below_grown h.below hg h.hab h.below.size, ho, h.ref.kept hg (by omega) (fun n hn e => by have := h.rlt n hn ab e; omega), h.hab, h.abrb, Nat.le_trans h.BW hg.size, fun m hm hne k hk => h.apart m hm (by rw [← hw m]; exact hne) k hk, h.len⟩
theorem Pair.refdone (h : Pair ab rb B c i w W vs rvs ts hs) {hs' : Nat → Trk} (ho : RObj rb B W' c rvs hs') (hw : ∀ m, (hs' m).wished = (hs m).wished) (hg : W.grownBy W' (some rb)) : Pair ab rb B c i w W' vs rvs ts hs' := by
  have habrb := h.abrb
  have hhab := h.hab
  refine ⟨below_grown h.below hg (by omega) h.below.size, h.obj.kept hg (by omega) fun m hm => ?_, ho, h.hab, h.abrb, Nat.le_trans h.BW hg.size, h.apart, fun m => by rw [hw m]; exact h.len m⟩
  by_cases hne : (ts m).wished = []
  · exact .inl hne
  · exact .inr fun e => (h.apart m hm hne rb e).1 rfl
theorem Pair.refplanned (h : Pair ab rb B c i w W vs rvs ts hs) {rvs' : Nat → Value} {hs' : Nat → Trk} {q : Option Nat} (ho : RObj rb B W' c rvs' hs') (hln : ∀ m, (hs' m).wished.length ≤ (hs m).wished.length + 1) (hfr : ∀ m k, (rvs' m).ownBlock = some k → W.heap.size ≤ k ∨ (rvs m).ownBlock = some k) (hb : But2 rb q W W') (hq : ∀ k, q = some k → ∃ m, m < 8 ∧ (rvs m).ownBlock = some k) : Pair ab rb B c (i + 1) w W' vs rvs' ts hs' := by
  have habrb := h.abrb
  have hhab := h.hab
  have hqk : ∀ k, q = some k → rb < k ∧ k < W.heap.size := fun k hk => by obtain ⟨m, hm, e⟩ := hq k hk; exact h.rlt m hm k e
  have hbb : Below w.heap.size w W' := h.below.trans ⟨hb.os, hb.tape, hb.output, hb.size, fun k hk => hb.block k (by have := h.below.size; omega) (by omega) (fun e => by have := hqk k e.symm; omega)⟩
  refine ⟨hbb, ⟨(hb.block ab h.obj.lt (by omega) (fun e => by have := hqk ab e.symm; omega)).trans h.obj.heap, fun m hm => ?_⟩, ho, h.hab, h.abrb, Nat.le_trans h.BW hb.size, fun m hm hne k hk => ?_, fun m => by have := hln m; have := h.len m; omega⟩
  · have hr := h.obj.row m hm
    refine ⟨?_, hr.2⟩
    by_cases hne : (ts m).wished = []
    · exact hr.1.keep (.inl hne)
    · refine hr.1.keep (.inr fun k hk => hb.block k (hr.1.lt icells_len (by decide) hne k hk) (h.apart m hm hne k hk).1 (fun e => ?_))
      obtain ⟨m', hm', e2⟩ := hq k e.symm
      exact (h.apart m hm hne k hk).2 m' hm' e2
  · have hlt := (h.obj.row m hm).1.lt icells_len (by decide) hne k hk
    refine ⟨(h.apart m hm hne k hk).1, fun m' hm' e => ?_⟩
    rcases hfr m' k e with h1 | h1
    · omega
    · exact (h.apart m hm hne k hk).2 m' hm' h1
end
end Go.Proofs.YtjgbflclhkeibaaGreat
