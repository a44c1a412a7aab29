/-
  The plain law of WindowMeans: the newest of a node's samples in a row, their mean between the least and the greatest, and what a greater sample does. No function of the program is entered.
-/
import Derived.Test.YtfbbafmklahmmaaAlive10
import Derived.Test.YtfbbafmklahmmaaMore
namespace Go.Proofs.Ytfbbafmklahmmaa
open Go.Sort
set_option linter.unusedVariables false

def small (e : Ev) : Prop := 0 ≤ e.value ∧ e.value ≤ 131070
def vsum (l : List Ev) : Int := (l.map (·.value)).sum
theorem vsum_bd : ∀ (l : List Ev), (∀ e ∈ l, small e) → 0 ≤ vsum l ∧ vsum l ≤ 131070 * l.length
  | [], _ => by simp [vsum]
  | e :: l, h => by
    have h1 := h e (List.mem_cons_self ..)
    have h2 := vsum_bd l fun x hx => h x (List.mem_cons_of_mem _ hx)
    unfold small at h1
    unfold vsum at *
    simp only [List.map_cons, List.sum_cons, List.length_cons] at *
    omega
theorem satAdd_small {a b : Int} (h1 : 0 ≤ a) (h2 : 0 ≤ b) (h3 : a + b ≤ 1099511627776) : satAdd a b = a + b := by
  unfold satAdd
  rw [clamp_id (n := a) (by omega) (by omega), clamp_id (n := b) (by omega) (by omega), clamp_id (by omega) (by omega)]
theorem fold_sat : ∀ (l : List Ev) (t : Int), 0 ≤ t → (∀ e ∈ l, small e) → t + 131070 * l.length ≤ 1099511627776 → l.foldl (fun t e => satAdd t e.value) t = t + vsum l
  | [], t, _, _, _ => by simp [vsum]
  | e :: l, t, h0, h, hb => by
    have h1 := h e (List.mem_cons_self ..)
    unfold small at h1
    simp only [List.length_cons] at hb
    simp only [List.foldl_cons]
    rw [satAdd_small h0 h1.1 (by omega), fold_sat l _ (by omega) (fun x hx => h x (List.mem_cons_of_mem _ hx)) (by omega)]
    simp only [vsum, List.map_cons, List.sum_cons]
    omega
theorem sumOf_small {l : List Ev} (h : ∀ e ∈ l, small e) (hl : l.length ≤ 40) : sumOf l = vsum l := by
  unfold sumOf
  rw [fold_sat l 0 (Int.le_refl _) h (by omega)]; omega
theorem meanOf_small {l : List Ev} (h : ∀ e ∈ l, small e) (h1 : 1 ≤ l.length) (h2 : l.length ≤ 40) : meanOf l = (ceilQ (vsum l) l.length, 0) := by
  unfold meanOf ceilDiv
  have hb := vsum_bd l h
  rw [sumOf_small h h2, clamp_id (n := (l.length : Int)) (by omega) (by omega), clamp_id (n := vsum l) (by omega) (by omega), if_neg (by omega)]
theorem vsum_lo (m : Int) : ∀ (l : List Ev), (∀ e ∈ l, m ≤ e.value) → m * l.length ≤ vsum l
  | [], _ => by simp [vsum]
  | e :: l, h => by
    have h1 := h e (List.mem_cons_self ..)
    have h2 := vsum_lo m l fun x hx => h x (List.mem_cons_of_mem _ hx)
    simp only [vsum, List.map_cons, List.sum_cons, List.length_cons] at *
    have e2 : m * ((l.length + 1 : Nat) : Int) = m * l.length + m := by rw [Int.natCast_add, Int.mul_add]; omega
    omega
theorem vsum_hi (m : Int) : ∀ (l : List Ev), (∀ e ∈ l, e.value ≤ m) → vsum l ≤ m * l.length
  | [], _ => by simp [vsum]
  | e :: l, h => by
    have h1 := h e (List.mem_cons_self ..)
    have h2 := vsum_hi m l fun x hx => h x (List.mem_cons_of_mem _ hx)
    simp only [vsum, List.map_cons, List.sum_cons, List.length_cons] at *
    have e2 : m * ((l.length + 1 : Nat) : Int) = m * l.length + m := by rw [Int.natCast_add, Int.mul_add]; omega
    omega
theorem ceilQ_mul (m k : Int) (hm : 0 ≤ m) (hk : 1 ≤ k) : ceilQ (m * k) k = m := by
  have hx : 0 ≤ m * k := Int.mul_nonneg hm (by omega)
  rcases ceilQ_enough (m * k) k hx hk with ⟨h1, h2⟩ | ⟨h1, h2⟩
  · have a : m ≤ ceilQ (m * k) k := Int.le_of_mul_le_mul_right h1 (by omega)
    have b : ceilQ (m * k) k - 1 < m := Int.lt_of_mul_lt_mul_right h2 (by omega)
    omega
  · rw [h2]
    rcases Int.mul_eq_zero.1 h1 with h | h <;> omega
theorem mean_lo {l : List Ev} (h : ∀ e ∈ l, small e) (h1 : 1 ≤ l.length) (m : Int) (hm : 0 ≤ m) (hlo : ∀ e ∈ l, m ≤ e.value) : m ≤ ceilQ (vsum l) l.length := by
  have e := ceilQ_mul m l.length hm (by omega)
  rw [← e]
  exact ceilQ_mono _ _ _ (Int.mul_nonneg hm (by omega)) (vsum_lo m l hlo) (by omega)
theorem mean_hi {l : List Ev} (h : ∀ e ∈ l, small e) (h1 : 1 ≤ l.length) (m : Int) (hm : 0 ≤ m) (hhi : ∀ e ∈ l, e.value ≤ m) : ceilQ (vsum l) l.length ≤ m := by
  have e := ceilQ_mul m l.length hm (by omega)
  have hb := vsum_bd l h
  have h2 := ceilQ_mono _ _ l.length hb.1 (vsum_hi m l hhi) (by omega)
  rwa [e] at h2

/-- samples of node 3, numbered from 1 on -/
def rowOf (vs : List Int) : List Ev := vs.mapIdx fun i v => sampleEv 3 (i + 1) v
theorem rowOf_len (vs : List Int) : (rowOf vs).length = vs.length := by simp [rowOf]
theorem rowOf_get (vs : List Int) (i : Nat) (h : i < vs.length) : (rowOf vs)[i]'(by rw [rowOf_len]; exact h) = sampleEv 3 (i + 1) vs[i] := by simp [rowOf]
theorem rowOf_sorted (vs : List Int) : (rowOf vs).Pairwise fun a b => a.dot.seq < b.dot.seq := by
  rw [List.pairwise_iff_getElem]
  intro i j hi hj hij
  rw [rowOf_len] at hi hj
  rw [rowOf_get vs i hi, rowOf_get vs j hj]
  show (i : Int) + 1 < (j : Int) + 1
  omega
/-- a row in the order of its numbers, sorted the newest first: turned round -/
theorem sort_up {l : List Ev} (h : l.Pairwise fun a b => a.dot.seq < b.dot.seq) : stSort newer l = l.reverse := by
  refine (stSort_eq swo_newerE ⟨?_, fun x => ?_⟩).symm
  · unfold SortedL
    rw [List.pairwise_reverse]
    exact h.imp fun {a b} hab => by simp only [newer, decide_eq_false_iff_not]; omega
  · rw [List.filter_reverse]
    have h2 : (l.filter (eqv newer x)).length ≤ 1 := by
      have h3 := h.sublist (List.filter_sublist (p := eqv newer x))
      have h4 : ∀ y ∈ l.filter (eqv newer x), y.dot.seq = x.dot.seq := fun y hy => by
        have := (List.mem_filter.1 hy).2
        simp only [eqv, newer, Bool.and_eq_true, Bool.not_eq_true', decide_eq_false_iff_not] at this
        omega
      generalize l.filter (eqv newer x) = m at h3 h4
      match m, h3, h4 with
      | [], _, _ => simp
      | [a], _, _ => simp
      | a :: b :: r, h3, h4 =>
        have h5 := (List.pairwise_cons.1 h3).1 b (by simp)
        have h6 := h4 a (by simp)
        have h7 := h4 b (by simp)
        omega
    generalize l.filter (eqv newer x) = m at h2
    cases m with
    | nil => rfl
    | cons a r =>
      cases r with
      | nil => rfl
      | cons b r => simp at h2
theorem samples_row {l : List Ev} (h : l.Pairwise fun a b => a.dot.seq < b.dot.seq) (hs : ∀ e ∈ l, isSample 0 3 e = true) : samples l 0 3 = l.reverse := by
  unfold samples
  rw [List.filter_eq_self.2 hs, sort_up h]
theorem winOf_row {l : List Ev} (h : l.Pairwise fun a b => a.dot.seq < b.dot.seq) (hs : ∀ e ∈ l, isSample 0 3 e = true) (size : Int) (h1 : 1 ≤ size) : winOf l 0 3 size = l.reverse.take (min l.length size.toNat) := by
  unfold winOf
  rw [samples_row h hs, List.length_reverse]
  congr 1
  unfold cutN within
  split
  · omega
  · split <;> omega
end Go.Proofs.Ytfbbafmklahmmaa
