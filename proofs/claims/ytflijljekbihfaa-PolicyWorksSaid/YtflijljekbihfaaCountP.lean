/-
  Plain facts: of what sets a policy, so many for each workload as there are at all.
-/
import Derived.Test.YtflijljekbihfaaWorks
import Derived.Test.YtflijljekbihfaaSets
namespace Go.Proofs.Ytflijljekbihfaa
set_option linter.unusedVariables false

/-- how many there are of the workloads of a list -/
def setsOf (evs : List Ev) (l : List Int) : Nat := (l.map fun x => (evs.filter (isSet x)).length).sum
theorem setsOf_snoc (evs : List Ev) (l : List Int) (x : Int) : setsOf evs (l ++ [x]) = setsOf evs l + (evs.filter (isSet x)).length := by
  unfold setsOf
  rw [List.map_append, List.sum_append]
  simp
theorem setsOf_le (evs : List Ev) (l : List Int) : setsOf evs l ≤ l.length * evs.length := by
  unfold setsOf
  induction l with
  | nil => simp
  | cons a l ih =>
    have := List.length_filter_le (isSet a) evs
    simp only [List.map_cons, List.sum_cons, List.length_cons, Nat.add_mul, Nat.one_mul]
    omega
theorem setsOf_nil (l : List Int) : setsOf [] l = 0 := by
  unfold setsOf
  induction l with
  | nil => rfl
  | cons a l ih =>
    rw [List.map_cons, List.sum_cons, ih]
    rfl
theorem setsOf_cons (e : Ev) (evs : List Ev) : ∀ l : List Int, Rises l → setsOf (e :: evs) l = setsOf evs l + (if e.kind = 2 ∧ e.work ∈ l then 1 else 0)
  | [], _ => by simp [setsOf]
  | a :: l, h => by
    have h1 := List.pairwise_cons.1 h
    have ih := setsOf_cons e evs l h1.2
    have e1 : ∀ evs', setsOf evs' (a :: l) = (evs'.filter (isSet a)).length + setsOf evs' l := fun evs' => by simp [setsOf]
    rw [e1, e1, ih, List.filter_cons]
    by_cases hk : e.kind = 2
    · by_cases ha : e.work = a
      · have hs : isSet a e = true := by simp [isSet, hk, ha]
        have hn : ¬ (e.kind = 2 ∧ e.work ∈ l) := fun hx => by
          have := h1.1 _ hx.2
          omega
        rw [if_pos hs, if_neg hn, if_pos ⟨hk, by rw [ha]; exact List.mem_cons_self ..⟩, List.length_cons]
        omega
      · have hs : isSet a e = false := by simp [isSet, hk, ha]
        rw [hs]
        have hi : (e.kind = 2 ∧ e.work ∈ a :: l) ↔ (e.kind = 2 ∧ e.work ∈ l) := by
          simp only [List.mem_cons]
          constructor
          · rintro ⟨h1, h2 | h2⟩
            · exact absurd h2 ha
            · exact ⟨h1, h2⟩
          · rintro ⟨h1, h2⟩
            exact ⟨h1, .inr h2⟩
        simp only [hi]
        simp
        omega
    · have hs : isSet a e = false := by simp [isSet, hk]
      simp [hs, hk]
/-- all that set one are of one of the workloads -/
theorem setsOf_all {evs : List Ev} {l : List Int} (h : IsWorks evs l) : setsOf evs l = (evs.filter fun e => e.kind == 2).length := by
  have : ∀ evs' : List Ev, (∀ e ∈ evs', e.kind = 2 → e.work ∈ l) → setsOf evs' l = (evs'.filter fun e => e.kind == 2).length := by
    intro evs'
    induction evs' with
    | nil => intro _; exact setsOf_nil l
    | cons e evs' ih =>
      intro hm
      rw [setsOf_cons e evs' l h.rises, ih fun x hx => hm x (List.mem_cons_of_mem _ hx), List.filter_cons]
      by_cases hk : e.kind = 2
      · rw [if_pos ⟨hk, hm e (List.mem_cons_self ..) hk⟩, if_pos (by simp [hk])]; rfl
      · rw [if_neg fun hx => hk hx.1, if_neg (by simp [hk])]; rfl
  exact this evs fun e he hk => (h.mem _).2 ⟨e, he, hk, rfl⟩
theorem isWorks_iff {evs : List Ev} {l : List Int} (h : IsWorks evs l) (x : Int) : x ∈ l ↔ 0 < (evs.filter (isSet x)).length := by
  rw [h.mem, List.length_pos_iff_exists_mem]
  constructor
  · rintro ⟨e, he, hk, hw⟩
    exact ⟨e, List.mem_filter.2 ⟨he, by simp [isSet, hk, hw]⟩⟩
  · rintro ⟨e, he⟩
    obtain ⟨he, hs⟩ := List.mem_filter.1 he
    simp only [isSet, Bool.and_eq_true, beq_iff_eq] at hs
    exact ⟨e, he, hs.1, hs.2⟩
end Go.Proofs.Ytflijljekbihfaa
