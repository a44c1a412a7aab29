/-
  Stable sorting in plain Lean: rotations of a part of an array, what keeps the order of equals, and that two sorted lists with the same classes of equals are one. No program in sight.
  Plain facts: numbers that rise strictly are told by their members; what Compact leaves of sorted numbers rises strictly; one number laid in among such.
  Plain facts on nodes by their weights: an order is told by who is there; who goes leaves the others as they were. No function of the program is entered.
-/
import Derived.Sort.Statements
import Derived.Sort.WalkA
import Derived.Sort.LotA
import Derived.Shelf.GgSortFunc.RowK
import Derived.Lib.SlicesCompact
namespace Go.Proofs.YtenkfnhcdfmkaaaGreat
open Go.Sort
set_option linter.unusedVariables false
variable {α : Type} [Inhabited α]
end Go.Proofs.YtenkfnhcdfmkaaaGreat
namespace Go.Proofs.YtenkfnhcdfmkaaaGreat
open Go.Lib Go.Sort
set_option linter.unusedVariables false
def Rises (l : List Int) : Prop := l.Pairwise (· < ·)
theorem compact_rises (d : Array Int) (hs : ∀ i j, i ≤ j → j < d.size → d[i]! ≤ d[j]!) : ∀ m, m ≤ d.size → Rises (compactUpTo d m) ∧ ∀ x, x ∈ compactUpTo d m ↔ ∃ j, j < m ∧ d[j]! = x
 | 0, _ => ⟨List.Pairwise.nil, fun x => by simp [compactUpTo]⟩
 | m + 1, hm => by
  obtain ⟨h1, h2⟩ := compact_rises d hs m (by omega)
  rw [compactUpTo_succ]
  by_cases hk : keeps d m = true
  ·rw [if_pos hk]
   refine ⟨List.pairwise_append.2 ⟨h1, List.pairwise_singleton _ _, fun a ha b hb => ?_⟩, fun x => ?_⟩
   ·obtain rfl : b = d[m]! := by simpa using hb
    obtain ⟨j, hj, rfl⟩ := (h2 a).1 ha
    have k1 := hs j (m - 1) (by omega) (by omega)
    have k2 := hs (m - 1) m (by omega) (by omega)
    have k3 : d[m]! ≠ d[m - 1]! := by
     simp only [keeps, decide_eq_true_eq] at hk
     rcases hk with hk | hk
     ·omega
     ·exact hk
    omega
   ·rw [List.mem_append]
    constructor
    ·rintro (h | h)
     ·obtain ⟨j, hj, e⟩ := (h2 x).1 h
      exact ⟨j, by omega, e⟩
     ·exact ⟨m, by omega, by simpa using (List.mem_singleton.1 h).symm⟩
    ·rintro ⟨j, hj, e⟩
     by_cases hjm : j = m
     ·subst hjm; right; simp [e]
     ·left; exact (h2 x).2 ⟨j, by omega, e⟩
  ·rw [if_neg hk, List.append_nil]
   refine ⟨h1, fun x => ?_⟩
   rw [h2 x]
   have hm0 : m ≠ 0 ∧ d[m]! = d[m - 1]! := by
    simp only [keeps, decide_eq_true_eq, not_or, Decidable.not_not] at hk
    exact hk
   constructor
   ·rintro ⟨j, hj, e⟩
    exact ⟨j, by omega, e⟩
   ·rintro ⟨j, hj, e⟩
    by_cases hjm : j = m
    ·subst hjm; exact ⟨j - 1, by omega, by rw [← hm0.2]; exact e⟩
    ·exact ⟨j, by omega, e⟩
end Go.Proofs.YtenkfnhcdfmkaaaGreat
namespace Go.Proofs.YtenkfnhcdfmkaaaGreat
open Go.Sort
set_option linter.unusedVariables false
section
variable {α : Type}
end
end Go.Proofs.YtenkfnhcdfmkaaaGreat
