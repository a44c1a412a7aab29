/-
  Stable sorting in plain Lean: rotations of a part of an array, what keeps the order of equals, and that two sorted lists with the same classes of equals are one. No program in sight.
  Plain facts: numbers that rise strictly are told by their members; what Compact leaves of sorted numbers rises strictly; one number laid in among such.
  Plain facts on nodes by their weights: an order is told by who is there; who goes leaves the others as they were. No function of the program is entered.
-/
import Derived.Sort.Statements
import Derived.Sort.WalkA
import Derived.Sort.LotA
import Derived.Shelf.GgSortFunc.RowK
import Derived.Lib.SlicesCompact
namespace Go.Proofs.YtejihgfigclppaaGreat
open Go.Sort
set_option linter.unusedVariables false
variable {α : Type} [Inhabited α]
end Go.Proofs.YtejihgfigclppaaGreat
namespace Go.Proofs.YtejihgfigclppaaGreat
open Go.Lib Go.Sort
set_option linter.unusedVariables false
def Rises (l : List Int) : Prop := l.Pairwise (· < ·)
theorem rises_eq : ∀ {l l' : List Int}, Rises l → Rises l' → (∀ x, x ∈ l ↔ x ∈ l') → l = l'
 | [], [], _, _, _ => rfl
 | [], b :: l', _, _, h => absurd ((h b).2 (by simp)) (by simp)
 | a :: l, [], _, _, h => absurd ((h a).1 (by simp)) (by simp)
 | a :: l, b :: l', h1, h2, h => by
  have p1 := List.pairwise_cons.1 h1
  have p2 := List.pairwise_cons.1 h2
  have hab : a = b := by
   have ha := (h a).1 (by simp)
   have hb := (h b).2 (by simp)
   rcases List.mem_cons.1 ha with e | e
   ·exact e
   ·rcases List.mem_cons.1 hb with e' | e'
    ·exact e'.symm
    ·have k1 := p1.1 b e'
     have k2 := p2.1 a e
     omega
  subst hab
  rw [rises_eq p1.2 p2.2 fun x => ?_]
  constructor
  ·intro hx
   rcases List.mem_cons.1 ((h x).1 (List.mem_cons_of_mem _ hx)) with e | e
   ·have := p1.1 x hx; omega
   ·exact e
  ·intro hx
   rcases List.mem_cons.1 ((h x).2 (List.mem_cons_of_mem _ hx)) with e | e
   ·have := p2.1 x hx; omega
   ·exact e
theorem rises_insert {l : List Int} {x : Int} {n : Nat} (h : Rises l) (h1 : ∀ y ∈ l.take n, y < x) (h2 : ∀ y ∈ l.drop n, x < y) : Rises (l.take n ++ [x] ++ l.drop n) := by
 have hs : l.take n ++ l.drop n = l := List.take_append_drop _ _
 unfold Rises at h
 rw [← hs, List.pairwise_append] at h
 refine List.pairwise_append.2 ⟨List.pairwise_append.2 ⟨h.1, List.pairwise_singleton _ _, fun a ha b hb => ?_⟩, h.2.1, fun a ha b hb => ?_⟩
 ·obtain rfl : b = x := by simpa using hb
  exact h1 a ha
 ·rcases List.mem_append.1 ha with ha | ha
  ·exact h.2.2 a ha b hb
  ·obtain rfl : a = x := by simpa using ha
   exact h2 b hb
theorem mem_insert {l : List Int} {x : Int} {n : Nat} (y : Int) : y ∈ l.take n ++ [x] ++ l.drop n ↔ y = x ∨ y ∈ l := by
 have hs : l.take n ++ l.drop n = l := List.take_append_drop _ _
 constructor
 ·intro h
  rcases List.mem_append.1 h with h | h
  ·rcases List.mem_append.1 h with h | h
   ·exact .inr (List.mem_of_mem_take h)
   ·exact .inl (by simpa using h)
  ·exact .inr (List.mem_of_mem_drop h)
 ·rintro (rfl | h)
  ·simp
  ·rw [← hs] at h
   rcases List.mem_append.1 h with h | h
   ·exact List.mem_append_left _ (List.mem_append_left _ h)
   ·exact List.mem_append_right _ h
theorem compact_rises (d : Array Int) (hs : ∀ i j, i ≤ j → j < d.size → d[i]! ≤ d[j]!) : ∀ m, m ≤ d.size → Rises (compactUpTo d m) ∧ ∀ x, x ∈ compactUpTo d m ↔ ∃ j, j < m ∧ d[j]! = x
 | 0, _ => ⟨List.Pairwise.nil, fun x => by simp [compactUpTo]⟩
 | m + 1, hm => by
  obtain ⟨h1, h2⟩ := compact_rises d hs m (by omega)
  rw [compactUpTo_succ]
  by_cases hk : keeps d m = true
  ·rw [if_pos hk]
   refine ⟨List.pairwise_append.2 ⟨h1, List.pairwise_singleton _ _, fun a ha b hb => ?_⟩, fun x => ?_⟩
   ·obtain rfl : b = d[m]! := by simpa using hb
    obtain ⟨j, hj, rfl⟩ := (h2 a).1 ha
    have k1 := hs j (m - 1) (by omega) (by omega)
    have k2 := hs (m - 1) m (by omega) (by omega)
    have k3 : d[m]! ≠ d[m - 1]! := by
     simp only [keeps, decide_eq_true_eq] at hk
     rcases hk with hk | hk
     ·omega
     ·exact hk
    omega
   ·rw [List.mem_append]
    constructor
    ·rintro (h | h)
     ·obtain ⟨j, hj, e⟩ := (h2 x).1 h
      exact ⟨j, by omega, e⟩
     ·exact ⟨m, by omega, by simpa using (List.mem_singleton.1 h).symm⟩
    ·rintro ⟨j, hj, e⟩
     by_cases hjm : j = m
     ·subst hjm; right; simp [e]
     ·left; exact (h2 x).2 ⟨j, by omega, e⟩
  ·rw [if_neg hk, List.append_nil]
   refine ⟨h1, fun x => ?_⟩
   rw [h2 x]
   have hm0 : m ≠ 0 ∧ d[m]! = d[m - 1]! := by
    simp only [keeps, decide_eq_true_eq, not_or, Decidable.not_not] at hk
    exact hk
   constructor
   ·rintro ⟨j, hj, e⟩
    exact ⟨j, by omega, e⟩
   ·rintro ⟨j, hj, e⟩
    by_cases hjm : j = m
    ·subst hjm; exact ⟨j - 1, by omega, by rw [← hm0.2]; exact e⟩
    ·exact ⟨j, by omega, e⟩
end Go.Proofs.YtejihgfigclppaaGreat
namespace Go.Proofs.YtejihgfigclppaaGreat
open Go.Sort
set_option linter.unusedVariables false
section
variable {α : Type}
end
def there (l : List Int) : List Int := ([0, 1, 2, 3, 4, 5, 6, 7] : List Int).filter fun n => decide (n ∈ l)
end Go.Proofs.YtejihgfigclppaaGreat
