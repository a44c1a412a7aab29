/-
  Plain facts of layer 19: numbers each once, the least first; a list shuffled by draws.
-/
import Derived.Test.YtjffaekajjokiaaDraw
import Derived.Test.YtjffaekajjokiaaWorksP
namespace Go.Proofs.Ytjffaekajjokiaa
open Go.Shelf Go.RowKit Go.Lib Go.Sort
set_option linter.unusedVariables false
def onceL (l : List Int) : List Int := Lib.compact (l.mergeSort fun x y => decide (x ≤ y))
theorem onceL_is (l : List Int) : Rises (onceL l) ∧ ∀ x, x ∈ onceL l ↔ x ∈ l := by
  have hs : (l.mergeSort fun x y => decide (x ≤ y)).Pairwise fun a b => decide (a ≤ b) = true := List.pairwise_mergeSort (fun a b c h1 h2 => by simp only [decide_eq_true_eq] at *; omega) (fun a b => by simp only [Bool.or_eq_true, decide_eq_true_eq]; omega) _
  have hm : ∀ x, x ∈ (l.mergeSort fun x y => decide (x ≤ y)) ↔ x ∈ l := fun x => List.mem_mergeSort
  unfold onceL
  generalize (l.mergeSort fun x y => decide (x ≤ y)) = zs at hs hm
  obtain ⟨h1, h2⟩ := compact_rises zs.toArray (fun i j hij hj => by
    have hj' : j < zs.length := by simpa using hj
    rcases Nat.lt_or_eq_of_le hij with h | rfl
    · have := List.pairwise_iff_getElem.1 hs i j (by omega) hj' h
      simpa [getElem!_pos, show i < zs.length by omega, hj'] using this
    · exact Int.le_refl _) zs.length (by simp)
  refine ⟨h1, fun x => ?_⟩
  refine (h2 x).trans ?_
  rw [← hm]
  constructor
  · rintro ⟨j, hj, rfl⟩
    simp only [hj, List.size_toArray, getElem!_pos, List.getElem_toArray]
    exact List.getElem_mem hj
  · intro hx
    obtain ⟨j, hj, hx⟩ := List.mem_iff_getElem.1 hx
    exact ⟨j, hj, by simpa [getElem!_pos, hj] using hx⟩
theorem onceL_len (l : List Int) : (onceL l).length ≤ l.length := by
  have := compact_len (l.mergeSort fun x y => decide (x ≤ y))
  rw [List.length_mergeSort] at this
  exact this
theorem onceL_eq {l r : List Int} (h1 : Rises r) (h2 : ∀ x, x ∈ r ↔ x ∈ l) : r = onceL l := rises_eq h1 (onceL_is l).1 fun x => (h2 x).trans ((onceL_is l).2 x).symm
theorem onceL_nil {l : List Int} (h : l ≠ []) : onceL l ≠ [] := by
  intro e
  cases l with
  | nil => exact h rfl
  | cons a l => have := ((onceL_is (a :: l)).2 a).2 (by simp); rw [e] at this; cases this
theorem onceL_nodup (l : List Int) : (onceL l).Nodup := (onceL_is l).1.imp fun h => by omega
def swapL (l : List Int) (i k : Nat) : List Int := (l.set i (l.getD k 0)).set k (l.getD i 0)
theorem swapL_len (l : List Int) (i k : Nat) : (swapL l i k).length = l.length := by unfold swapL; simp
def shufUp : Nat → Int → List Int → Int × List Int
  | 0, s, l => (s, l)
  | i + 1, s, l => shufUp i (nextS s) (swapL l (i + 1) (drawK s ((i : Int) + 1 + 1)).toNat)
def shufL (s : Int) (l : List Int) : Int × List Int := shufUp (l.length - 1) s l
theorem shufUp_len : ∀ (i : Nat) (s : Int) (l : List Int), (shufUp i s l).2.length = l.length
  | 0, _, _ => rfl
  | i + 1, s, l => by rw [shufUp, shufUp_len, swapL_len]
theorem shufL_len (s : Int) (l : List Int) : (shufL s l).2.length = l.length := shufUp_len _ _ _
theorem swapL_perm (l : List Int) (i k : Nat) (hi : i < l.length) (hk : k < l.length) : (swapL l i k).Perm l := by
  have e : swapL l i k = (l.toArray.swap i k (by simpa using hi) (by simpa using hk)).toList := by
    unfold swapL
    apply List.ext_getElem?
    intro j
    simp [Array.swap_def, List.getD, hi, hk]
  rw [e]
  have := (Array.swap_perm (xs := l.toArray) (i := i) (j := k) (by simpa using hi) (by simpa using hk)).toList
  simpa using this
theorem shufUp_perm : ∀ (i : Nat) (s : Int) (l : List Int), (i = 0 ∨ i < l.length) → l.length ≤ 1000000 → (shufUp i s l).2.Perm l
  | 0, _, l, _, _ => List.Perm.refl l
  | i + 1, s, l, h, hl => by
    have hi : i + 1 < l.length := by omega
    obtain ⟨k0, k1⟩ := drawK_bounds s ((i : Int) + 1 + 1) (by omega) (by omega)
    rw [shufUp]
    exact (shufUp_perm i _ _ (by rw [swapL_len]; omega) (by rw [swapL_len]; exact hl)).trans (swapL_perm l (i + 1) _ hi (by omega))
theorem shufL_perm (s : Int) (l : List Int) (hl : l.length ≤ 1000000) : (shufL s l).2.Perm l := shufUp_perm _ _ _ (by omega) hl
end Go.Proofs.Ytjffaekajjokiaa
