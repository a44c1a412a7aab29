/-
  A struct of two wide parts, built and stored: what the cells are.
-/
import Derived.Test.YtkdjfoehpioghaaOver
import Derived.Laws.IdiomCopy
namespace Go.Proofs.Ytkdjfoehpioghaa
open Go.Shelf Go.RowKit Go.Lib Go.Sort
set_option linter.unusedVariables false
def setAll (cur : Array Value) (o : Nat) : List Value → Array Value
  | [] => cur
  | v :: vs => setAll (cur.setIfInBounds o v) (o + 1) vs
theorem setAll_size : ∀ (vs : List Value) (cur : Array Value) (o : Nat), (setAll cur o vs).size = cur.size
  | [], _, _ => rfl
  | v :: vs, cur, o => by unfold setAll; rw [setAll_size vs]; simp
theorem setAll_get : ∀ (vs : List Value) (cur : Array Value) (o j : Nat), (setAll cur o vs)[j]? = if o ≤ j ∧ j < o + vs.length ∧ j < cur.size then vs[j - o]? else cur[j]?
  | [], cur, o, j => by
    unfold setAll
    rw [if_neg (by simp only [List.length_nil]; omega)]
  | v :: vs, cur, o, j => by
    unfold setAll
    rw [setAll_get vs (cur.setIfInBounds o v) (o + 1) j, Array.size_setIfInBounds]
    by_cases h1 : o + 1 ≤ j ∧ j < o + 1 + vs.length ∧ j < cur.size
    · rw [if_pos h1, if_pos (by simp only [List.length_cons]; omega), show j - o = j - (o + 1) + 1 by omega, List.getElem?_cons_succ]
    · rw [if_neg h1]
      by_cases h2 : o = j
      · subst h2
        by_cases h3 : o < cur.size
        · rw [if_pos (by simp only [List.length_cons]; omega), Nat.sub_self, List.getElem?_cons_zero, Array.getElem?_setIfInBounds_self_of_lt h3]
        · rw [if_neg (by omega), Array.getElem?_eq_none (by simp; omega), Array.getElem?_eq_none (by omega)]
      · rw [Array.getElem?_setIfInBounds_ne h2]
        rw [if_neg (by simp only [List.length_cons]; omega)]
theorem setAll_two {Z : Array Value} {l m : List Value} (h : Z.size = l.length + m.length) : setAll (setAll Z 0 l) l.length m = (l ++ m).toArray := by
  apply Array.ext_getElem?
  intro j
  have e : (l ++ m).toArray[j]? = (l ++ m)[j]? := by simp
  rw [setAll_get, setAll_get, setAll_size, e]
  by_cases h1 : j < l.length
  · rw [if_neg (by omega), if_pos (by omega), Nat.sub_zero, List.getElem?_append_left h1]
  · by_cases h2 : j < l.length + m.length
    · rw [if_pos (by omega), List.getElem?_append_right (by omega)]
    · rw [if_neg (by omega), if_neg (by omega), Array.getElem?_eq_none (by omega), List.getElem?_eq_none (by rw [List.length_append]; omega)]
theorem setAll_one {Z : Array Value} {l : List Value} (h : Z.size = l.length) : setAll Z 0 l = l.toArray := by
  apply Array.ext_getElem?
  intro j
  have e : l.toArray[j]? = l[j]? := by simp
  rw [setAll_get, e, Nat.sub_zero]
  by_cases h1 : j < l.length
  · rw [if_pos (by omega)]
  · rw [if_neg (by omega), Array.getElem?_eq_none (by omega), List.getElem?_eq_none (by omega)]
theorem fold_list (b : Nat) : ∀ (l : List Value) (Z : Array Value) (k : Nat), (l.zipIdx k).foldl (fun cs x => cs.setIfInBounds (b + x.2) x.1) Z = setAll Z (b + k) l
  | [], _, _ => rfl
  | v :: l, Z, k => by
    rw [List.zipIdx_cons, List.foldl_cons, fold_list b l, setAll]
    rfl
theorem fold_at (b : Nat) (l : List Value) (Z : Array Value) (n : Nat) (hn : n = l.length) : Array.foldl (fun cs x => cs.setIfInBounds (b + x.2) x.1) Z l.toArray.zipIdx 0 n = setAll Z b l := by
  have h1 := fold_list b l Z 0
  rw [Nat.add_zero] at h1
  rw [← h1, hn]
  have h2 : l.length = l.toArray.zipIdx.size := by simp
  rw [h2, ← Array.foldl_toList, Array.toList_zipIdx]
theorem fold_zero (l : List Value) (Z : Array Value) (n : Nat) (hn : n = l.length) : Array.foldl (fun cs x => cs.setIfInBounds x.2 x.1) Z l.toArray.zipIdx 0 n = setAll Z 0 l := by
  have h := fold_at 0 l Z n hn
  simp only [Nat.zero_add] at h
  exact h
theorem heap_setAll (g : Nat) (t : TypeId) : ∀ (vs : List Value) (o : Nat) (w : World) (cur : Array Value), w.heap[g]? = some (.cells cur t) → (w.setCells g o vs).heap[g]? = some (.cells (setAll cur o vs) t)
  | [], _, _, _, h => h
  | v :: vs, o, w, cur, h => heap_setAll g t vs (o + 1) _ _ (heap_setCell_same w g o cur t v h)
theorem grown_setCells {a : World} {b : Nat} : ∀ (vs : List Value) (o : Nat) (x : World), a.grownBy x (some b) → a.grownBy (x.setCells b o vs) (some b)
  | [], _, _, h => h
  | v :: vs, o, x, h => grown_setCells vs (o + 1) _ (grown_set h v)
/-- a new block stored over whole -/
theorem store_whole {w : World} {g : Nat} {cur : Array Value} {t : TypeId} {vs : List Value} (h : w.heap[g]? = some (.cells cur t)) (hl : cur.size = vs.length) (h1 : ∀ v ∈ vs, v.oneCell' = true) :
    ∃ w', Sem.run Try.prog (storeCells ⟨g, 0, none⟩ vs) w = .ok () w' ∧ w'.heap[g]? = some (.cells vs.toArray t) ∧ w.grownBy w' (some g) := by
  have hst := run_storeCells_cells (P := Try.prog) g 0 vs 0 w (fun j hj => by
    simp only [Nat.zero_add]
    rw [cell_of_row w g j _ _ _ h, Array.getElem?_eq_getElem (by omega)]
    rfl) (fun j hj => by unfold World.frozen?; rw [h]; simp) h1
  refine ⟨_, hst, ?_, grown_setCells vs _ w (World.grownBy.refl _ _)⟩
  have h2 := heap_setAll g t vs 0 w cur h
  rw [setAll_one hl] at h2
  exact h2
theorem WV.one {v : WV} : ∀ x ∈ v.cells, x.oneCell' = true := by
  intro x hx
  unfold WV.cells at hx
  rcases List.mem_append.1 hx with h | h
  · obtain ⟨n, _, hn⟩ := List.mem_flatMap.1 h
    unfold WN.cells at hn
    simp only [List.mem_cons, List.not_mem_nil, or_false] at hn
    rcases hn with rfl | rfl | rfl | rfl | rfl | rfl | rfl | rfl | rfl | rfl | rfl <;> rfl
  · rcases List.mem_append.1 h with h | h
    · obtain ⟨z, _, rfl⟩ := List.mem_map.1 h; rfl
    · rcases List.mem_append.1 h with h | h
      · obtain ⟨z, _, rfl⟩ := List.mem_map.1 h; rfl
      · rw [List.mem_singleton] at h; rw [h]; rfl
end Go.Proofs.Ytkdjfoehpioghaa
