/-
  Stable sorting in plain Lean: rotations of a part of an array, what keeps the order of equals, and that two sorted lists with the same classes of equals are one. No program in sight.
-/
import Derived.Sort.Statements
import Derived.Sort.WalkA
import Derived.Sort.LotA
import Derived.Shelf.GgSortFunc.RowK
namespace Go.Proofs.YtejihgfigclppaaGreat
open Go.Sort
set_option linter.unusedVariables false
variable {α : Type} [Inhabited α]

/-- of one class -/
def eqv (lt : α → α → Bool) (x y : α) : Bool := !lt x y && !lt y x
def SortedL (lt : α → α → Bool) (l : List α) : Prop := l.Pairwise fun x y => lt y x = false
def StabL (lt : α → α → Bool) (l l' : List α) : Prop := ∀ x, l'.filter (eqv lt x) = l.filter (eqv lt x)

omit [Inhabited α] in
theorem StabL.refl (lt : α → α → Bool) (l : List α) : StabL lt l l := fun _ => rfl
omit [Inhabited α] in
theorem StabL.trans {lt : α → α → Bool} {a b c : List α} (h : StabL lt a b) (k : StabL lt b c) : StabL lt a c := fun x => (k x).trans (h x)

omit [Inhabited α] in
theorem eqv_refl {lt : α → α → Bool} (h : SWO lt) (x : α) : eqv lt x x = true := by simp [eqv, h.irrefl]
omit [Inhabited α] in
theorem eqv_trans {lt : α → α → Bool} (h : SWO lt) {x y z : α} (a : eqv lt x y = true) (b : eqv lt y z = true) : eqv lt x z = true := by
  simp [eqv] at *
  exact ⟨h.ntrans _ _ _ a.1 b.1, h.ntrans _ _ _ b.2 a.2⟩
omit [Inhabited α] in
theorem eqv_symm {lt : α → α → Bool} {x y : α} (a : eqv lt x y = true) : eqv lt y x = true := by simp [eqv] at *; exact ⟨a.2, a.1⟩

omit [Inhabited α] in
/-- what crosses is strictly less: no class is turned -/
theorem stabL_cross {lt : α → α → Bool} (h : SWO lt) (A X Y B : List α) (hxy : ∀ x ∈ X, ∀ y ∈ Y, lt y x = true) : StabL lt (A ++ X ++ Y ++ B) (A ++ Y ++ X ++ B) := by
  intro z
  simp only [List.filter_append]
  by_cases hX : X.filter (eqv lt z) = []
  · rw [hX]; simp
  · by_cases hY : Y.filter (eqv lt z) = []
    · rw [hY]; simp
    · exfalso
      obtain ⟨x, hx⟩ := List.exists_mem_of_ne_nil _ hX
      obtain ⟨y, hy⟩ := List.exists_mem_of_ne_nil _ hY
      rw [List.mem_filter] at hx hy
      have := hxy x hx.1 y hy.1
      have e := eqv_trans h (eqv_symm hy.2) hx.2
      simp [eqv, this] at e

omit [Inhabited α] in
theorem sorted_unique {lt : α → α → Bool} (h : SWO lt) : ∀ (l l' : List α), SortedL lt l → SortedL lt l' → StabL lt l l' → l' = l
  | [], [], _, _, _ => rfl
  | [], y :: l', _, _, k => by
    have := k y
    simp [eqv_refl h] at this
  | x :: l, [], _, _, k => by
    have := k x
    simp [eqv_refl h] at this
  | x :: l, y :: l', s, s', k => by
    have hx : x ∈ (y :: l').filter (eqv lt x) := by rw [k x]; simp [eqv_refl h]
    have hy : y ∈ (x :: l).filter (eqv lt y) := by rw [← k y]; simp [eqv_refl h]
    rw [List.mem_filter] at hx hy
    have hxy : lt x y = false := by
      rcases List.mem_cons.1 hx.1 with e | e
      · rw [e]; exact h.irrefl y
      · exact (List.pairwise_cons.1 s').1 x e
    have hyx : lt y x = false := by
      rcases List.mem_cons.1 hy.1 with e | e
      · rw [e]; exact h.irrefl x
      · exact (List.pairwise_cons.1 s).1 y e
    have e : eqv lt x y = true := by simp [eqv, hxy, hyx]
    have k0 := k x
    rw [List.filter_cons_of_pos (by exact e), List.filter_cons_of_pos (by exact eqv_refl h x)] at k0
    obtain ⟨rfl, k1⟩ := List.cons.inj k0
    have : StabL lt l l' := fun z => by
      have kz := k z
      simp only [List.filter_cons] at kz
      by_cases hz : eqv lt z y = true
      · simpa [hz] using kz
      · simpa [hz] using kz
    rw [sorted_unique h l l' (List.pairwise_cons.1 s).2 (List.pairwise_cons.1 s').2 this]

/-! ### rotations -/
/-- [s, m) and [m, e) change places -/
def rotA (d : Array α) (s m e : Nat) : Array α := (d.toList.take s ++ (d.toList.drop m).take (e - m) ++ (d.toList.drop s).take (m - s) ++ d.toList.drop e).toArray

omit [Inhabited α] in
theorem size_rotA (d : Array α) (s m e : Nat) (h1 : s ≤ m) (h2 : m ≤ e) (h3 : e ≤ d.size) : (rotA d s m e).size = d.size := by
  simp only [rotA, List.size_toArray, List.length_append, List.length_take, List.length_drop, Array.length_toList]; omega

theorem get_list (l : List α) (t : Nat) : l.toArray[t]! = l[t]?.getD default := by
  simp [Array.getElem!_eq_getD, Array.getD_eq_getD_getElem?]
theorem get_arr (d : Array α) (t : Nat) : d.toList[t]?.getD default = d[t]! := by
  simp [Array.getElem!_eq_getD, Array.getD_eq_getD_getElem?]

theorem rotA_get (d : Array α) (s m e : Nat) (h1 : s ≤ m) (h2 : m ≤ e) (h3 : e ≤ d.size) (t : Nat) :
    (rotA d s m e)[t]! = if t < s then d[t]! else if t < s + (e - m) then d[t - s + m]! else if t < e then d[t - (e - m)]! else d[t]! := by
  unfold rotA
  rw [get_list]
  by_cases a : t < s
  · rw [if_pos a, List.append_assoc, List.append_assoc, List.getElem?_append_left (by simp only [List.length_take, Array.length_toList]; omega), List.getElem?_take, if_pos a, get_arr]
  · rw [if_neg a]
    by_cases b : t < s + (e - m)
    · rw [if_pos b, List.append_assoc, List.append_assoc, List.getElem?_append_right (by simp only [List.length_take, Array.length_toList]; omega), List.getElem?_append_left (by simp only [List.length_take, List.length_drop, Array.length_toList]; omega), List.getElem?_take, if_pos (by simp only [List.length_take, Array.length_toList]; omega), List.getElem?_drop, get_arr]
      congr 1; simp only [List.length_take, Array.length_toList]; omega
    · rw [if_neg b]
      by_cases c : t < e
      · rw [if_pos c, List.append_assoc, List.getElem?_append_right (by simp only [List.length_append, List.length_take, List.length_drop, Array.length_toList]; omega), List.getElem?_append_left (by simp only [List.length_append, List.length_take, List.length_drop, Array.length_toList]; omega), List.getElem?_take, if_pos (by simp only [List.length_append, List.length_take, List.length_drop, Array.length_toList]; omega), List.getElem?_drop, get_arr]
        congr 1; simp only [List.length_append, List.length_take, List.length_drop, Array.length_toList]; omega
      · rw [if_neg c, List.getElem?_append_right (by simp only [List.length_append, List.length_take, List.length_drop, Array.length_toList]; omega), List.getElem?_drop, get_arr]
        congr 1; simp only [List.length_append, List.length_take, List.length_drop, Array.length_toList]; omega

/-- the classes, of arrays -/
def Stab (lt : α → α → Bool) (d d' : Array α) : Prop := StabL lt d.toList d'.toList
omit [Inhabited α] in
theorem Stab.refl (lt : α → α → Bool) (d : Array α) : Stab lt d d := StabL.refl _ _
omit [Inhabited α] in
theorem Stab.trans {lt : α → α → Bool} {a b c : Array α} (h : Stab lt a b) (k : Stab lt b c) : Stab lt a c := StabL.trans h k

omit [Inhabited α] in
theorem split4 (d : Array α) (s m e : Nat) (h1 : s ≤ m) (h2 : m ≤ e) (h3 : e ≤ d.size) : d.toList = d.toList.take s ++ (d.toList.drop s).take (m - s) ++ (d.toList.drop m).take (e - m) ++ d.toList.drop e := by
  have e1 : d.toList.drop m = (d.toList.drop m).take (e - m) ++ d.toList.drop e := by
    conv => lhs; rw [← List.take_append_drop (e - m) (d.toList.drop m)]
    rw [List.drop_drop]; congr 2; omega
  have e2 : d.toList.drop s = (d.toList.drop s).take (m - s) ++ d.toList.drop m := by
    conv => lhs; rw [← List.take_append_drop (m - s) (d.toList.drop s)]
    rw [List.drop_drop]; congr 2; omega
  rw [List.append_assoc, ← e1, List.append_assoc, ← e2, List.take_append_drop]

theorem rotA_stab {lt : α → α → Bool} (h : SWO lt) (d : Array α) (s m e : Nat) (h1 : s ≤ m) (h2 : m ≤ e) (h3 : e ≤ d.size)
    (hc : ∀ i j, s ≤ i → i < m → m ≤ j → j < e → lt d[j]! d[i]! = true) : Stab lt d (rotA d s m e) := by
  unfold Stab
  conv => arg 2; rw [split4 d s m e h1 h2 h3]
  unfold rotA
  refine stabL_cross h _ _ _ _ ?_
  intro x hx y hy
  obtain ⟨i, hi, rfl⟩ := List.mem_iff_getElem.1 hx
  obtain ⟨j, hj, rfl⟩ := List.mem_iff_getElem.1 hy
  simp only [List.length_take, List.length_drop, Array.length_toList] at hi hj
  have := hc (s + i) (m + j) (by omega) (by omega) (by omega) (by omega)
  simpa [List.getElem_take, List.getElem_drop, getElem!_pos d (s + i) (by omega), getElem!_pos d (m + j) (by omega)] using this

theorem arr_ext {a b : Array α} (hs : a.size = b.size) (h : ∀ t, t < a.size → a[t]! = b[t]!) : a = b :=
  Array.ext hs fun t h1 h2 => by have := h t h1; rwa [getElem!_pos a t h1, getElem!_pos b t h2] at this

theorem swp_rot (d : Array α) (j : Nat) (h : j + 1 < d.size) : swp d (j + 1) j = rotA d j (j + 1) (j + 2) := by
  refine arr_ext (by rw [size_swp, size_rotA _ _ _ _ (by omega) (by omega) (by omega)]) fun t ht => ?_
  rw [size_swp] at ht
  rw [rotA_get d j (j + 1) (j + 2) (by omega) (by omega) (by omega), swp_get d h (by omega)]
  by_cases a : t = j
  · subst a; simp
  · by_cases b : t = j + 1
    · subst b; simp; omega
    · rw [if_neg a, if_neg b]
      by_cases c : t < j
      · rw [if_pos c]
      · rw [if_neg c, if_neg (by omega), if_neg (by omega)]

/-! ### insertion -/
theorem insInner_stab {lt : α → α → Bool} (hO : SWO lt) (a : Nat) : ∀ (j : Nat) (d : Array α), j < d.size → Stab lt d (insInner lt a j d) ∧ (insInner lt a j d).size = d.size
  | 0, d, _ => by rw [insInner]; exact ⟨Stab.refl _ _, rfl⟩
  | j + 1, d, h => by
    rw [insInner]
    split
    · rename_i hc
      simp only [Bool.and_eq_true, decide_eq_true_eq] at hc
      have ih := insInner_stab hO a j (swp d (j + 1) j) (by rw [size_swp]; omega)
      refine ⟨Stab.trans ?_ ih.1, by rw [ih.2, size_swp]⟩
      rw [swp_rot d j h]
      refine rotA_stab hO d j (j + 1) (j + 2) (by omega) (by omega) (by omega) fun i k h1 h2 h3 h4 => ?_
      obtain rfl : i = j := by omega
      obtain rfl : k = i + 1 := by omega
      exact hc.2
    · exact ⟨Stab.refl _ _, rfl⟩

theorem insOuter_stab {lt : α → α → Bool} (hO : SWO lt) (a b : Nat) : ∀ (g i : Nat) (d : Array α), b - i ≤ g → b ≤ d.size → Stab lt d (insOuter lt a b i d) ∧ (insOuter lt a b i d).size = d.size
  | g, i, d, hg, hb => by
    by_cases h : i < b
    · rw [insOuter_go _ _ _ _ _ h]
      have h1 := insInner_stab hO a i d (by omega)
      match g, hg with
      | 0, hg => omega
      | g + 1, hg =>
        have h2 := insOuter_stab hO a b g (i + 1) (insInner lt a i d) (by omega) (by rw [h1.2]; exact hb)
        exact ⟨h1.1.trans h2.1, by rw [h2.2, h1.2]⟩
    · rw [insOuter_stop _ _ _ _ _ h]; exact ⟨Stab.refl _ _, rfl⟩

theorem insertion_stab {lt : α → α → Bool} (hO : SWO lt) (d : Array α) (a b : Nat) (hb : b ≤ d.size) : Stab lt d (insertionSort lt d a b) := by
  unfold insertionSort
  exact (insOuter_stab hO a b _ _ d (Nat.le_refl _) hb).1

theorem sortedL_of {lt : α → α → Bool} {d : Array α} (h : SortedIn lt 0 d.size d) : SortedL lt d.toList := by
  unfold SortedL
  rw [List.pairwise_iff_getElem]
  intro i j hi hj hij
  have := h i j (Nat.zero_le _) hij (by simpa using hj)
  simpa [getElem!_pos d i (by simpa using hi), getElem!_pos d j (by simpa using hj)] using this

/-- what a stable sort leaves, told of lists -/
def stableOf (lt : α → α → Bool) (l l' : List α) : Prop := SortedL lt l' ∧ StabL lt l l'
theorem insertion_stable {lt : α → α → Bool} (hO : SWO lt) (d : Array α) : stableOf lt d.toList (insertionSort lt d 0 d.size).toList := by
  have h := insertionSort_holds (lt := lt) hO d 0 d.size (Nat.zero_le _) (Nat.le_refl _)
  have hs : (insertionSort lt d 0 d.size).size = d.size := h.1.1
  exact ⟨sortedL_of (by rw [hs]; exact h.2), insertion_stab hO d 0 d.size (Nat.le_refl _)⟩

/-! ### swapRange, rotate -/
def swpN (d : Array α) (a b : Nat) : Nat → Array α
  | 0 => d
  | i + 1 => swp (swpN d a b i) (a + i) (b + i)
theorem size_swpN (d : Array α) (a b : Nat) : ∀ i, (swpN d a b i).size = d.size
  | 0 => rfl
  | i + 1 => by rw [swpN, size_swp, size_swpN d a b i]
theorem swpN_get (d : Array α) (a b : Nat) : ∀ (n : Nat), a + n ≤ d.size → b + n ≤ d.size → (a + n ≤ b ∨ b + n ≤ a) → ∀ t, (swpN d a b n)[t]! = if a ≤ t ∧ t < a + n then d[t - a + b]! else if b ≤ t ∧ t < b + n then d[t - b + a]! else d[t]!
  | 0, _, _, _, t => by rw [swpN, if_neg (by omega), if_neg (by omega)]
  | n + 1, h1, h2, h3, t => by
    have ih := swpN_get d a b n (by omega) (by omega) (by omega)
    rw [swpN, swp_get _ (by rw [size_swpN]; omega) (by rw [size_swpN]; omega)]
    by_cases e1 : t = b + n
    · subst e1
      rw [if_pos rfl, ih, if_neg (by omega), if_neg (by omega), if_neg (by omega), if_pos (by omega)]
      congr 1; omega
    · rw [if_neg e1]
      by_cases e2 : t = a + n
      · subst e2
        rw [if_pos rfl, ih, if_neg (by omega), if_neg (by omega), if_pos (by omega)]
        congr 1; omega
      · rw [if_neg e2, ih]
        by_cases c1 : a ≤ t ∧ t < a + n
        · rw [if_pos c1, if_pos (by omega)]
        · rw [if_neg c1, if_neg (show ¬ (a ≤ t ∧ t < a + (n + 1)) by omega)]
          by_cases c2 : b ≤ t ∧ t < b + n
          · rw [if_pos c2, if_pos (by omega)]
          · rw [if_neg c2, if_neg (by omega)]

/-- the three steps of rotate -/
theorem rot_gt (d : Array α) (m i j : Nat) (hi : i ≤ m) (hj : m + j ≤ d.size) (h : j < i) : rotA (swpN d (m - i) m j) (m - (i - j)) m (m + j) = rotA d (m - i) m (m + j) := by
  have hs := size_swpN d (m - i) m j
  refine arr_ext (by rw [size_rotA _ _ _ _ (by omega) (by omega) (by omega), size_rotA _ _ _ _ (by omega) (by omega) (by omega), hs]) fun t ht => ?_
  have g := swpN_get d (m - i) m j (by omega) (by omega) (by omega)
  rw [rotA_get _ _ _ _ (by omega) (by omega) (by omega), rotA_get _ _ _ _ (by omega) (by omega) (by omega)]
  simp only [g]
  repeat' split
  all_goals first | rfl | omega | (congr 1; omega)
theorem rot_lt (d : Array α) (m i j : Nat) (hi : i ≤ m) (hj : m + j ≤ d.size) (h : i < j) : rotA (swpN d (m - i) (m + j - i) i) (m - i) m (m + (j - i)) = rotA d (m - i) m (m + j) := by
  have hs := size_swpN d (m - i) (m + j - i) i
  refine arr_ext (by rw [size_rotA _ _ _ _ (by omega) (by omega) (by omega), size_rotA _ _ _ _ (by omega) (by omega) (by omega), hs]) fun t ht => ?_
  have g := swpN_get d (m - i) (m + j - i) i (by omega) (by omega) (by omega)
  rw [rotA_get _ _ _ _ (by omega) (by omega) (by omega), rotA_get _ _ _ _ (by omega) (by omega) (by omega)]
  simp only [g]
  repeat' split
  all_goals first | rfl | omega | (congr 1; omega)
theorem rot_eq (d : Array α) (m i : Nat) (hi : i ≤ m) (hj : m + i ≤ d.size) : swpN d (m - i) m i = rotA d (m - i) m (m + i) := by
  have hs := size_swpN d (m - i) m i
  refine arr_ext (by rw [size_rotA _ _ _ _ (by omega) (by omega) (by omega), hs]) fun t ht => ?_
  rw [swpN_get d (m - i) m i (by omega) (by omega) (by omega), rotA_get _ _ _ _ (by omega) (by omega) (by omega)]
  repeat' split
  all_goals first | rfl | omega | (congr 1; omega)
end Go.Proofs.YtejihgfigclppaaGreat
