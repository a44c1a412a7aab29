/-
  Plain facts: numbers that rise strictly are told by their members; what Compact leaves of sorted numbers rises strictly; one number laid in among such.
  Plain facts on nodes by their weights: an order is told by who is there; who goes leaves the others as they were. No function of the program is entered.
-/
import Derived.Lib.SlicesCompact
import Derived.Test.YtejihgfigclppaaGreatSortPure
namespace Go.Proofs.YtejihgfigclppaaGreat
open Go.Lib Go.Sort
set_option linter.unusedVariables false
def Rises (l : List Int) : Prop := l.Pairwise (· < ·)
theorem rises_eq : ∀ {l l' : List Int}, Rises l → Rises l' → (∀ x, x ∈ l ↔ x ∈ l') → l = l'
  | [], [], _, _, _ => rfl
  | [], b :: l', _, _, h => absurd ((h b).2 (by simp)) (by simp)
  | a :: l, [], _, _, h => absurd ((h a).1 (by simp)) (by simp)
  | a :: l, b :: l', h1, h2, h => by
    have p1 := List.pairwise_cons.1 h1
    have p2 := List.pairwise_cons.1 h2
    have hab : a = b := by
      have ha := (h a).1 (by simp)
      have hb := (h b).2 (by simp)
      rcases List.mem_cons.1 ha with e | e
      · exact e
      · rcases List.mem_cons.1 hb with e' | e'
        · exact e'.symm
        · have k1 := p1.1 b e'
          have k2 := p2.1 a e
          omega
    subst hab
    rw [rises_eq p1.2 p2.2 fun x => ?_]
    constructor
    · intro hx
      rcases List.mem_cons.1 ((h x).1 (List.mem_cons_of_mem _ hx)) with e | e
      · have := p1.1 x hx; omega
      · exact e
    · intro hx
      rcases List.mem_cons.1 ((h x).2 (List.mem_cons_of_mem _ hx)) with e | e
      · have := p2.1 x hx; omega
      · exact e
/-- one more, laid behind all that are no greater, if it is none of them -/
theorem rises_insert {l : List Int} {x : Int} {n : Nat} (h : Rises l) (h1 : ∀ y ∈ l.take n, y < x) (h2 : ∀ y ∈ l.drop n, x < y) : Rises (l.take n ++ [x] ++ l.drop n) := by
  have hs : l.take n ++ l.drop n = l := List.take_append_drop _ _
  unfold Rises at h
  rw [← hs, List.pairwise_append] at h
  refine List.pairwise_append.2 ⟨List.pairwise_append.2 ⟨h.1, List.pairwise_singleton _ _, fun a ha b hb => ?_⟩, h.2.1, fun a ha b hb => ?_⟩
  · obtain rfl : b = x := by simpa using hb
    exact h1 a ha
  · rcases List.mem_append.1 ha with ha | ha
    · exact h.2.2 a ha b hb
    · obtain rfl : a = x := by simpa using ha
      exact h2 b hb
theorem mem_insert {l : List Int} {x : Int} {n : Nat} (y : Int) : y ∈ l.take n ++ [x] ++ l.drop n ↔ y = x ∨ y ∈ l := by
  have hs : l.take n ++ l.drop n = l := List.take_append_drop _ _
  constructor
  · intro h
    rcases List.mem_append.1 h with h | h
    · rcases List.mem_append.1 h with h | h
      · exact .inr (List.mem_of_mem_take h)
      · exact .inl (by simpa using h)
    · exact .inr (List.mem_of_mem_drop h)
  · rintro (rfl | h)
    · simp
    · rw [← hs] at h
      rcases List.mem_append.1 h with h | h
      · exact List.mem_append_left _ (List.mem_append_left _ h)
      · exact List.mem_append_right _ h
/-- what Compact leaves of numbers that do not fall -/
theorem compact_rises (d : Array Int) (hs : ∀ i j, i ≤ j → j < d.size → d[i]! ≤ d[j]!) : ∀ m, m ≤ d.size → Rises (compactUpTo d m) ∧ ∀ x, x ∈ compactUpTo d m ↔ ∃ j, j < m ∧ d[j]! = x
  | 0, _ => ⟨List.Pairwise.nil, fun x => by simp [compactUpTo]⟩
  | m + 1, hm => by
    obtain ⟨h1, h2⟩ := compact_rises d hs m (by omega)
    rw [compactUpTo_succ]
    by_cases hk : keeps d m = true
    · rw [if_pos hk]
      refine ⟨List.pairwise_append.2 ⟨h1, List.pairwise_singleton _ _, fun a ha b hb => ?_⟩, fun x => ?_⟩
      · obtain rfl : b = d[m]! := by simpa using hb
        obtain ⟨j, hj, rfl⟩ := (h2 a).1 ha
        have k1 := hs j (m - 1) (by omega) (by omega)
        have k2 := hs (m - 1) m (by omega) (by omega)
        have k3 : d[m]! ≠ d[m - 1]! := by
          simp only [keeps, decide_eq_true_eq] at hk
          rcases hk with hk | hk
          · omega
          · exact hk
        omega
      · rw [List.mem_append]
        constructor
        · rintro (h | h)
          · obtain ⟨j, hj, e⟩ := (h2 x).1 h
            exact ⟨j, by omega, e⟩
          · exact ⟨m, by omega, by simpa using (List.mem_singleton.1 h).symm⟩
        · rintro ⟨j, hj, e⟩
          by_cases hjm : j = m
          · subst hjm; right; simp [e]
          · left; exact (h2 x).2 ⟨j, by omega, e⟩
    · rw [if_neg hk, List.append_nil]
      refine ⟨h1, fun x => ?_⟩
      rw [h2 x]
      have hm0 : m ≠ 0 ∧ d[m]! = d[m - 1]! := by
        simp only [keeps, decide_eq_true_eq, not_or, Decidable.not_not] at hk
        exact hk
      constructor
      · rintro ⟨j, hj, e⟩
        exact ⟨j, by omega, e⟩
      · rintro ⟨j, hj, e⟩
        by_cases hjm : j = m
        · subst hjm; exact ⟨j - 1, by omega, by rw [← hm0.2]; exact e⟩
        · exact ⟨j, by omega, e⟩
end Go.Proofs.YtejihgfigclppaaGreat
namespace Go.Proofs.YtejihgfigclppaaGreat
open Go.Sort
set_option linter.unusedVariables false

section
variable {α : Type}
theorem sorted_take' {lt : α → α → Bool} {l : List α} (h : SortedL lt l) (n : Nat) : SortedL lt (l.take n) := List.Pairwise.sublist (List.take_sublist n l) h
theorem sorted_append' {lt : α → α → Bool} {a b : List α} (ha : SortedL lt a) (hb : SortedL lt b) (h : ∀ x ∈ a, ∀ y ∈ b, lt y x = false) : SortedL lt (a ++ b) := List.pairwise_append.2 ⟨ha, hb, h⟩
/-- one more, laid behind all that do not come behind it -/
theorem stable_insert' {lt : α → α → Bool} (h : SWO lt) {l l' : List α} (x : α) (at' : Nat) (k : stableOf lt l l') (h1 : ∀ y ∈ l'.drop at', lt x y = true) (h2 : ∀ y ∈ l'.take at', lt x y = false) :
    stableOf lt (l ++ [x]) (l'.take at' ++ [x] ++ l'.drop at') := by
  have hsplit : l'.take at' ++ l'.drop at' = l' := List.take_append_drop _ _
  have hsrt := k.1
  unfold SortedL at hsrt
  rw [← hsplit, List.pairwise_append] at hsrt
  refine ⟨?_, fun z => ?_⟩
  · refine sorted_append' (sorted_append' hsrt.1 (List.pairwise_singleton _ _) ?_) hsrt.2.1 ?_
    · intro a ha b hb
      obtain rfl : b = x := by simpa using hb
      exact h2 a ha
    · intro a ha b hb
      rcases List.mem_append.1 ha with ha | ha
      · exact hsrt.2.2 a ha b hb
      · obtain rfl : a = x := by simpa using ha
        cases hx : lt b a
        · rfl
        · have h3 := h.trans _ _ _ (h1 b hb) hx
          rw [h.irrefl] at h3
          exact absurd h3 (by simp)
  · have hc := stabL_cross h (l'.take at') (l'.drop at') [x] [] (fun a ha b hb => by
      obtain rfl : b = x := by simpa using hb
      exact h1 a ha) z
    simp only [List.append_nil] at hc
    rw [hc, hsplit, List.filter_append, k.2 z, List.filter_append]
theorem stable_mem {lt : α → α → Bool} (h : SWO lt) {l l' : List α} (k : stableOf lt l l') (x : α) : x ∈ l' ↔ x ∈ l := by
  have e := k.2 x
  constructor
  · intro hx
    have : x ∈ l'.filter (eqv lt x) := List.mem_filter.2 ⟨hx, eqv_refl h x⟩
    rw [e] at this
    exact (List.mem_filter.1 this).1
  · intro hx
    have : x ∈ l.filter (eqv lt x) := List.mem_filter.2 ⟨hx, eqv_refl h x⟩
    rw [← e] at this
    exact (List.mem_filter.1 this).1
theorem stable_eq {lt : α → α → Bool} (h : SWO lt) {l a b : List α} (ka : stableOf lt l a) (kb : stableOf lt l b) : a = b :=
  (sorted_unique h _ _ ka.1 kb.1 (fun x => (kb.2 x).trans (ka.2 x).symm)).symm
theorem stable_filter {lt : α → α → Bool} {l l' : List α} (k : stableOf lt l l') (p : α → Bool) : stableOf lt (l.filter p) (l'.filter p) := by
  refine ⟨List.Pairwise.filter p k.1, fun x => ?_⟩
  rw [List.filter_filter, List.filter_filter]
  have h1 : ∀ m : List α, m.filter (fun a => eqv lt x a && p a) = (m.filter (eqv lt x)).filter p := fun m => by
    rw [List.filter_filter]
    congr 1
    funext a
    exact Bool.and_comm _ _
  rw [h1, h1, k.2 x]
end

/-- the heavier first -/
def heavier (wt : Int → Int) (a b : Int) : Bool := decide (wt b < wt a)
theorem swo_heavier (wt : Int → Int) : SWO (heavier wt) where
  irrefl x := by simp [heavier]
  trans x y z h1 h2 := by simp only [heavier, decide_eq_true_eq] at *; omega
  ntrans x y z h1 h2 := by simp only [heavier, decide_eq_false_iff_not] at *; omega

/-- the nodes of a list that there may be, each once, in order -/
def there (l : List Int) : List Int := ([0, 1, 2, 3, 4, 5, 6, 7] : List Int).filter fun n => decide (n ∈ l)
theorem there_rises (l : List Int) : Rises (there l) := List.Pairwise.filter _ (by decide)
theorem mem_there {l : List Int} {x : Int} : x ∈ there l ↔ 0 ≤ x ∧ x < 8 ∧ x ∈ l := by
  unfold there
  rw [List.mem_filter, decide_eq_true_eq]
  constructor
  · rintro ⟨h, h2⟩
    simp only [List.mem_cons, List.not_mem_nil, or_false] at h
    exact ⟨by omega, by omega, h2⟩
  · rintro ⟨h0, h1, h2⟩
    refine ⟨?_, h2⟩
    simp only [List.mem_cons, List.not_mem_nil, or_false]
    omega
theorem there_congr {l l' : List Int} (h : ∀ x, 0 ≤ x → x < 8 → (x ∈ l ↔ x ∈ l')) : there l = there l' :=
  rises_eq (there_rises l) (there_rises l') fun x => by
    rw [mem_there, mem_there]
    constructor
    · rintro ⟨a, b, c⟩; exact ⟨a, b, (h x a b).1 c⟩
    · rintro ⟨a, b, c⟩; exact ⟨a, b, (h x a b).2 c⟩
theorem there_len (l : List Int) : (there l).length ≤ 8 := by
  have := List.length_filter_le (fun n => decide (n ∈ l)) ([0, 1, 2, 3, 4, 5, 6, 7] : List Int)
  exact this

/-- an order of nodes by weight -/
structure Ranks (wt : Int → Int) (l out : List Int) : Prop where
  st : stableOf (heavier wt) (there l) out
theorem Ranks.eq {wt : Int → Int} {l l' a b : List Int} (h : Ranks wt l a) (k : Ranks wt l' b) (e : there l = there l') : a = b :=
  stable_eq (swo_heavier wt) h.st (e ▸ k.st)
theorem Ranks.mem {wt : Int → Int} {l out : List Int} (h : Ranks wt l out) (x : Int) : x ∈ out ↔ 0 ≤ x ∧ x < 8 ∧ x ∈ l := (stable_mem (swo_heavier wt) h.st x).trans mem_there
theorem filter_le {α : Type} [DecidableEq α] {l l' : List α} (p : α → α → Bool) (hp : ∀ x, p x x = true) (h : ∀ x, l'.filter (p x) = l.filter (p x)) (x : α) : l'.count x = l.count x := by
  have h1 : ∀ m : List α, m.count x = (m.filter (p x)).count x := fun m => by
    rw [List.count_filter (hp x)]
  rw [h1, h x, ← h1]
theorem Ranks.nodup {wt : Int → Int} {l out : List Int} (h : Ranks wt l out) : out.Nodup := by
  have h1 : (there l).Nodup := List.Pairwise.imp (fun hxy => by omega) (there_rises l)
  rw [List.nodup_iff_count] at h1 ⊢
  intro a
  rw [filter_le (eqv (heavier wt)) (eqv_refl (swo_heavier wt)) h.st.2 a]
  exact h1 a
theorem Ranks.gone {wt : Int → Int} {l out : List Int} (h : Ranks wt l out) (p : Int → Bool) {rest : List Int} (hr : ∀ x, x ∈ rest ↔ x ∈ l ∧ p x = true) : Ranks wt rest (out.filter p) := by
  refine ⟨?_⟩
  have e : there rest = (there l).filter p := rises_eq (there_rises _) (List.Pairwise.filter _ (there_rises _)) fun x => by
    rw [List.mem_filter, mem_there, mem_there, hr x]
    constructor
    · rintro ⟨a, b, c, d⟩; exact ⟨⟨a, b, c⟩, d⟩
    · rintro ⟨⟨a, b, c⟩, d⟩; exact ⟨a, b, c, d⟩
  rw [e]
  exact stable_filter h.st p
theorem Ranks.perm {wt : Int → Int} {l out : List Int} (h : Ranks wt l out) : out.Perm (there l) := List.perm_iff_count.2 fun a => filter_le (eqv (heavier wt)) (eqv_refl (swo_heavier wt)) h.st.2 a
theorem Ranks.len {wt : Int → Int} {l out : List Int} (h : Ranks wt l out) : out.length ≤ 8 := by
  rw [h.perm.length_eq]
  exact there_len l
end Go.Proofs.YtejihgfigclppaaGreat
