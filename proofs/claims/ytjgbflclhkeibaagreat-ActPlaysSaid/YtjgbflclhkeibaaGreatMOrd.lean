/-
  Plain facts on stable sortings, and the newest samples of one node. No function of the program is entered.
  Of a slice of the call's own its beginning is its own too.
-/
import Derived.Test.YtjgbflclhkeibaaGreatCmp
import Derived.Test.YtjgbflclhkeibaaGreatMAcc
namespace Go.Proofs.YtjgbflclhkeibaaGreat
open Go.Sort
set_option linter.unusedVariables false

theorem sorted_append {α : Type} {lt : α → α → Bool} {a b : List α} (ha : SortedL lt a) (hb : SortedL lt b) (h : ∀ x ∈ a, ∀ y ∈ b, lt y x = false) : SortedL lt (a ++ b) :=
  List.pairwise_append.2 ⟨ha, hb, h⟩
theorem sorted_take {α : Type} {lt : α → α → Bool} {l : List α} (h : SortedL lt l) (n : Nat) : SortedL lt (l.take n) := List.Pairwise.sublist (List.take_sublist n l) h
/-- one more, laid behind all that do not come behind it -/
theorem stable_insert {α : Type} {lt : α → α → Bool} (h : SWO lt) {l l' : List α} (x : α) (at' : Nat) (k : stableOf lt l l') (h1 : ∀ y ∈ l'.drop at', lt x y = true) (h2 : ∀ y ∈ l'.take at', lt x y = false) :
    stableOf lt (l ++ [x]) (l'.take at' ++ [x] ++ l'.drop at') := by
  have hsplit : l'.take at' ++ l'.drop at' = l' := List.take_append_drop _ _
  have hsrt := k.1
  unfold SortedL at hsrt
  rw [← hsplit, List.pairwise_append] at hsrt
  refine ⟨?_, fun z => ?_⟩
  · refine sorted_append (sorted_append hsrt.1 (List.pairwise_singleton _ _) ?_) hsrt.2.1 ?_
    · intro a ha b hb
      obtain rfl : b = x := by simpa using hb
      exact h2 a ha
    · intro a ha b hb
      rcases List.mem_append.1 ha with ha | ha
      · exact hsrt.2.2 a ha b hb
      · obtain rfl : a = x := by simpa using ha
        cases hx : lt b a
        · rfl
        · have h3 := h.trans _ _ _ (h1 b hb) hx
          rw [h.irrefl] at h3
          exact absurd h3 (by simp)
  · have hc := stabL_cross h (l'.take at') (l'.drop at') [x] [] (fun a ha b hb => by
      obtain rfl : b = x := by simpa using hb
      exact h1 a ha) z
    simp only [List.append_nil] at hc
    rw [hc, hsplit, List.filter_append, k.2 z, List.filter_append]

section
variable {α : Type} [Inhabited α]
def stSort (lt : α → α → Bool) (l : List α) : List α := (insertionSort lt l.toArray 0 l.toArray.size).toList
theorem stSort_stable {lt : α → α → Bool} (h : SWO lt) (l : List α) : stableOf lt l (stSort lt l) := insertion_stable h l.toArray
theorem stSort_eq {lt : α → α → Bool} (h : SWO lt) {l l' : List α} (k : stableOf lt l l') : l' = stSort lt l := by
  have hs := stSort_stable h l
  exact sorted_unique h _ _ hs.1 k.1 (fun x => (k.2 x).trans (hs.2 x).symm)
theorem stSort_mem {lt : α → α → Bool} (h : SWO lt) (l : List α) (x : α) : x ∈ stSort lt l ↔ x ∈ l := by
  have hs := stSort_stable h l
  have e := hs.2 x
  constructor
  · exact stab_mem h hs.2 x
  · intro hx
    have : x ∈ l.filter (eqv lt x) := List.mem_filter.2 ⟨hx, eqv_refl h x⟩
    rw [← e] at this
    exact (List.mem_filter.1 this).1
/-- what is sorted stands as it is -/
theorem stSort_sorted {lt : α → α → Bool} (h : SWO lt) {l : List α} (k : SortedL lt l) : stSort lt l = l := (stSort_eq h ⟨k, StabL.refl _ _⟩).symm
end

/-- the newest first -/
def newer (a b : Ev) : Bool := decide (b.dot.seq < a.dot.seq)
theorem swo_newerE : SWO newer where
  irrefl x := by simp [newer]
  trans x y z h1 h2 := by simp only [newer, decide_eq_true_eq] at *; omega
  ntrans x y z h1 h2 := by simp only [newer, decide_eq_false_iff_not] at *; omega
def isSample (work node : Int) (e : Ev) : Bool := e.kind == 1 && e.work == work && e.dot.node == node
/-- all samples of a node, the newest first -/
def samples (evs : List Ev) (work node : Int) : List Ev := stSort newer (evs.filter (isSample work node))
def cutN (size : Int) (n : Nat) : Nat := (within size 0 n).toNat
theorem cutN_le (size : Int) (n : Nat) : cutN size n ≤ n := by
  unfold cutN within
  split
  · omega
  · split <;> omega
theorem cutN_cast (size : Int) (n : Nat) : ((cutN size n : Nat) : Int) = within size 0 n := by
  unfold cutN within
  split
  · omega
  · split <;> omega
/-- the newest of them, at most so many -/
def winOf (evs : List Ev) (work node size : Int) : List Ev := (samples evs work node).take (cutN size (samples evs work node).length)
end Go.Proofs.YtjgbflclhkeibaaGreat
namespace Go.Proofs.YtjgbflclhkeibaaGreat
open Go.RowKit Go.Lib Go.Sort
set_option linter.unusedVariables false

theorem Acc.take {B e ed : Nat} {w : World} {oa : Option Addr} {n cap : Nat} {qs : List PEv} (h : Acc B e ed w (.slice oa n cap) qs) (m : Nat) (hm : m ≤ qs.length) : Acc B e ed w (.slice oa m cap) (qs.take m) := by
  refine ⟨h.row.take pcells_len m hm, fun q hq => ?_⟩
  have h1 := h.rem q (List.mem_of_mem_take hq)
  exact ⟨h1.1, by cases oa <;> exact h1.2⟩

end Go.Proofs.YtjgbflclhkeibaaGreat
