/-
  The document's example of a book, reckoned.
-/
import Derived.Test.YtidiapgdgoeplaaBookStands
namespace Go.Proofs.Ytidiapgdgoeplaa
set_option linter.unusedVariables false
def polA8 : Pol := ⟨0, 1, 1, 0, 1, 1, 0⟩
def xA8 : Ev := ⟨⟨0, 1⟩, 1, 2, 0, 0, polA8, []⟩
def yA8 : Ev := ⟨⟨1, 1⟩, 2, 2, 0, 0, polA8, [⟨0, 1⟩]⟩
def S1A8 : BookS := takeB BookS.new xA8
def S2A8 : BookS := takeB S1A8 yA8
theorem len2_of_mem {l : List Dot} (hl : l.Nodup) (a b : Dot) (hab : a ≠ b) (h : ∀ x, x ∈ l ↔ x = a ∨ x = b) : l.length = 2 := by
  have hm : [a, b].Nodup := by simp [hab]
  have h1 := hl.length_le_of_subset (l₂ := [a, b]) fun x hx => by rcases (h x).1 hx with rfl | rfl <;> simp
  have h2 := hm.length_le_of_subset (l₂ := l) fun x hx => (h x).2 (by simpa using hx)
  simp only [List.length_cons, List.length_nil] at h1 h2
  omega
theorem addA8_1 : addB BookS.new xA8 = (0, S1A8) := by
  unfold addB
  rw [if_pos (show RightEv xA8 by decide), if_neg (show ¬ BookS.new.sees xA8.dot = true by decide)]
  rfl
theorem addA8_2 : addB S1A8 yA8 = (0, S2A8) := by
  unfold addB
  rw [if_pos (show RightEv yA8 by decide), if_neg (show ¬ S1A8.sees yA8.dot = true by decide)]
  rfl
theorem holdsA8 : S2A8.holds = [yA8] := rfl
theorem timeA8 : S2A8.time = 2 := rfl
theorem addA8_3 : addB S2A8 xA8 = (9, S2A8) := by
  unfold addB
  rw [if_pos (show RightEv xA8 by decide), if_pos (show S2A8.sees xA8.dot = true by decide)]
theorem fineA8 : S2A8.Fine := by
  have h1 := addB_fine fine_new xA8
  rw [addA8_1] at h1
  have h2 := addB_fine h1 yA8
  rw [addA8_2] at h2
  exact h2
theorem fineA8_1 : S1A8.Fine := by
  have h1 := addB_fine fine_new xA8
  rw [addA8_1] at h1
  exact h1
theorem may01 : May ⟨0, 1⟩ := ⟨by show (0 : Int) ≤ 0; omega, by show (0 : Int) < 8; omega, by show (1 : Int) ≤ 1; omega, by show (1 : Int) ≤ 96; omega⟩
theorem may11 : May ⟨1, 1⟩ := ⟨by show (0 : Int) ≤ 1; omega, by show (1 : Int) < 8; omega, by show (1 : Int) ≤ 1; omega, by show (1 : Int) ≤ 96; omega⟩
theorem nodupDots {g : Grid} : (dotsOf g).Nodup := (dotsTo_sorted g 784).imp fun {a b} hb e => by subst e; exact Before.irrefl _ hb
theorem sawA8 : (dotsOf S2A8.saw).length = 2 := by
  refine len2_of_mem nodupDots ⟨0, 1⟩ ⟨1, 1⟩ (by decide) fun x => ?_
  rw [mem_dotsOf fineA8.ok]
  have key : May x → (S2A8.saw x.node.toNat x.seq.toNat = true ↔ x = ⟨0, 1⟩ ∨ x = ⟨1, 1⟩) := fun hx => by
    have h1 := (takeB_is fineA8_1 (show RightEv yA8 by decide) (show S1A8.sees yA8.dot = false by decide)).1 x hx
    have h2 := (takeB_is fine_new (show RightEv xA8 by decide) (show BookS.new.sees xA8.dot = false by decide)).1 x hx
    change (S2A8.saw x.node.toNat x.seq.toNat = true ↔ S1A8.sees x = true ∨ x = yA8.dot ∨ x ∈ yA8.rem) at h1
    change (S1A8.sees x = true ↔ BookS.new.sees x = true ∨ x = xA8.dot ∨ x ∈ xA8.rem) at h2
    rw [h1, h2]
    have h3 : BookS.new.sees x = false := rfl
    have h4 : xA8.dot = ⟨0, 1⟩ := rfl
    have h5 : yA8.dot = ⟨1, 1⟩ := rfl
    have h6 : xA8.rem = [] := rfl
    have h7 : yA8.rem = [⟨0, 1⟩] := rfl
    rw [h3, h4, h5, h6, h7]
    simp only [Bool.false_eq_true, false_or, List.not_mem_nil, or_false, List.mem_singleton]
    constructor
    · rintro (h | h | h)
      · exact .inl h
      · exact .inr h
      · exact .inl h
    · rintro (h | h)
      · exact .inl h
      · exact .inr (.inl h)
  constructor
  · rintro ⟨h1, h2⟩
    exact (key h1).1 h2
  · rintro (rfl | rfl)
    · exact ⟨may01, (key may01).2 (.inl rfl)⟩
    · exact ⟨may11, (key may11).2 (.inr rfl)⟩
theorem standsB_two (S : BookS) (work : Int) (n : Nat) (hn : n = (dotsOf (dotsGrid (standsL S work))).length) (h2 : n = 2) : (standsB S work).1.length = n ∧ (standsB S work).2 = 0 := by
  have h96 : ¬ 96 < n := by omega
  have hs := standsB_small hn h96
  rw [hs]
  have key : ∀ l : List Dot, n = l.length → ((l, (0 : Int)).1.length = n ∧ (l, (0 : Int)).2 = 0) := fun l h => ⟨h.symm, rfl⟩
  exact key _ hn
theorem standsA8 : (standsB S2A8 0).1.length = 2 ∧ (standsB S2A8 0).2 = 0 := by
  have hl : standsL S2A8 0 = [⟨1, 1⟩, ⟨0, 1⟩] := by
    unfold standsL
    rw [holdsA8]
    rfl
  have hn : (dotsOf (dotsGrid (standsL S2A8 0))).length = 2 := by
    refine len2_of_mem nodupDots ⟨0, 1⟩ ⟨1, 1⟩ (by decide) fun x => ?_
    rw [mem_dotsGrid, hl]
    simp only [List.mem_cons, List.not_mem_nil, or_false]
    constructor
    · rintro ⟨_, h | h⟩
      · exact .inr h
      · exact .inl h
    · rintro (rfl | rfl)
      · exact ⟨may01, .inr rfl⟩
      · exact ⟨may11, .inl rfl⟩
  exact standsB_two S2A8 0 2 hn.symm rfl
end Go.Proofs.Ytidiapgdgoeplaa
