/-
  Of a slice of the call's own its beginning is its own too.
-/
import Derived.Test.YtflijljekbihfaaAcc
namespace Go.Proofs.Ytflijljekbihfaa
open Go.RowKit Go.Lib Go.Sort
set_option linter.unusedVariables false

theorem Owns.take {α : Type} {enc : α → List Value} {k base e : Nat} (hk : ∀ x, (enc x).length = k) {w : World} {oa : Option Addr} {n cap : Nat} {l : List α} (h : Owns enc k base e w (.slice oa n cap) l) (m : Nat) (hm : m ≤ l.length) : Owns enc k base e w (.slice oa m cap) (l.take m) := by
  have hl : (l.take m).length = m := by rw [List.length_take]; omega
  refine ⟨by rw [flat_len enc k hk], ?_⟩
  rcases h.2 with ⟨hv, hn⟩ | ⟨g, cap', cur, hv, hb, hh, hc, hmx, hs, ht⟩
  · simp only [Value.slice.injEq] at hv
    obtain ⟨rfl, rfl, rfl⟩ := hv
    obtain rfl : m = 0 := by omega
    exact .inl ⟨rfl, by simp⟩
  · simp only [Value.slice.injEq] at hv
    obtain ⟨rfl, rfl, rfl⟩ := hv
    refine .inr ⟨g, cap, cur, by rw [hl], hb, hh, by rw [hl]; omega, hmx, hs, ?_⟩
    have e1 : (l.take m).flatMap enc = (l.flatMap enc).take (m * k) := by
      have e2 : l.flatMap enc = (l.take m).flatMap enc ++ (l.drop m).flatMap enc := by rw [← List.flatMap_append, List.take_append_drop]
      rw [e2]
      exact (List.take_left' (by rw [flat_len enc k hk, hl])).symm
    rw [e1, ← ht, List.take_take, hl]
    congr 1
    exact (Nat.min_eq_left (Nat.mul_le_mul_right _ hm)).symm

theorem Acc.take {B e ed : Nat} {w : World} {oa : Option Addr} {n cap : Nat} {qs : List PEv} (h : Acc B e ed w (.slice oa n cap) qs) (m : Nat) (hm : m ≤ qs.length) : Acc B e ed w (.slice oa m cap) (qs.take m) := by
  refine ⟨h.row.take pcells_len m hm, fun q hq => ?_⟩
  have h1 := h.rem q (List.mem_of_mem_take hq)
  exact ⟨h1.1, by cases oa <;> exact h1.2⟩

end Go.Proofs.Ytflijljekbihfaa
