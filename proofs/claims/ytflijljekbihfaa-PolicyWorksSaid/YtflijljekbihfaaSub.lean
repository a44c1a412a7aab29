/-
  Slices of slices: what l[lo:hi] reads as.
-/
import Derived.Test.YtflijljekbihfaaStep
namespace Go.Proofs.Ytflijljekbihfaa
open Go.RowKit
set_option linter.unusedVariables false
theorem below_drewN (w : World) (n : Nat) : RowKit.Below w.heap.size w (w.drewN n) := ⟨rfl, rfl, rfl, Nat.le_refl _, fun _ _ => rfl⟩
theorem below_drew {B : Nat} {w w' : World} (h : RowKit.Below B w w') : RowKit.Below B w w'.drew := h.trans ⟨rfl, rfl, rfl, Nat.le_refl _, fun _ _ => rfl⟩
theorem flat_take {α : Type} (enc : α → List Value) (k : Nat) (hk : ∀ x, (enc x).length = k) : ∀ (l : List α) (n : Nat), (l.take n).flatMap enc = (l.flatMap enc).take (n * k)
  | [], n => by simp
  | x :: l, 0 => by simp
  | x :: l, n + 1 => by
    rw [List.take_succ_cons, List.flatMap_cons, List.flatMap_cons, flat_take enc k hk l n, List.take_append, hk, show (n + 1) * k - k = n * k by rw [Nat.add_mul]; omega, List.take_of_length_le (l := enc x) (by rw [hk, Nat.add_mul]; omega)]
theorem flat_drop {α : Type} (enc : α → List Value) (k : Nat) (hk : ∀ x, (enc x).length = k) : ∀ (l : List α) (n : Nat), (l.drop n).flatMap enc = (l.flatMap enc).drop (n * k)
  | [], n => by simp
  | x :: l, 0 => by simp
  | x :: l, n + 1 => by
    rw [List.drop_succ_cons, List.flatMap_cons, flat_drop enc k hk l n, List.drop_append, hk, show (n + 1) * k - k = n * k by rw [Nat.add_mul]; omega, (List.drop_eq_nil_of_le (by rw [hk, Nat.add_mul]; omega) : (enc x).drop ((n + 1) * k) = []), List.nil_append]
theorem SlAt.sub {α : Type} {enc : α → List Value} {k : Nat} (hk : ∀ x, (enc x).length = k) (k0 : 0 < k) {w : World} {oa : Option Addr} {n cap : Nat} {l : List α} (h : SlAt enc w (.slice oa n cap) l) (lo hi : Nat) (h1 : lo ≤ hi) (h2 : hi ≤ l.length) :
    SlAt enc w (sliced oa lo hi cap k) ((l.take hi).drop lo) := by
  have hpl := fun hl => h.plain hk k0 hl
  obtain ⟨oa', cap', hv, hcap, hn, hc⟩ := h
  simp only [Value.slice.injEq] at hv
  obtain ⟨rfl, rfl, rfl⟩ := hv
  have hlen : ((l.take hi).drop lo).length = hi - lo := by rw [List.length_drop, List.length_take]; omega
  unfold sliced
  by_cases hm : cap = lo
  · rw [if_pos hm]
    have hnil : (l.take hi).drop lo = [] := List.eq_nil_of_length_eq_zero (by omega)
    rw [hnil]
    refine ⟨oa, cap - lo, ?_, Nat.zero_le _, fun _ => by omega, fun a _ j u hu => by simp at hu⟩
    rw [show hi - lo = 0 by omega]
    rfl
  · rw [if_neg hm]
    refine ⟨_, cap - lo, by rw [hlen], by omega, fun hno => ?_, fun a ha j u hu => ?_⟩
    · have : oa = none := by cases oa <;> simp_all
      have := hn this
      omega
    · have hl : l ≠ [] := by
        rintro rfl
        simp at hu
      obtain ⟨b, off, rfl⟩ := hpl hl
      simp only [Option.map_some, Option.some.injEq, Addr.add_lit] at ha
      subst ha
      rw [Addr.add_lit]
      rw [flat_drop enc k hk, flat_take enc k hk, List.getElem?_drop] at hu
      have h3 : (l.flatMap enc)[lo * k + j]? = some u := by
        rw [List.getElem?_take] at hu
        split at hu
        · exact hu
        · simp at hu
      have := hc _ rfl _ u h3
      rwa [Addr.add_lit, ← Nat.add_assoc] at this
/-- events, some of them -/
theorem EvsAt.sub {w : World} {oa : Option Addr} {n cap : Nat} {l : List PEv} (h : EvsAt w (.slice oa n cap) l) (lo hi : Nat) (h1 : lo ≤ hi) (h2 : hi ≤ l.length) : EvsAt w (sliced oa lo hi cap 14) ((l.take hi).drop lo) :=
  ⟨h.1.sub pcells_len (by decide) lo hi h1 h2, fun p hp => h.2 p (List.mem_of_mem_take (List.mem_of_mem_drop hp))⟩
end Go.Proofs.Ytflijljekbihfaa
