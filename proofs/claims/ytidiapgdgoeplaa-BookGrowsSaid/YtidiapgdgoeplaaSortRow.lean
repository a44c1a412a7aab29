/-
  Between a row of one's own (Owns) and the kit's words for a row that is being sorted (HoldsK, sortWorldK): there and back. No function of the program is entered.
-/
import Derived.Test.YtidiapgdgoeplaaRd
import Derived.Test.YtidiapgdgoeplaaSortPure
import Derived.Shelf.SlSortCmp.KitK
namespace Go.Proofs.Ytidiapgdgoeplaa
open Go.Shelf Go.RowKit Go.Lib Go.Sort
set_option linter.unusedVariables false
variable {α : Type} [Inhabited α]

theorem flatK_toList (enc : α → List Value) (k : Nat) (k0 : 0 < k) (hk : ∀ x, (enc x).length = k) (l : List α) : (flatK enc k l.toArray).toList = l.flatMap enc := by
  apply List.ext_getElem?
  intro j
  by_cases hj : j < l.length * k
  · have hj' : j < (flatK enc k l.toArray).size := by simpa using hj
    rw [Array.getElem?_toList, Array.getElem?_eq_getElem hj']
    have hd : j / k < l.length := (Nat.div_lt_iff_lt_mul k0).2 hj
    have hm : j % k < k := Nat.mod_lt _ k0
    have e : (l.flatMap enc)[j / k * k + j % k]? = (enc l[j / k])[j % k]? := flat_at enc k hk l (j / k) (j % k) hd hm
    have e2 : j / k * k + j % k = j := by have := Nat.div_add_mod j k; rw [Nat.mul_comm] at this; exact this
    rw [e2] at e
    rw [e, List.getElem?_eq_getElem (by rw [hk]; exact hm)]
    have g := get_flatK enc k l.toArray j (by simpa using hj)
    rw [getElem!_pos _ j hj'] at g
    rw [g, getElem!_pos l.toArray (j / k) (by simpa using hd)]
    simp [getElem!_pos, hk, hm]
  · rw [Array.getElem?_toList, Array.getElem?_eq_none (by simpa using hj), List.getElem?_eq_none (by rw [flat_len enc k hk]; omega)]

theorem owns_holds {enc : α → List Value} {k base e : Nat} (k0 : 0 < k) (hk : ∀ x, (enc x).length = k) {w : World} {g n cap : Nat} {l : List α} (h : Owns enc k base e w (.slice (some ⟨g, 0, none⟩) n cap) l) : HoldsK enc k w g 0 l.toArray := by
  rcases h.2 with ⟨h, _⟩ | ⟨g', cap', cur, hv, hb, hh, hc, hm, hs, ht⟩
  · cases h
  · simp only [Value.slice.injEq, Option.some.injEq, Addr.mk.injEq] at hv
    obtain ⟨⟨rfl, _, _⟩, _, _⟩ := hv
    intro j hj
    have hj' : j < l.length * k := by simpa using hj
    refine ⟨?_, by simp [World.frozen?, hh]⟩
    have e1 : (flatK enc k l.toArray)[j]! = (flatK enc k l.toArray)[j] := getElem!_pos _ j hj
    have e2 : (l.flatMap enc)[j]? = some ((flatK enc k l.toArray)[j]) := by rw [← flatK_toList enc k k0 hk, Array.getElem?_toList, Array.getElem?_eq_getElem hj]
    have e3 := World.ownsRow.cells h (g := g) rfl j _ e2
    rw [Addr.add_lit] at e3
    rw [e1]
    exact e3

theorem grownBy_sort {enc : α → List Value} {k : Nat} {w : World} {g n : Nat} {os : Array Obj} (d : Array α) : w.grownBy (sortWorldK enc k w g 0 n d os) (some g) := by
  unfold sortWorldK putRowK
  refine ⟨rfl, rfl, rfl, by simp, fun k hk hne => ?_⟩
  rw [heap_grow_old _ _ (by simpa using hk)]
  have : g ≠ k := fun e => hne (by rw [e])
  simp [putRow, mapBlock, Sort.ahead, Array.getElem?_modify, this]

theorem owns_sorted {enc : α → List Value} {k base e : Nat} (k0 : 0 < k) (hk : ∀ x, (enc x).length = k) {w : World} {g n c cap : Nat} {os : Array Obj} {l : List α} (h : Owns enc k base e w (.slice (some ⟨g, 0, none⟩) n cap) l) (d : Array α) (hs : d.size = l.length) :
    Owns enc k base e (sortWorldK enc k w g 0 c d os) (.slice (some ⟨g, 0, none⟩) n cap) d.toList := by
  rcases h.2 with ⟨h, _⟩ | ⟨g', cap', cur, hv, hb, hh, hc, hm, hcs, ht⟩
  · cases h
  · simp only [Value.slice.injEq, Option.some.injEq, Addr.mk.injEq] at hv
    obtain ⟨⟨rfl, _, _⟩, rfl, rfl⟩ := hv
    have hlen : d.toList.length = l.length := by simpa using hs
    refine ⟨flat_len enc k hk _, .inr ⟨g, cap, putCells id 0 (flatK enc k d) cur, by rw [hlen], hb, ?_, by rw [hlen]; exact hc, hm, by simp [putCells, hcs], ?_⟩⟩
    · have hg : g < w.heap.size := (Array.getElem?_eq_some_iff.1 hh).1
      unfold sortWorldK putRowK
      rw [heap_grow_old _ _ (by simpa using hg)]
      simp [putRow, mapBlock, Sort.ahead, Array.getElem?_modify, hh, onCells]
    · have e1 : (flatK enc k d).toList = d.toList.flatMap enc := by have := flatK_toList enc k k0 hk d.toList; simpa using this
      rw [← e1]
      have hsz : (flatK enc k d).size = d.toList.length * k := by simp
      have hle : d.toList.length * k ≤ cur.size := by rw [hcs, hlen]; exact Nat.mul_le_mul_right _ hc
      apply List.ext_getElem?
      intro j
      by_cases hj : j < d.toList.length * k
      · have hjF : j < (flatK enc k d).size := by omega
        have hjc : j < cur.size := by omega
        have hp : (putCells id 0 (flatK enc k d) cur)[j]? = some ((flatK enc k d)[j]!) := by
          have hjc2 : j < (putCells id 0 (flatK enc k d) cur).size := by simp only [putCells, Array.size_mapIdx]; exact hjc
          rw [Array.getElem?_eq_getElem hjc2]
          congr 1
          simp only [putCells, Array.getElem_mapIdx, Nat.zero_le, true_and, Nat.zero_add, Nat.sub_zero, id]
          rw [if_pos hjF]
        rw [List.getElem?_take_of_lt hj, Array.getElem?_toList, Array.getElem?_toList, hp, Array.getElem?_eq_getElem hjF, getElem!_pos _ j hjF]
      · rw [List.getElem?_take_eq_none (by omega), Array.getElem?_toList, Array.getElem?_eq_none (by omega)]
end Go.Proofs.Ytidiapgdgoeplaa
