/-
  Rows of ints of the call's own, through the library's Clone, DeleteFunc, Sort, Compact and SortStableFunc: what each leaves, nil too.
-/
import Derived.Test.YtenkfnhcdfmkaaaGreatMRd
import Derived.Test.YtenkfnhcdfmkaaaGreatLay
import Derived.Test.YtenkfnhcdfmkaaaGreatMSortPure
import Derived.Sort.OwnSortedInts
import Derived.Shelf.Sort.Plain
import Derived.Shelf.Slices.CompactI
import Derived.Shelf.Slices.In.SortNone
import Derived.Shelf.Slices.Clone
import Derived.Shelf.SlicesE.DeleteFunc
import Derived.Shelf.SlSortCmp.Insertion1
namespace Go.Proofs.YtenkfnhcdfmkaaaGreat
open Go.Shelf Go.RowKit Go.Lib Go.Sort
set_option linter.unusedVariables false
def icells (v : Int) : List Value := [.int .i64 v]
theorem icells_len (v : Int) : (icells v).length = 1 := rfl
theorem icells_flat : ∀ l : List Int, l.flatMap icells = l.map (Value.int .i64)
 | [] => rfl
 | a :: l => by rw [List.flatMap_cons, List.map_cons, icells_flat l]; rfl
abbrev Ints (B : Nat) (w : World) (v : Value) (l : List Int) : Prop := Owns icells 1 B 3 w v l
theorem Ints.parts {w : World} {B : Nat} {v : Value} {l : List Int} (h : Ints B w v l) (hl : l ≠ []) : ∃ g cap, v = .slice (some ⟨g, 0, none⟩) l.length cap ∧ B ≤ g ∧ g < w.heap.size ∧ l.length ≤ cap ∧ Holds (Value.int .i64) w g 0 l.toArray ∧
  ∀ (n : Nat) (os : Array Obj) (ts : List Int), ts.length = l.length → Ints B (grow (putRow (Value.int .i64) (Sort.ahead w n) g 0 ts.toArray) os) (.slice (some ⟨g, 0, none⟩) ts.length cap) ts := by
 rcases h.2 with ⟨hv, hn⟩ | ⟨g, cap, cur, hv, hbg, hgg, hnc, hcm, hcs, htk⟩
 ·exact absurd (List.eq_nil_of_length_eq_zero hn) hl
 ·refine ⟨g, cap, hv, hbg, (Array.getElem?_eq_some_iff.1 hgg).1, hnc, holds_of_blockI hgg (by rw [← icells_flat, ← htk, Nat.mul_one]), fun n os ts hts => ?_⟩
  have := ownsRow_sortedI (n := n) (os := os) (ss := l) (ts := ts) hts hbg hgg hnc hcm hcs
  unfold Ints Owns
  rw [icells_flat, hts]
  exact this
theorem clone_any (oa : Option Addr) (cap : Nat) (l : List Int) (w : World) (h : SlAt icells w (.slice oa l.length cap) l) (hl : l.length ≤ 1000000) :
  Calls Tryz.prog 37 #[.slice oa l.length cap] w fun e w' => ∃ v', e = .returned v' ∧ Ints w.heap.size w' v' l ∧ Below w.heap.size w w' := by
 cases oa with
 | none =>
  have hl0 : l = [] := by
   obtain ⟨oa', cap', hv, hcp, hn, _⟩ := h
   simp only [Value.slice.injEq] at hv
   have := hn hv.1.symm
   exact List.eq_nil_of_length_eq_zero (by omega)
  subst hl0
  refine (Any.slices_Clone_int_nil laysLays215 0 cap w).mono ?_
  rintro e w' ⟨rfl, rfl⟩
  exact ⟨_, rfl, Owns.nil _ _ _ _ _, Below.refl _ _⟩
 | some a =>
  cases l with
  | nil =>
   refine (Any.slices_Clone_int_zero laysLays215 a cap w).mono ?_
   rintro e w' ⟨v', rfl, ho, _, hb⟩
   exact ⟨v', rfl, ho, hb⟩
  | cons x xs =>
   obtain ⟨b, off, hab⟩ := h.plain icells_len (by decide) (by simp)
   simp only [Option.some.injEq] at hab
   subst hab
   refine (Any.slices_Clone_int laysLays215 b off (x :: xs).length cap (x :: xs) w (Nat.le_refl _) (by omega) (fun j hj => ?_)).mono ?_
   ·have := h.cell icells_len (i := j) (c := 0) hj (by decide)
    rw [Nat.mul_one, Nat.add_zero] at this
    rw [this]
    simp [icells, List.getD, List.getElem?_eq_getElem hj]
   ·rintro e w' ⟨v', rfl, ho, _, hb⟩
    rw [List.take_length] at ho
    refine ⟨v', rfl, ?_, hb⟩
    unfold Ints Owns
    rw [icells_flat]
    exact ho
theorem sort_any (B : Nat) (v : Value) (l : List Int) (w : World) (h : Ints B w v l) (hl : l.length ≤ 1000000) :
  Calls Tryz.prog 109 #[v] w fun e w' => e = .returned (.tuple #[]) ∧ Ints B w' v (l.mergeSort fun x y => decide (x ≤ y)) ∧ w.grownBy w' v.ownBlock := by
 cases l with
 | nil =>
  obtain ⟨oa, cap, rfl⟩ := slAt_slice h.at
  refine (Any.slices_Sort_int_none laysLays189 oa cap w).mono ?_
  rintro e w' ⟨rfl, rfl⟩
  exact ⟨rfl, by simpa using h, World.grownBy.refl _ _⟩
 | cons x xs =>
  obtain ⟨g, cap, rfl, hB, hg, hc, hH, hO⟩ := h.parts (by simp)
  refine (Any.slices_Sort_int laysLays189 g 0 cap (x :: xs) w hH hg (by omega)).mono ?_
  rintro e w' ⟨rfl, n, os, rfl⟩
  have hml : ((x :: xs).mergeSort fun x y => decide (x ≤ y)).length = (x :: xs).length := List.length_mergeSort _
  have := hO n os _ hml
  rw [hml] at this
  exact ⟨rfl, this, grownBy_sortedI _⟩
theorem compact_len (zs : List Int) : (Lib.compact zs).length ≤ zs.length := by
 unfold Lib.compact compactUpTo
 rw [List.length_map]
 have := List.length_filter_le (keeps zs.toArray) (List.range zs.length)
 simpa using this
theorem compact_any (B : Nat) (v : Value) (l : List Int) (w : World) (h : Ints B w v l) (hl : l.length ≤ 1000000) :
  Calls Tryz.prog 110 #[v] w fun e w' => ∃ v', e = .returned v' ∧ Ints B w' v' (Lib.compact l) ∧ v'.ownBlock = v.ownBlock ∧ w.grownBy w' v.ownBlock := by
 cases l with
 | nil =>
  obtain ⟨oa, cap, rfl⟩ := slAt_slice h.at
  refine (Any.slices_Compact_int_empty laysLays220 oa cap w).mono ?_
  rintro e w' ⟨rfl, rfl⟩
  exact ⟨_, rfl, h, rfl, World.grownBy.refl _ _⟩
 | cons x xs =>
  obtain ⟨g, cap, rfl, hB, hg, hc, hH, hO⟩ := h.parts (by simp)
  have hcl := compact_len (x :: xs)
  refine (Any.slices_Compact_int laysLays220 g 0 cap (x :: xs) w hH (by omega) hc).mono ?_
  rintro e w' ⟨rfl, q, rfl⟩
  have hts : (Lib.compact (x :: xs) ++ List.replicate ((x :: xs).length - (Lib.compact (x :: xs)).length) 0).length = (x :: xs).length := by simp only [List.length_append, List.length_replicate]; omega
  have ho := hO q #[] _ hts
  have hg2 := grownBy_sortedI (w := w) (g := g) (n := q) (os := #[]) (Lib.compact (x :: xs) ++ List.replicate ((x :: xs).length - (Lib.compact (x :: xs)).length) 0).toArray
  rw [grow_empty] at ho hg2
  have ht := ho.take icells_len (Lib.compact (x :: xs)).length (by rw [List.length_append]; omega)
  rw [List.take_left' rfl] at ht
  exact ⟨_, rfl, ht, rfl, hg2⟩
end Go.Proofs.YtenkfnhcdfmkaaaGreat
