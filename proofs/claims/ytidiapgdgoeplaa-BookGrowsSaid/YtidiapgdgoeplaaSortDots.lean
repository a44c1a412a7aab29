/-
  A row of dots that may be, sorted by the library's SortFunc with the book's order: the same dots, each before the next.
-/
import Derived.Test.YtidiapgdgoeplaaDotP
import Derived.Test.YtidiapgdgoeplaaCmp
import Derived.Test.YtidiapgdgoeplaaAcc
import Derived.Test.YtidiapgdgoeplaaSortRow
import Derived.Test.YtidiapgdgoeplaaLay
import Derived.Shelf.SlSortCmp.NoneTotal
namespace Go.Proofs.Ytidiapgdgoeplaa
open Go.Shelf Go.RowKit Go.Lib Go.Sort
set_option linter.unusedVariables false
abbrev MDot := { d : Dot // May d }
instance : Inhabited MDot := ⟨⟨⟨0, 1⟩, by decide⟩⟩
def mcells (d : MDot) : List Value := Dot.cells d.1
def ordDot (a b : Dot) : Int := if a.node = b.node then a.seq - b.seq else a.node - b.node
theorem ordDot_neg {a b : Dot} : ordDot a b < 0 ↔ Before a b := by
  unfold ordDot Before
  split <;> omega
theorem ltOf_ord (a b : MDot) : ltOf (fun x y : MDot => ordDot x.1 y.1) a b = decide (Before a.1 b.1) := by
  unfold ltOf
  rw [Bool.eq_iff_iff, decide_eq_true_eq, decide_eq_true_eq]
  exact ordDot_neg
theorem swo_ord : SWO (ltOf fun x y : MDot => ordDot x.1 y.1) where
  irrefl x := by rw [ltOf_ord]; exact decide_eq_false (Before.irrefl _)
  trans x y z h1 h2 := by rw [ltOf_ord] at *; rw [decide_eq_true_eq] at *; exact h1.trans h2
  ntrans x y z h1 h2 := by rw [ltOf_ord] at *; rw [decide_eq_false_iff_not] at *; unfold Before at *; omega
theorem total_ord (x y : MDot) (h1 : ltOf (fun x y : MDot => ordDot x.1 y.1) x y = false) (h2 : ltOf (fun x y : MDot => ordDot x.1 y.1) y x = false) : x = y := by
  rw [ltOf_ord, decide_eq_false_iff_not] at h1 h2
  obtain ⟨⟨a, b⟩, _⟩ := x
  obtain ⟨⟨c, d⟩, _⟩ := y
  unfold Before at h1 h2
  simp only at h1 h2
  simp only [Subtype.mk.injEq, Dot.mk.injEq]
  omega
set_option maxHeartbeats 2000000 in
theorem walkCmp_any (a b : Dot) (ha : May a) (hb : May b) (w : World) : Calls Try.prog 48 #[.agg #[.int .i64 a.node, .int .i64 a.seq], .agg #[.int .i64 b.node, .int .i64 b.seq]] w fun e w' => e = .returned (.int .i64 (ordDot a b)) ∧ Grew w w' := by
  obtain ⟨h1, h2, h3, h4⟩ := ha
  obtain ⟨k1, k2, k3, k4⟩ := hb
  by_cases he : a.node = b.node
  · have hm : ordDot a b = a.seq - b.seq := by unfold ordDot; rw [if_pos he]
    rw [hm]; clear hm
    go_enter Try.func48, Try.ntmps48
    go_wp2_with fail
    go_ret
    exact ⟨by go_num, ((Grew.refl _).alloc _).alloc _⟩
  · have hm : ordDot a b = a.node - b.node := by unfold ordDot; rw [if_neg he]
    rw [hm]; clear hm
    go_enter Try.func48, Try.ntmps48
    go_wp2_with fail
    go_ret
    exact ⟨by go_num, ((Grew.refl _).alloc _).alloc _⟩
theorem mcells_flat : ∀ (l : List MDot), l.flatMap mcells = (l.map (·.1)).flatMap Dot.cells
  | [] => rfl
  | a :: l => by rw [List.flatMap_cons, List.map_cons, List.flatMap_cons, mcells_flat l]; rfl
theorem lift_may : ∀ (l : List Dot), (∀ d ∈ l, May d) → ∃ m : List MDot, m.map (·.1) = l
  | [], _ => ⟨[], rfl⟩
  | a :: l, h => by
    obtain ⟨m, hm⟩ := lift_may l fun d hd => h d (by simp [hd])
    exact ⟨⟨a, h a (by simp)⟩ :: m, by rw [List.map_cons, hm]⟩
theorem owns_lift {base e : Nat} {w : World} {v : Value} {m : List MDot} : Owns mcells 2 base e w v m ↔ Owns Dot.cells 2 base e w v (m.map (·.1)) := by
  unfold Owns
  rw [mcells_flat, List.length_map]
theorem aggDot : ∀ w, (isAgg 28).run Try.prog w = .ok true w := fun w => by kernel_rfl
theorem sizeDot : ∀ w, (Go.sizeOf 28).run Try.prog w = .ok 2 w := fun w => by kernel_rfl
theorem sortDots_any (base : Nat) (v : Value) (l : List Dot) (w : World) (h : Owns Dot.cells 2 base 28 w v l) (hm : ∀ d ∈ l, May d) (hn : l.Nodup) (hl : l.length ≤ 1000000) :
    Calls Try.prog 47 #[v, .func (.func 48) #[] #[]] w fun e w' => e = .returned (.tuple #[]) ∧ ∃ l', l'.length = l.length ∧ (∀ d, d ∈ l' ↔ d ∈ l) ∧ l'.Pairwise Before ∧ Owns Dot.cells 2 base 28 w' v l' ∧ w.grownBy w' v.ownBlock := by
  have eg : ∀ args w, (callFunc 48 args).run Try.prog w = .ok (.enter 48 args) w := enters_of Try.func48 (by kernel_rfl) rfl
  by_cases he : l = []
  · subst he
    obtain ⟨oa, cap, rfl⟩ := slAt_slice h.at
    refine (AnyF.slices_SortFunc_none (P := Try.prog) (ρ := laysSlLaysF06_ren) laysSlLaysF06 oa cap _ w).mono ?_
    rintro e w' ⟨rfl, rfl⟩
    exact ⟨rfl, [], rfl, fun d => Iff.rfl, List.Pairwise.nil, h, World.grownBy.refl _ _⟩
  · obtain ⟨m, rfl⟩ := lift_may l hm
    have hO := owns_lift.2 h
    obtain ⟨g, cap, hv, hgl⟩ : ∃ g cap, v = .slice (some ⟨g, 0, none⟩) m.length cap ∧ g < w.heap.size := by
      rcases hO.2 with ⟨hv, hn⟩ | ⟨g, cap, cur, hv, hb, hh, _⟩
      · exact absurd (by rw [List.eq_nil_of_length_eq_zero hn]; rfl) he
      · exact ⟨g, cap, hv, (Array.getElem?_eq_some_iff.1 hh).1⟩
    subst hv
    have hH := owns_holds (by decide : 0 < 2) (fun _ => rfl) hO
    have hcmp : CmpLays Try.prog 48 #[] mcells 2 (fun x y : MDot => ordDot x.1 y.1) g 0 m.toArray.size w := fun k os dk _ x y => (walkCmp_any x.1 y.1 x.2 y.2 _).mono fun e w' ⟨h1, q, os', h2⟩ => ⟨h1, q, os', h2⟩
    have hc := AnyQ.slices_SortFunc_total (P := Try.prog) (ρ := laysSlLaysF06_ren) laysSlLaysF06 2 aggDot sizeDot mcells (fun _ => rfl) (fun x => Dot.cells_one x.1) (fun x y : MDot => ordDot x.1 y.1) swo_ord 48 #[] g 0 cap m.toArray w eg hcmp hH hgl (by rw [List.size_toArray]; rw [List.length_map] at hl; omega) total_ord
    rw [List.size_toArray] at hc
    refine hc.mono ?_
    rintro e w' ⟨rfl, n, os, rfl⟩
    have hperm := List.mergeSort_perm m.toArray.toList (fun x y : MDot => !ltOf (fun x y : MDot => ordDot x.1 y.1) y x)
    have hsorted := List.pairwise_mergeSort (le := fun x y : MDot => !ltOf (fun x y : MDot => ordDot x.1 y.1) y x) (fun a b c h1 h2 => by
      rw [ltOf_ord] at *
      simp only [Bool.not_eq_true', decide_eq_false_iff_not] at *
      unfold Before at *; omega) (fun a b => by
      rw [ltOf_ord, ltOf_ord]
      simp only [Bool.or_eq_true, Bool.not_eq_true', decide_eq_false_iff_not]
      unfold Before; omega) m.toArray.toList
    generalize hr : m.toArray.toList.mergeSort (fun x y : MDot => !ltOf (fun x y : MDot => ordDot x.1 y.1) y x) = r at *
    have hpm : r.Perm m := hperm
    have hmem : ∀ d, d ∈ r.map (·.1) ↔ d ∈ m.map (·.1) := fun d => (hpm.map (·.1)).mem_iff
    have hnd : (r.map (·.1)).Nodup := (hpm.map (·.1)).nodup_iff.2 hn
    have hown := owns_sorted (os := os) (c := n) (by decide : 0 < 2) (fun _ => rfl) hO r.toArray (by rw [List.size_toArray]; exact hpm.length_eq)
    refine ⟨rfl, r.map (·.1), by rw [List.length_map, List.length_map]; exact hpm.length_eq, hmem, ?_, owns_lift.1 hown, grownBy_sort _⟩
    rw [List.pairwise_map]
    have hnd2 : r.Pairwise fun a b => a.1 ≠ b.1 := List.pairwise_map.1 hnd
    refine (hsorted.and hnd2).imp fun {a b} ⟨h1, h2⟩ => ?_
    rw [ltOf_ord] at h1
    simp only [Bool.not_eq_true', decide_eq_false_iff_not] at h1
    obtain ⟨⟨a1, a2⟩, _⟩ := a
    obtain ⟨⟨b1, b2⟩, _⟩ := b
    unfold Before at *
    simp only [ne_eq, Dot.mk.injEq] at h1 h2 ⊢
    omega
end Go.Proofs.Ytidiapgdgoeplaa
