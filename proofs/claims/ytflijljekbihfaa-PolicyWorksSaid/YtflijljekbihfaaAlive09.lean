/-
  The document's examples of layer 9: alive() is true.
-/
import Derived.Test.YtflijljekbihfaaWin
import Derived.Test.YtflijljekbihfaaAsk
namespace Go.Proofs.Ytflijljekbihfaa
open Go.Shelf Go.RowKit Go.Lib Go.Sort
set_option linter.unusedVariables false
def polA : Pol := ⟨1, 4, 10, 0, 1, 1, 0⟩
def evA : Ev := ⟨⟨0, 0⟩, 1, 2, 0, 0, ⟨0, 0, 0, 0, 0, 0, 0⟩, []⟩
def evB : Ev := ⟨⟨0, 0⟩, 2, 2, 0, 0, polA, []⟩
theorem asked_25 : asked polA 25 = (3, 0) := by decide
theorem asked_0 : asked polA 0 = (1, 0) := by decide
theorem asked_99 : asked polA 99 = (4, 0) := by decide
theorem asked_no : asked ⟨0, 0, 0, 0, 0, 0, 0⟩ 1 = (0, 2) := by decide

theorem stable_two : stableOf evLater [evA, evB] [evB, evA] := by
  refine ⟨?_, ?_⟩
  · refine List.Pairwise.cons (fun x hx => ?_) (List.Pairwise.cons (fun x hx => by cases hx) List.Pairwise.nil)
    obtain rfl : x = evA := by simpa using hx
    decide
  · exact stabL_cross swo_evLater [] [evA] [evB] [] (fun x hx y hy => by
      obtain rfl : x = evA := by simpa using hx
      obtain rfl : y = evB := by simpa using hy
      decide)

set_option maxHeartbeats 4000000 in
theorem alive09 (w : World) : Calls Try.prog 5 #[] w fun e w' => e = .returned (.bool true) ∧ RowKit.Below w.heap.size w w' := by
  have a1 := policyAsked_any polA 25
  have a2 := policyAsked_any polA 0
  have a3 := policyAsked_any polA 99
  have a4 := policyAsked_any ⟨0, 0, 0, 0, 0, 0, 0⟩ 1
  rw [asked_25] at a1
  rw [asked_0] at a2
  rw [asked_99] at a3
  rw [asked_no] at a4
  have A1 := Lib.hid a1
  have A2 := Lib.hid a2
  have A3 := Lib.hid a3
  have A4 := Lib.hid a4
  clear a1 a2 a3 a4
  go_enter Try.func5, Try.ntmps5
  go_wp2_with fail
  refine (A1.out _).mono ?_
  rintro e w1 ⟨rfl, hb1⟩
  obtain ⟨hcell1, hfr1⟩ := bcell hb1
  have hz1 : w.heap.size < w1.heap.size := by have := hb1.size; simp at this; omega
  have HB1 := Lib.hid hb1
  clear hb1
  go_wp2_with fail
  refine (A2.out _).mono ?_
  rintro e w2 ⟨rfl, hb2⟩
  obtain ⟨hcell2, hfr2⟩ := bcell hb2
  have hz2 : w.heap.size < w2.heap.size := by have := hb2.size; omega
  have HB2 := Lib.hid hb2
  clear hb2
  go_wp2_with fail
  refine (A3.out _).mono ?_
  rintro e w3 ⟨rfl, hb3⟩
  obtain ⟨hcell3, hfr3⟩ := bcell hb3
  have hz3 : w.heap.size < w3.heap.size := by have := hb3.size; omega
  have HB3 := Lib.hid hb3
  clear hb3
  go_wp2_with fail
  refine (A4.out _).mono ?_
  rintro e w4 ⟨rfl, hb4⟩
  obtain ⟨hcell4, hfr4⟩ := bcell hb4
  have hz4 : w.heap.size < w4.heap.size := by have := hb4.size; omega
  have HB4 := Lib.hid hb4
  clear hb4
  go_wp2_with fail
  have hevs : EvsAt (w4.alloc (.cells (pcells (⟨none, 0, 0⟩, evA) ++ pcells (⟨none, 0, 0⟩, evB)).toArray 34)) (.slice (some ⟨w4.heap.size, 0, none⟩) 2 2) [(⟨none, 0, 0⟩, evA), (⟨none, 0, 0⟩, evB)] :=
    ⟨slAt_new _ _ _ 2 2 _ _ rfl rfl (Nat.le_refl _), fun p hp => by
      simp only [List.mem_cons, List.not_mem_nil, or_false] at hp
      rcases hp with rfl | rfl <;> exact SlAt.nil _ _⟩
  refine (winner_any (some ⟨w4.heap.size, 0, none⟩) 2 [(⟨none, 0, 0⟩, evA), (⟨none, 0, 0⟩, evB)] 0 _ hevs (by decide) (fun p hp => by
      simp only [List.mem_cons, List.not_mem_nil, or_false] at hp
      rcases hp with rfl | rfl <;> decide)).mono ?_
  rintro e w5 ⟨l, hl, rfl, hb5⟩
  have hle : l = [evB, evA] := sorted_unique swo_evLater _ _ stable_two.1 hl.1 (fun x => by rw [stable_two.2 x]; exact hl.2 x)
  subst hle
  obtain ⟨hcell5, hfr5⟩ := bcell hb5
  have hz5 : w.heap.size < w5.heap.size := by have := hb5.size; simp at this; omega
  have HB5 := Lib.hid hb5
  clear hb5 hl hevs
  simp only [winV, evB, polA]
  go_wp2_with fail
  go_ret
  refine ⟨rfl, ?_⟩
  have b1 := ((RowKit.Below.refl w.heap.size w).alloc (Nat.le_refl _) _).trans (HB1.out.mono (by simp))
  have b2 := b1.trans (HB2.out.mono b1.size)
  have b3 := b2.trans (HB3.out.mono b2.size)
  have b4 := b3.trans (HB4.out.mono b3.size)
  have b5 := (b4.alloc b4.size _).trans (HB5.out.mono (by have := b4.size; simp; omega))
  clear hcell1 hcell2 hcell3 hcell4 hcell5 hfr1 hfr2 hfr3 hfr4 hfr5 b1 b2 b3 b4
  go_grown
end Go.Proofs.Ytflijljekbihfaa
