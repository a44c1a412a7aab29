/-
  murmurlaw10: sample, and the document's example: alive() is true.
-/
import Derived.Test.YtfbbafmklahmmaaMean
namespace Go.Proofs.Ytfbbafmklahmmaa
open Go.Shelf Go.RowKit Go.Lib Go.Sort
set_option linter.unusedVariables false
def sampleEv (node seq value : Int) : Ev := ⟨⟨node, seq⟩, 1, 1, 0, value, ⟨0, 0, 0, 0, 0, 0, 0⟩, []⟩
set_option maxHeartbeats 4000000 in
theorem sample_any (node seq value : Int) (w : World) : Calls Try.prog 20 #[.int .i64 node, .int .i64 seq, .int .i64 value] w fun e w' => e = .returned (.agg #[.int .i64 node, .int .i64 seq, .int .i64 1, .int .i64 1, .int .i64 0, .int .i64 value, .int .i64 0, .int .i64 0, .int .i64 0, .int .i64 0, .int .i64 0, .int .i64 0, .int .i64 0, .slice none 0 0]) ∧ Below w.heap.size w w' := by
  go_enter Try.func20, Try.ntmps20
  go_wp2_with fail
  refine bodyPost_ret (v := .agg #[.int .i64 node, .int .i64 seq, .int .i64 1, .int .i64 1, .int .i64 0, .int .i64 value, .int .i64 0, .int .i64 0, .int .i64 0, .int .i64 0, .int .i64 0, .int .i64 0, .int .i64 0, .slice none 0 0]) (by simp [results, Try.results20, go_sem]) rfl ⟨rfl, ?_⟩
  have h := Below.refl w.heap.size w
  go_grown
def evs10 : List Ev := [sampleEv 1 1 4, sampleEv 1 2 7, sampleEv 1 3 8, sampleEv 2 1 1]
theorem mean10 : meanOf (winOf evs10 0 1 2) = (8, 0) := by decide +kernel
theorem load10 : loadOf evs10 0 2 = ((9, 2), 0) := by decide +kernel
theorem load10' : loadOf evs10 0 0 = ((0, 0), 2) := by decide +kernel
def pevs10 : List PEv := evs10.map fun e => (⟨none, 0, 0⟩, e)
theorem pevs10_map : pevs10.map (·.2) = evs10 := rfl
theorem rem_nil {ps : List PEv} (h : ∀ p ∈ ps, p.2.rem = []) : ∀ p ∈ ps, p.2.rem.length ≤ 1000000 := fun p hp => by rw [h p hp]; exact Nat.zero_le _
theorem pevs10_rem : ∀ p ∈ pevs10, p.2.rem = [] := by
  intro p hp
  simp only [pevs10, evs10, List.map_cons, List.map_nil, List.mem_cons, List.not_mem_nil, or_false] at hp
  rcases hp with rfl | rfl | rfl | rfl <;> rfl
theorem pevs10_hdr : ∀ p ∈ pevs10, p.1.val = .slice none 0 0 := by
  intro p hp
  simp only [pevs10, evs10, List.map_cons, List.map_nil, List.mem_cons, List.not_mem_nil, or_false] at hp
  rcases hp with rfl | rfl | rfl | rfl <;> rfl
theorem remsAt_nil {w : World} {ps : List PEv} (h1 : ∀ p ∈ ps, p.1.val = .slice none 0 0) (h2 : ∀ p ∈ ps, p.2.rem = []) : RemsAt w ps := fun p hp => by rw [h1 p hp, h2 p hp]; exact SlAt.nil _ _

set_option maxHeartbeats 4000000 in
theorem alive10 (w : World) : Calls Try.prog 10 #[] w fun e w' => e = .returned (.bool true) ∧ RowKit.Below w.heap.size w w' := by
  go_enter Try.func10, Try.ntmps10
  go_wp2_with fail
  refine (sample_any 1 1 4 _).mono ?_
  rintro e w1 ⟨rfl, hb1⟩
  have HB1 := Lib.hid hb1
  clear hb1
  go_wp2_with fail
  refine (sample_any 1 2 7 _).mono ?_
  rintro e w2 ⟨rfl, hb2⟩
  have HB2 := Lib.hid hb2
  clear hb2
  go_wp2_with fail
  refine (sample_any 1 3 8 _).mono ?_
  rintro e w3 ⟨rfl, hb3⟩
  have HB3 := Lib.hid hb3
  clear hb3
  go_wp2_with fail
  refine (sample_any 2 1 1 _).mono ?_
  rintro e w4 ⟨rfl, hb4⟩
  have HB4 := Lib.hid hb4
  clear hb4
  go_wp2_with fail
  have hb : RowKit.Below w.heap.size w w4 := by
    have b2 := HB1.out.trans (HB2.out.mono HB1.out.size)
    have b3 := b2.trans (HB3.out.mono b2.size)
    exact b3.trans (HB4.out.mono b3.size)
  have hevs : EvsAt (w4.alloc (.cells (pevs10.flatMap pcells).toArray 46)) (.slice (some ⟨w4.heap.size, 0, none⟩) pevs10.length 4) pevs10 :=
    ⟨slAt_new _ _ _ pevs10.length 4 _ _ (by simp) rfl (by decide), remsAt_nil pevs10_hdr pevs10_rem⟩
  have hB : RowKit.Below w.heap.size w (w4.alloc (.cells (pevs10.flatMap pcells).toArray 46)) := hb.alloc hb.size _
  have hm := mean_any (some ⟨w4.heap.size, 0, none⟩) 4 pevs10 0 1 2
  have hl := load_any (some ⟨w4.heap.size, 0, none⟩) 4 pevs10 0 2
  have hl' := load_any (some ⟨w4.heap.size, 0, none⟩) 4 pevs10 0 0
  rw [pevs10_map] at hm hl hl'
  rw [mean10] at hm
  rw [load10] at hl
  rw [load10'] at hl'
  have HM := Lib.hid hm
  have HL := Lib.hid hl
  have HL' := Lib.hid hl'
  have HE := Lib.hid hevs
  have HBB := Lib.hid hB
  clear hm hl hl' hevs hB hb
  refine (HM.out _ HE.out (by decide) (rem_nil pevs10_rem)).mono ?_
  rintro e w5 ⟨rfl, hb5⟩
  have e5 := HE.out.below hb5 (Nat.le_refl _)
  have b5 := HBB.out.trans (hb5.mono HBB.out.size)
  have HE5 := Lib.hid e5
  have HB5 := Lib.hid b5
  clear hb5 e5 b5
  go_wp2_with fail
  refine (HL.out _ HE5.out (by decide) (rem_nil pevs10_rem)).mono ?_
  rintro e w6 ⟨rfl, hb6⟩
  have e6 := HE5.out.below hb6 (Nat.le_refl _)
  have b6 := HB5.out.trans (hb6.mono HB5.out.size)
  have HE6 := Lib.hid e6
  have HB6 := Lib.hid b6
  clear hb6 e6 b6
  go_wp2_with fail
  refine (HL'.out _ HE6.out (by decide) (rem_nil pevs10_rem)).mono ?_
  rintro e w7 ⟨rfl, hb7⟩
  have b7 := HB6.out.trans (hb7.mono HB6.out.size)
  have HB7 := Lib.hid b7
  clear hb7 b7
  go_wp2_with fail
  go_ret
  exact ⟨rfl, HB7.out⟩
end Go.Proofs.Ytfbbafmklahmmaa
