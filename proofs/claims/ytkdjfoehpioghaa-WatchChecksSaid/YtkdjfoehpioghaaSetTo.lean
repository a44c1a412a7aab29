/-
  A set of the laws turned to a set of the program: (murmurlaw06.Set).To walked.
-/
import Derived.Test.YtkdjfoehpioghaaSetRow
import Derived.Test.YtkdjfoehpioghaaStep
namespace Go.Proofs.Ytkdjfoehpioghaa
open Go.Shelf Go.RowKit Go.Lib Go.Sort
set_option linter.unusedVariables false
set_option maxHeartbeats 8000000 in
theorem setTo_any (oa : Option Addr) (cap : Nat) (s : DSet) (w : World) (h : SlAt Dot.cells w (.slice oa s.more.length cap) s.more) (hl : s.more.length ≤ 1000000) :
    Calls Try.prog 18 #[.agg #[.int .i64 (s.u 0), .int .i64 (s.u 1), .int .i64 (s.u 2), .int .i64 (s.u 3), .int .i64 (s.u 4), .int .i64 (s.u 5), .int .i64 (s.u 6), .int .i64 (s.u 7), .slice oa s.more.length cap]] w fun e w' => ∃ hd : Hdr, e = .returned (.agg (qcells (hd, s)).toArray) ∧ Owns Dot.cells 2 w.heap.size 77 w' hd.val s.more ∧ Below w.heap.size w w' := by
  obtain ⟨r0, r1, hb2, hs2⟩ := alloc2 w (.cells #[.int .i64 (s.u 0), .int .i64 (s.u 1), .int .i64 (s.u 2), .int .i64 (s.u 3), .int .i64 (s.u 4), .int .i64 (s.u 5), .int .i64 (s.u 6), .int .i64 (s.u 7), .slice oa s.more.length cap] 59) (.cells #[.int .i64 0, .int .i64 0, .int .i64 0, .int .i64 0, .int .i64 0, .int .i64 0, .int .i64 0, .int .i64 0, .slice none 0 0] 38)
  have hsl := h.below Dot.cells_len (by decide) hb2 (Nat.le_refl _)
  have R0 := Lib.hid r0
  have R1 := Lib.hid r1
  have HB2 := Lib.hid hb2
  have HSL := Lib.hid hsl
  clear r0 r1 hb2 hsl h
  go_enter Try.func18, Try.ntmps18
  go_wp2_with fail
  generalize ((w.alloc (.cells #[.int .i64 (s.u 0), .int .i64 (s.u 1), .int .i64 (s.u 2), .int .i64 (s.u 3), .int .i64 (s.u 4), .int .i64 (s.u 5), .int .i64 (s.u 6), .int .i64 (s.u 7), .slice oa s.more.length cap] 59)).alloc (.cells #[.int .i64 0, .int .i64 0, .int .i64 0, .int .i64 0, .int .i64 0, .int .i64 0, .int .i64 0, .int .i64 0, .slice none 0 0] 38)) = w2 at *
  have q0 : ∀ o, w2.drew.cell? ⟨w.heap.size, o, none⟩ = (#[.int .i64 (s.u 0), .int .i64 (s.u 1), .int .i64 (s.u 2), .int .i64 (s.u 3), .int .i64 (s.u 4), .int .i64 (s.u 5), .int .i64 (s.u 6), .int .i64 (s.u 7), .slice oa s.more.length cap] : Array Value)[o]? := fun o => by
    have : w2.drew.heap[w.heap.size]? = _ := R0.out
    unfold World.cell?; rw [this]; rfl
  have q1 : ∀ o, (w2.alloc (.cells #[] 77)).drew.cell? ⟨w.heap.size, o, none⟩ = (#[.int .i64 (s.u 0), .int .i64 (s.u 1), .int .i64 (s.u 2), .int .i64 (s.u 3), .int .i64 (s.u 4), .int .i64 (s.u 5), .int .i64 (s.u 6), .int .i64 (s.u 7), .slice oa s.more.length cap] : Array Value)[o]? := fun o => by
    have : (w2.alloc (.cells #[] 77)).drew.heap[w.heap.size]? = _ := (Below.heap_alloc w2 (.cells #[] 77) w.heap.size (by omega)).trans R0.out
    unfold World.cell?; rw [this]; rfl
  have HOM : Hid (Owns Dot.cells 2 (w.heap.size + 2) 77 (w2.alloc (.cells #[] 77)).drew (.slice (some ⟨w.heap.size + 2, 0, none⟩) 0 0) []) := (owns_made w2 _ hs2).below (below_drew (Below.refl _ _)) (Nat.le_refl _)
  have HSM : Hid (SlAt Dot.cells (w2.alloc (.cells #[] 77)).drew (.slice oa s.more.length cap) s.more) := HSL.out.below Dot.cells_len (by decide) (below_drew ((Below.refl _ _).alloc (Nat.le_refl _) _)) (Nat.le_refl _)
  have HBA : Hid (w.heap.size + 2 ≤ (w2.alloc (.cells #[] 77)).drew.heap.size) := by show _ ≤ (w2.alloc _).heap.size; rw [World.size_alloc]; omega
  go_region_law (first
    | (refine step_app Dot.cells 2 Dot.cells_len (by decide) Dot.cells_one _ rfl _ _ 23 rfl (w.heap.size + 2) 77 _ 16 Try.underlying23 infoDot rfl (.slice (some ⟨w.heap.size + 2, 0, none⟩) 0 0) [] rfl HOM.out (.slice oa s.more.length cap) s.more rfl HSM.out (by simp only [List.length_nil]; omega) (by simp only [List.length_nil]; omega) HBA.out ?_
       intro v7 w7 h7 hg7 hv7
       have hex : ∃ h : Hdr, v7 = h.val := hdr_of_slAt h7.at
       obtain ⟨⟨o7, n7, q7⟩, hvv⟩ := hex
       simp only [Hdr.val] at hvv
       subst hvv
       have hr7 : SetRow w7 (w.heap.size + 1) ⟨none, 0, 0⟩ DSet.none := (hg7.block _ (by show _ < (w2.alloc _).heap.size; rw [World.size_alloc]; omega) (fun e => by simp [Value.ownBlock] at e)).trans ((Below.heap_alloc w2 (.cells #[] 77) _ (by omega)).trans R1.out)
       have q7 : ∀ o, w7.cell? ⟨w.heap.size, o, none⟩ = (#[.int .i64 (s.u 0), .int .i64 (s.u 1), .int .i64 (s.u 2), .int .i64 (s.u 3), .int .i64 (s.u 4), .int .i64 (s.u 5), .int .i64 (s.u 6), .int .i64 (s.u 7), .slice oa s.more.length cap] : Array Value)[o]? := fun o => by
         have : w7.heap[w.heap.size]? = _ := (hg7.block _ (by show _ < (w2.alloc _).heap.size; rw [World.size_alloc]; omega) (fun e => by simp [Value.ownBlock] at e)).trans ((Below.heap_alloc w2 (.cells #[] 77) _ (by omega)).trans R0.out)
         unfold World.cell?; rw [this]; rfl
       have z7 := hr7.free
       obtain ⟨k0, k1, k2, k3, k4, k5, k6, k7, k8⟩ := hr7.cells
       simp only [Hdr.val] at k8
       have hb7 : Below w.heap.size w w7 := (HB2.out.trans ((below_drew ((Below.refl w2.heap.size w2).alloc (Nat.le_refl _) (.cells #[] 77))).mono (by omega))).grown hg7 (by show _ ≤ (w2.alloc _).heap.size; rw [World.size_alloc]; omega) (fun k hk => by simp [Value.ownBlock] at hk; omega)
       have HR7 := Lib.hid hr7
       have HO7 := Lib.hid h7
       have HB7 := Lib.hid hb7
       clear hr7 h7 hg7 hv7 hb7))
  all_goals
    clear q0 q1 q7
    go_wp2_with fail
    have hrow := HR7.out.put9 ⟨o7, n7, q7⟩ s
    have hgr := grown_put9 (World.grownBy.refl w7 (some (w.heap.size + 1))) s (.slice o7 n7 q7)
    obtain ⟨m0, m1, m2, m3, m4, m5, m6, m7, m8⟩ := hrow.cells
    simp only [Hdr.val] at m0 m1 m2 m3 m4 m5 m6 m7 m8
    clear k0 k1 k2 k3 k4 k5 k6 k7 k8
    exact bodyPost_ret (v := .agg (qcells (⟨o7, n7, q7⟩, s)).toArray) (by simp [results, Try.results18, go_sem, m0, m1, m2, m3, m4, m5, m6, m7, m8, qcells, Hdr.val]) rfl ⟨⟨o7, n7, q7⟩, rfl, (HO7.out.past hgr (by omega)).lower (by omega), HB7.out.grown hgr HB7.out.size (fun k hk => by cases hk; omega)⟩
end Go.Proofs.Ytkdjfoehpioghaa
