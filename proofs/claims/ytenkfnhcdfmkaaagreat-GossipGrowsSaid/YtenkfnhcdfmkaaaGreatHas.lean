/-
  dotset.Has walked, of a dot that may be.
-/
import Derived.Test.YtenkfnhcdfmkaaaGreatMDotList
import Derived.Test.YtenkfnhcdfmkaaaGreatMBookQ
import Derived.Test.YtenkfnhcdfmkaaaGreatMStep
namespace Go.Proofs.YtenkfnhcdfmkaaaGreat
open Go.Shelf Go.RowKit Go.Lib Go.Sort
set_option linter.unusedVariables false
set_option maxHeartbeats 8000000 in
theorem dhas_any (oa : Option Addr) (cap : Nat) (s : DSet) (d : Dot) (hm : May d) (w : World) (h : SlAt Dot.cells w (.slice oa s.more.length cap) s.more) (hl : s.more.length ≤ 1000000) :
    Calls Tryz.prog 14 #[.agg #[.int .i64 (s.u 0), .int .i64 (s.u 1), .int .i64 (s.u 2), .int .i64 (s.u 3), .int .i64 (s.u 4), .int .i64 (s.u 5), .int .i64 (s.u 6), .int .i64 (s.u 7), .slice oa s.more.length cap], .agg #[.int .i64 d.node, .int .i64 d.seq]] w fun e w' => e = .returned (.bool (s.grid d.node.toNat d.seq.toNat)) ∧ Below w.heap.size w w' := by
  have hmay := fun W => may_any d W
  simp only [show mayB d = true from decide_eq_true hm] at hmay
  obtain ⟨r0, r1, hb2, hs2⟩ := alloc2 w (.cells #[.int .i64 (s.u 0), .int .i64 (s.u 1), .int .i64 (s.u 2), .int .i64 (s.u 3), .int .i64 (s.u 4), .int .i64 (s.u 5), .int .i64 (s.u 6), .int .i64 (s.u 7), .slice oa s.more.length cap] 48) (.cells #[.int .i64 d.node, .int .i64 d.seq] 40)
  have hsl := h.below Dot.cells_len (by decide) hb2 (Nat.le_refl _)
  have R0 := Lib.hid r0
  have R1 := Lib.hid r1
  have HB2 := Lib.hid hb2
  have HSL := Lib.hid hsl
  have HM := Lib.hid hmay
  clear r0 r1 hb2 hsl h hmay
  go_enter Tryz.func14, Tryz.ntmps14
  go_wp2_with fail
  generalize ((w.alloc (.cells #[.int .i64 (s.u 0), .int .i64 (s.u 1), .int .i64 (s.u 2), .int .i64 (s.u 3), .int .i64 (s.u 4), .int .i64 (s.u 5), .int .i64 (s.u 6), .int .i64 (s.u 7), .slice oa s.more.length cap] 48)).alloc (.cells #[.int .i64 d.node, .int .i64 d.seq] 40)) = w2 at *
  have a0 : w2.drew.cell? ⟨w.heap.size + 1, 0, none⟩ = some (.int .i64 d.node) := cell_of_row w2.drew _ 0 _ _ _ R1.out
  have a1 : w2.drew.cell? ⟨w.heap.size + 1, 1, none⟩ = some (.int .i64 d.seq) := cell_of_row w2.drew _ 1 _ _ _ R1.out
  unfold May at hm
  obtain ⟨hm1, hm2, hm3, hm4⟩ := hm
  have hm5 : d.seq < 98 := by omega
  have hm6 : 0 ≤ d.seq := by omega
  have hm7 : ¬ d.node < 0 := by omega
  have hm8 : ¬ d.seq < 0 := by omega
  go_region_law (first
    | (go_simp
       refine (HM.out _).mono ?_
       rintro e w3 ⟨rfl, hg3⟩
       have hb3 : Below w2.heap.size w2 w3 := (below_drew (Below.refl _ _)).trans hg3.below
       have hz3 := hb3.size
       have q0 := (hb3.block _ (by omega)).trans R0.out
       have q1 := (hb3.block _ (by omega)).trans R1.out
       have sA : ∀ o, w3.cell? ⟨w.heap.size, o, none⟩ = (#[.int .i64 (s.u 0), .int .i64 (s.u 1), .int .i64 (s.u 2), .int .i64 (s.u 3), .int .i64 (s.u 4), .int .i64 (s.u 5), .int .i64 (s.u 6), .int .i64 (s.u 7), .slice oa s.more.length cap] : Array Value)[o]? := fun o => by unfold World.cell?; rw [q0]; rfl
       have b0 : w3.cell? ⟨w.heap.size + 1, 0, none⟩ = some (.int .i64 d.node) := cell_of_row w3 _ 0 _ _ _ q1
       have b1 : w3.cell? ⟨w.heap.size + 1, 1, none⟩ = some (.int .i64 d.seq) := cell_of_row w3 _ 1 _ _ _ q1
       have q2 := (Below.heap_alloc w3 (.cells #[.int .i64 (s.u 0), .int .i64 (s.u 1), .int .i64 (s.u 2), .int .i64 (s.u 3), .int .i64 (s.u 4), .int .i64 (s.u 5), .int .i64 (s.u 6), .int .i64 (s.u 7), .slice oa s.more.length cap] 48) (w.heap.size + 1) (by omega)).trans q1
       have c0 := cell_of_row _ (w.heap.size + 1) 0 _ _ _ q2
       have c1 := cell_of_row _ (w.heap.size + 1) 1 _ _ _ q2
       have hof := of_one oa cap s w3 (HSL.out.below Dot.cells_len (by decide) hb3 (Nat.le_refl _)) hl
       have HOF := Lib.hid hof
       have Q1 := Lib.hid q1
       have HB3 := Lib.hid (HB2.out.trans (hb3.mono (by omega)))
       clear hof q0 q1 q2 hb3 hg3)
    | (go_simp
       refine HOF.out.mono ?_
       rintro e w4 ⟨gb, rfl, hgb, hgr, hb4⟩
       have q4 := (hb4.block _ (by omega)).trans Q1.out
       have e0 : w4.cell? ⟨w.heap.size + 1, 0, none⟩ = some (.int .i64 d.node) := cell_of_row w4 _ 0 _ _ _ q4
       have e1 : w4.cell? ⟨w.heap.size + 1, 1, none⟩ = some (.int .i64 d.seq) := cell_of_row w4 _ 1 _ _ _ q4
       have gc := hgr.cell d.node.toNat d.seq.toNat (by omega) (by omega)
       have HB4 := Lib.hid (HB3.out.trans (hb4.mono (by omega)))
       clear q4 hgr hb4))
  all_goals
    go_wp2_with fail
    go_ret
    exact ⟨rfl, HB4.out⟩
end Go.Proofs.YtenkfnhcdfmkaaaGreat
