/-
  (*gossip.Gossip).digest walked: what was seen, as a message.
-/
import Derived.Test.YtenkfnhcdfmkaaaGreatGos
namespace Go.Proofs.YtenkfnhcdfmkaaaGreat
open Go.RowKit Go.Lib Go.Shelf
set_option linter.unusedVariables false
set_option linter.unusedSimpArgs false
theorem drew_row (a : World) {b : Nat} {o : Option Go.Obj} (h : a.heap[b]? = o) : a.drew.heap[b]? = o := h
theorem grown_drewn {a b : World} {row : Option Nat} (h : a.grownBy b row) : a.grownBy b.drew row := ⟨h.os, h.tape, h.output, h.size, h.block⟩
theorem set16 {W : World} {b : Nat} {t : TypeId} {x0 x1 x2 x3 x4 x5 x6 x7 x8 x9 x10 x11 x12 x13 x14 x15 : Value} (h : W.heap[b]? = some (.cells #[x0, x1, x2, x3, x4, x5, x6, x7, x8, x9, x10, x11, x12, x13, x14, x15] t)) (a0 a1 a2 a3 a4 a5 a6 a7 a8 a9 a10 a11 a12 a13 a14 a15 : Value) :
  ((((((((((((((((W.setCell ⟨b, 0, none⟩ a0).setCell ⟨b, 1, none⟩ a1).setCell ⟨b, 2, none⟩ a2).setCell ⟨b, 3, none⟩ a3).setCell ⟨b, 4, none⟩ a4).setCell ⟨b, 5, none⟩ a5).setCell ⟨b, 6, none⟩ a6).setCell ⟨b, 7, none⟩ a7).setCell ⟨b, 8, none⟩ a8).setCell ⟨b, 9, none⟩ a9).setCell ⟨b, 10, none⟩ a10).setCell ⟨b, 11, none⟩ a11).setCell ⟨b, 12, none⟩ a12).setCell ⟨b, 13, none⟩ a13).setCell ⟨b, 14, none⟩ a14).setCell ⟨b, 15, none⟩ a15).drew.heap[b]? = some (.cells #[a0, a1, a2, a3, a4, a5, a6, a7, a8, a9, a10, a11, a12, a13, a14, a15] t) ∧ W.grownBy ((((((((((((((((W.setCell ⟨b, 0, none⟩ a0).setCell ⟨b, 1, none⟩ a1).setCell ⟨b, 2, none⟩ a2).setCell ⟨b, 3, none⟩ a3).setCell ⟨b, 4, none⟩ a4).setCell ⟨b, 5, none⟩ a5).setCell ⟨b, 6, none⟩ a6).setCell ⟨b, 7, none⟩ a7).setCell ⟨b, 8, none⟩ a8).setCell ⟨b, 9, none⟩ a9).setCell ⟨b, 10, none⟩ a10).setCell ⟨b, 11, none⟩ a11).setCell ⟨b, 12, none⟩ a12).setCell ⟨b, 13, none⟩ a13).setCell ⟨b, 14, none⟩ a14).setCell ⟨b, 15, none⟩ a15).drew (some b) := by
 have h0 : _ = some (Go.Obj.cells #[a0, x1, x2, x3, x4, x5, x6, x7, x8, x9, x10, x11, x12, x13, x14, x15] t) := heap_cellSame _ b 0 _ _ a0 h
 have h1 : _ = some (Go.Obj.cells #[a0, a1, x2, x3, x4, x5, x6, x7, x8, x9, x10, x11, x12, x13, x14, x15] t) := heap_cellSame _ b 1 _ _ a1 h0
 have h2 : _ = some (Go.Obj.cells #[a0, a1, a2, x3, x4, x5, x6, x7, x8, x9, x10, x11, x12, x13, x14, x15] t) := heap_cellSame _ b 2 _ _ a2 h1
 have h3 : _ = some (Go.Obj.cells #[a0, a1, a2, a3, x4, x5, x6, x7, x8, x9, x10, x11, x12, x13, x14, x15] t) := heap_cellSame _ b 3 _ _ a3 h2
 have h4 : _ = some (Go.Obj.cells #[a0, a1, a2, a3, a4, x5, x6, x7, x8, x9, x10, x11, x12, x13, x14, x15] t) := heap_cellSame _ b 4 _ _ a4 h3
 have h5 : _ = some (Go.Obj.cells #[a0, a1, a2, a3, a4, a5, x6, x7, x8, x9, x10, x11, x12, x13, x14, x15] t) := heap_cellSame _ b 5 _ _ a5 h4
 have h6 : _ = some (Go.Obj.cells #[a0, a1, a2, a3, a4, a5, a6, x7, x8, x9, x10, x11, x12, x13, x14, x15] t) := heap_cellSame _ b 6 _ _ a6 h5
 have h7 : _ = some (Go.Obj.cells #[a0, a1, a2, a3, a4, a5, a6, a7, x8, x9, x10, x11, x12, x13, x14, x15] t) := heap_cellSame _ b 7 _ _ a7 h6
 have h8 : _ = some (Go.Obj.cells #[a0, a1, a2, a3, a4, a5, a6, a7, a8, x9, x10, x11, x12, x13, x14, x15] t) := heap_cellSame _ b 8 _ _ a8 h7
 have h9 : _ = some (Go.Obj.cells #[a0, a1, a2, a3, a4, a5, a6, a7, a8, a9, x10, x11, x12, x13, x14, x15] t) := heap_cellSame _ b 9 _ _ a9 h8
 have h10 : _ = some (Go.Obj.cells #[a0, a1, a2, a3, a4, a5, a6, a7, a8, a9, a10, x11, x12, x13, x14, x15] t) := heap_cellSame _ b 10 _ _ a10 h9
 have h11 : _ = some (Go.Obj.cells #[a0, a1, a2, a3, a4, a5, a6, a7, a8, a9, a10, a11, x12, x13, x14, x15] t) := heap_cellSame _ b 11 _ _ a11 h10
 have h12 : _ = some (Go.Obj.cells #[a0, a1, a2, a3, a4, a5, a6, a7, a8, a9, a10, a11, a12, x13, x14, x15] t) := heap_cellSame _ b 12 _ _ a12 h11
 have h13 : _ = some (Go.Obj.cells #[a0, a1, a2, a3, a4, a5, a6, a7, a8, a9, a10, a11, a12, a13, x14, x15] t) := heap_cellSame _ b 13 _ _ a13 h12
 have h14 : _ = some (Go.Obj.cells #[a0, a1, a2, a3, a4, a5, a6, a7, a8, a9, a10, a11, a12, a13, a14, x15] t) := heap_cellSame _ b 14 _ _ a14 h13
 have h15 : _ = some (Go.Obj.cells #[a0, a1, a2, a3, a4, a5, a6, a7, a8, a9, a10, a11, a12, a13, a14, a15] t) := heap_cellSame _ b 15 _ _ a15 h14
 refine ⟨drew_row _ h15, ?_⟩
 have hg : W.grownBy ((((((((((((((((W.setCell ⟨b, 0, none⟩ a0).setCell ⟨b, 1, none⟩ a1).setCell ⟨b, 2, none⟩ a2).setCell ⟨b, 3, none⟩ a3).setCell ⟨b, 4, none⟩ a4).setCell ⟨b, 5, none⟩ a5).setCell ⟨b, 6, none⟩ a6).setCell ⟨b, 7, none⟩ a7).setCell ⟨b, 8, none⟩ a8).setCell ⟨b, 9, none⟩ a9).setCell ⟨b, 10, none⟩ a10).setCell ⟨b, 11, none⟩ a11).setCell ⟨b, 12, none⟩ a12).setCell ⟨b, 13, none⟩ a13).setCell ⟨b, 14, none⟩ a14).setCell ⟨b, 15, none⟩ a15) (some b) := (grown_set (grown_set (grown_set (grown_set (grown_set (grown_set (grown_set (grown_set (grown_set (grown_set (grown_set (grown_set (grown_set (grown_set (grown_set (grown_set (World.grownBy.refl W (some b)) a0) a1) a2) a3) a4) a5) a6) a7) a8) a9) a10) a11) a12) a13) a14) a15)
 exact grown_drewn hg
set_option maxRecDepth 100000 in
set_option maxHeartbeats 4000000 in
theorem digest_any (M : GM) (x : Gsp) (hok : x.Ok) (to_ seq : Int) (w : World) (h : GAt w M x) :
  Calls Tryz.prog 40 #[.pointer (some ⟨M.g, 0, none⟩), .int .i64 to_, .int .i64 seq] w fun e w' => ∃ (hd : Hdr) (r : DSet), e = .returned (.agg #[.int .i64 4, .int .i64 x.self, .int .i64 to_, .int .i64 seq, .int .i64 0, .int .i64 (r.u 0), .int .i64 (r.u 1), .int .i64 (r.u 2), .int .i64 (r.u 3), .int .i64 (r.u 4), .int .i64 (r.u 5), .int .i64 (r.u 6), .int .i64 (r.u 7), hd.val, .slice none 0 0, .slice none 0 0]) ∧ Closes x.S.saw r ∧ Owns Dot.cells 2 w.heap.size 40 w' hd.val r.more ∧ Below w.heap.size w w' := by
 have hp : Tryz.prog.follows .mixedOrders = true := by kernel_rfl
 obtain ⟨w1, hw1⟩ : ∃ w1, w.alloc (.cells #[.int .i64 0, .int .i64 0, .int .i64 0, .int .i64 0, .int .i64 0, .int .i64 0, .int .i64 0, .int .i64 0, .int .i64 0, .int .i64 0, .int .i64 0, .int .i64 0, .int .i64 0, .slice none 0 0, .slice none 0 0, .slice none 0 0] 38) = w1 := ⟨_, rfl⟩
 have hb1 : Below w.heap.size w w1 := by rw [← hw1]; exact (Below.refl _ _).alloc (Nat.le_refl _) _
 have r1 : w1.heap[w.heap.size]? = some (.cells #[.int .i64 0, .int .i64 0, .int .i64 0, .int .i64 0, .int .i64 0, .int .i64 0, .int .i64 0, .int .i64 0, .int .i64 0, .int .i64 0, .int .i64 0, .int .i64 0, .int .i64 0, .slice none 0 0, .slice none 0 0, .slice none 0 0] 38) := by rw [← hw1]; exact heap_alloc_new w _
 have hlt : w.heap.size < w1.heap.size := (Array.getElem?_eq_some_iff.1 r1).1
 have hg1 := h.below hb1 (Nat.le_refl _)
 obtain ⟨c0, c1, c2, c3⟩ := hg1.cells
 have HSE := Lib.hid (seen_any M.bb M.ms M.mh M.B x.S hok.fine.ok w1 hg1.book)
 have hgl := hg1.lt
 have HW1 := Lib.hid hw1
 have HB1 := Lib.hid hb1
 have R1 := Lib.hid r1
 clear hw1 hb1 r1 hg1 h hok
 go_enter Tryz.func40, Tryz.ntmps40
 go_upto_region 1 with fail
 rw [HW1.out]
 go_wp2_with fail
 refine HSE.out.mono ?_
 rintro e w2 ⟨⟨oa, n, cap⟩, r, rfl, hcl, hown, hb2⟩
 have hq : (qcells (⟨oa, n, cap⟩, r)).toArray = #[.int .i64 (r.u 0), .int .i64 (r.u 1), .int .i64 (r.u 2), .int .i64 (r.u 3), .int .i64 (r.u 4), .int .i64 (r.u 5), .int .i64 (r.u 6), .int .i64 (r.u 7), .slice oa n cap] := rfl
 rw [hq]
 obtain ⟨w3, hw3⟩ : ∃ w3, w2.alloc (.cells #[.int .i64 (r.u 0), .int .i64 (r.u 1), .int .i64 (r.u 2), .int .i64 (r.u 3), .int .i64 (r.u 4), .int .i64 (r.u 5), .int .i64 (r.u 6), .int .i64 (r.u 7), .slice oa n cap] 48) = w3 := ⟨_, rfl⟩
 have hb3 : Below w2.heap.size w2 w3 := by rw [← hw3]; exact (Below.refl _ _).alloc (Nat.le_refl _) _
 have r3 : w3.heap[w2.heap.size]? = some (.cells #[.int .i64 (r.u 0), .int .i64 (r.u 1), .int .i64 (r.u 2), .int .i64 (r.u 3), .int .i64 (r.u 4), .int .i64 (r.u 5), .int .i64 (r.u 6), .int .i64 (r.u 7), .slice oa n cap] 48) := by rw [← hw3]; exact heap_alloc_new w2 _
 have hb13 : Below w1.heap.size w1 w3 := hb2.trans (hb3.mono hb2.size)
 have HW3 := Lib.hid hw3
 have HCL := Lib.hid hcl
 have HOW := Lib.hid (hown.below hb3 (Nat.le_refl _))
 have HB3 := Lib.hid (HB1.out.trans (hb13.mono HB1.out.size))
 have g0 : w3.cell? ⟨M.g, 0, none⟩ = some (.int .i64 x.self) := (hb13.cell (p := ⟨M.g, 0, none⟩) hgl).trans c0
 have hr3 : w3.drew.heap[w.heap.size]? = some (.cells #[.int .i64 0, .int .i64 0, .int .i64 0, .int .i64 0, .int .i64 0, .int .i64 0, .int .i64 0, .int .i64 0, .int .i64 0, .int .i64 0, .int .i64 0, .int .i64 0, .int .i64 0, .slice none 0 0, .slice none 0 0, .slice none 0 0] 38) := (hb13.block w.heap.size hlt).trans R1.out
 have HR3 := Lib.hid hr3
 have hsz2 : w1.heap.size ≤ w2.heap.size := hb2.size
 have d0 : w3.cell? ⟨w2.heap.size, 0, none⟩ = some (.int .i64 (r.u 0)) := cell_of_row w3 _ 0 _ _ _ r3
 have d1 : w3.cell? ⟨w2.heap.size, 1, none⟩ = some (.int .i64 (r.u 1)) := cell_of_row w3 _ 1 _ _ _ r3
 have d2 : w3.cell? ⟨w2.heap.size, 2, none⟩ = some (.int .i64 (r.u 2)) := cell_of_row w3 _ 2 _ _ _ r3
 have d3 : w3.cell? ⟨w2.heap.size, 3, none⟩ = some (.int .i64 (r.u 3)) := cell_of_row w3 _ 3 _ _ _ r3
 have d4 : w3.cell? ⟨w2.heap.size, 4, none⟩ = some (.int .i64 (r.u 4)) := cell_of_row w3 _ 4 _ _ _ r3
 have d5 : w3.cell? ⟨w2.heap.size, 5, none⟩ = some (.int .i64 (r.u 5)) := cell_of_row w3 _ 5 _ _ _ r3
 have d6 : w3.cell? ⟨w2.heap.size, 6, none⟩ = some (.int .i64 (r.u 6)) := cell_of_row w3 _ 6 _ _ _ r3
 have d7 : w3.cell? ⟨w2.heap.size, 7, none⟩ = some (.int .i64 (r.u 7)) := cell_of_row w3 _ 7 _ _ _ r3
 have d8 : w3.cell? ⟨w2.heap.size, 8, none⟩ = some (.slice oa n cap) := cell_of_row w3 _ 8 _ _ _ r3
 clear hq hcl hown hb2 hw3 hb3 r3 hb13 hr3 HSE c0 c1 c2 c3
 go_upto_region 2 with fail
 rw [HW3.out]
 obtain ⟨k0, k1, k2, k3, k4, k5, k6, k7, k8, k9, k10, k11, k12, k13, k14, k15⟩ := msg_cells (w := w3) HR3.out
 have kz : ∀ n, w3.frozen? ⟨w.heap.size, n, none⟩ = false := fun n => by have := HR3.out; unfold World.frozen?; rw [show w3.heap[w.heap.size]? = _ from this]; simp
 go_cut [] (fun wx => Hid (wx.heap[w.heap.size]? = some (.cells #[.int .i64 4, .int .i64 x.self, .int .i64 to_, .int .i64 seq, .int .i64 0, .int .i64 (r.u 0), .int .i64 (r.u 1), .int .i64 (r.u 2), .int .i64 (r.u 3), .int .i64 (r.u 4), .int .i64 (r.u 5), .int .i64 (r.u 6), .int .i64 (r.u 7), .slice oa n cap, .slice none 0 0, .slice none 0 0] 38)) ∧ Hid (w3.grownBy wx (some w.heap.size)))
 case first =>
  go_region_law (fail)
  all_goals
   go_wp2_with fail
   go_meet
   have hs := set16 (W := w3) HR3.out (.int .i64 4) (.int .i64 x.self) (.int .i64 to_) (.int .i64 seq) (.int .i64 0) (.int .i64 (r.u 0)) (.int .i64 (r.u 1)) (.int .i64 (r.u 2)) (.int .i64 (r.u 3)) (.int .i64 (r.u 4)) (.int .i64 (r.u 5)) (.int .i64 (r.u 6)) (.int .i64 (r.u 7)) (.slice oa n cap) (.slice none 0 0) (.slice none 0 0)
   exact ⟨hs.1, hs.2⟩
 case rest =>
  obtain ⟨HRW, HGW⟩ := hcut
  go_wp2_with fail
  have hL := run_loadVarAgg (t := 38) (n := 16) (by kernel_rfl) (by kernel_rfl) (load_whole HRW.out rfl)
  exact bodyPost_ret (v := .agg #[.int .i64 4, .int .i64 x.self, .int .i64 to_, .int .i64 seq, .int .i64 0, .int .i64 (r.u 0), .int .i64 (r.u 1), .int .i64 (r.u 2), .int .i64 (r.u 3), .int .i64 (r.u 4), .int .i64 (r.u 5), .int .i64 (r.u 6), .int .i64 (r.u 7), .slice oa n cap, .slice none 0 0, .slice none 0 0]) (run_results_cell rfl rfl hL) rfl ⟨⟨oa, n, cap⟩, r, rfl, HCL.out, (HOW.out.past HGW.out hlt).lower (Nat.le_of_lt hlt), HB3.out.grown HGW.out HB3.out.size (fun k hk => by cases hk; exact Nat.le_refl _)⟩
end Go.Proofs.YtenkfnhcdfmkaaaGreat
