/-
  (*book.Book).Seen and Clock walked.
-/
import Derived.Test.YtidiapgdgoeplaaBookSet
namespace Go.Proofs.Ytidiapgdgoeplaa
open Go.Shelf Go.RowKit Go.Lib Go.Sort
set_option linter.unusedVariables false
set_option maxHeartbeats 2000000 in
theorem clock_any (bb ms mh B : Nat) (S : BookS) (w : World) (h : BookAt w bb ms mh B S) :
    Calls Try.prog 14 #[.pointer (some ⟨bb, 0, none⟩)] w fun e w' => e = .returned (.int .i64 S.time) ∧ Below w.heap.size w w' := by
  have c2 := cell_of_row _ bb 2 _ _ _ h.obj
  clear h
  go_enter Try.func14, Try.ntmps14
  go_wp2_with fail
  go_ret
  exact ⟨rfl, Below.refl _ _⟩
set_option maxHeartbeats 4000000 in
theorem seen_any (bb ms mh B : Nat) (S : BookS) (hok : S.saw.Ok) (w : World) (h : BookAt w bb ms mh B S) :
    Calls Try.prog 13 #[.pointer (some ⟨bb, 0, none⟩)] w fun e w' => ∃ (hd : Hdr) (r : DSet), e = .returned (.agg (qcells (hd, r)).toArray) ∧ Closes S.saw r ∧ Owns Dot.cells 2 w.heap.size 28 w' hd.val r.more ∧ Below w.heap.size w w' := by
  have hb1 := (Below.refl w.heap.size w).alloc (Nat.le_refl _) (.cells #[.int .i64 0, .int .i64 0, .int .i64 0, .int .i64 0, .int .i64 0, .int .i64 0, .int .i64 0, .int .i64 0, .slice none 0 0] 42)
  have h1 := h.below hb1 (Nat.le_refl _)
  have hr0 : SetRow (w.alloc (.cells #[.int .i64 0, .int .i64 0, .int .i64 0, .int .i64 0, .int .i64 0, .int .i64 0, .int .i64 0, .int .i64 0, .slice none 0 0] 42)) w.heap.size ⟨none, 0, 0⟩ DSet.none := heap_alloc_new w _
  have hsz : (w.alloc (.cells #[.int .i64 0, .int .i64 0, .int .i64 0, .int .i64 0, .int .i64 0, .int .i64 0, .int .i64 0, .int .i64 0, .slice none 0 0] 42)).heap.size = w.heap.size + 1 := World.size_alloc _ _
  have c0 := cell_of_row _ bb 0 _ _ _ h1.obj
  obtain ⟨Es, g1, g2⟩ := h1.seen
  have hset := bookSet_any ms S.saw hok Es _ g1 g2
  have HSET := Lib.hid hset
  have HR0 := Lib.hid hr0
  have HB1 := Lib.hid hb1
  clear h h1 hb1 hr0 g1 g2 hset
  go_enter Try.func13, Try.ntmps13
  go_wp2_with fail
  refine HSET.out.mono ?_
  rintro e w3 ⟨⟨oa, n, cap⟩, r, rfl, hcl, hown, hb3⟩
  have hr3 : SetRow w3 w.heap.size ⟨none, 0, 0⟩ DSet.none := (hb3.block _ (by omega)).trans HR0.out
  have z3 := hr3.free
  obtain ⟨k0, k1, k2, k3, k4, k5, k6, k7, k8⟩ := hr3.cells
  simp only [Hdr.val] at k8
  have HR3 := Lib.hid hr3
  have HO3 := Lib.hid hown
  have HC3 := Lib.hid hcl
  have HB3 := Lib.hid (HB1.out.trans (hb3.mono (by omega)))
  have hq : (qcells (⟨oa, n, cap⟩, r)).toArray = #[.int .i64 (r.u 0), .int .i64 (r.u 1), .int .i64 (r.u 2), .int .i64 (r.u 3), .int .i64 (r.u 4), .int .i64 (r.u 5), .int .i64 (r.u 6), .int .i64 (r.u 7), .slice oa n cap] := rfl
  rw [hq]
  clear hq hr3 hown hcl hb3 HSET HB1 HR0 c0
  go_wp2_with fail
  have hrow := HR3.out.put9 ⟨oa, n, cap⟩ r
  have hgr := grown_put9 (World.grownBy.refl w3 (some w.heap.size)) r (.slice oa n cap)
  obtain ⟨m0, m1, m2, m3, m4, m5, m6, m7, m8⟩ := hrow.cells
  simp only [Hdr.val] at m0 m1 m2 m3 m4 m5 m6 m7 m8
  clear k0 k1 k2 k3 k4 k5 k6 k7 k8
  exact bodyPost_ret (v := .agg (qcells (⟨oa, n, cap⟩, r)).toArray) (by simp [results, Try.results13, go_sem, m0, m1, m2, m3, m4, m5, m6, m7, m8, qcells, Hdr.val]) rfl ⟨⟨oa, n, cap⟩, r, rfl, HC3.out, (HO3.out.past hgr (by omega)).lower (by omega), HB3.out.grown hgr HB3.out.size (fun k hk => by cases hk; exact Nat.le_refl _)⟩
end Go.Proofs.Ytidiapgdgoeplaa
