/-
  dotset.Join, List and Count walked.
-/
import Derived.Test.YtkdjfoehpioghaaDotAdd
namespace Go.Proofs.Ytkdjfoehpioghaa
open Go.Shelf Go.RowKit Go.Lib Go.Sort
set_option linter.unusedVariables false
abbrev setArgs (s : DSet) (v : Value) : Value := .agg #[.int .i64 (s.u 0), .int .i64 (s.u 1), .int .i64 (s.u 2), .int .i64 (s.u 3), .int .i64 (s.u 4), .int .i64 (s.u 5), .int .i64 (s.u 6), .int .i64 (s.u 7), v]
/-- what of leaves of one set, in a literal of the call's own -/
theorem of_one (oa : Option Addr) (cap : Nat) (s : DSet) (w : World) (h : SlAt Dot.cells w (.slice oa s.more.length cap) s.more) (hl : s.more.length ≤ 1000000) :
    Calls Try.prog 37 #[.slice (some ⟨w.heap.size, 0, none⟩) 1 1] (w.alloc (.cells #[.int .i64 (s.u 0), .int .i64 (s.u 1), .int .i64 (s.u 2), .int .i64 (s.u 3), .int .i64 (s.u 4), .int .i64 (s.u 5), .int .i64 (s.u 6), .int .i64 (s.u 7), .slice oa s.more.length cap] 38)) fun e w' => ∃ b, e = .returned (.pointer (some ⟨b, 0, none⟩)) ∧ w.heap.size < b ∧ GridAt w' b s.grid ∧ Below w.heap.size w w' := by
  refine (of_any (some ⟨w.heap.size, 0, none⟩) 1 [(⟨oa, s.more.length, cap⟩, s)] _ ⟨slAt_new (enc := qcells) w _ _ 1 1 (0, 0) [(⟨oa, s.more.length, cap⟩, s)] rfl rfl (by decide), fun p hp => ?_⟩ (by simp)).mono ?_
  · obtain rfl : p = (⟨oa, s.more.length, cap⟩, s) := by simpa using hp
    exact ⟨h.below Dot.cells_len (by decide) ((Below.refl w.heap.size w).alloc (Nat.le_refl _) _) (Nat.le_refl _), hl⟩
  · rintro e w3 ⟨gb, rfl, hgb, hgr, hb3⟩
    simp only [List.map_cons, List.map_nil, orAll_one] at hgr
    rw [World.size_alloc] at hgb
    exact ⟨gb, rfl, by omega, hgr, ((Below.refl _ _).alloc (Nat.le_refl _) _).trans (hb3.mono (by simp))⟩
/-- .. of two -/
theorem of_two (oa ob : Option Addr) (ca cb : Nat) (s t : DSet) (w : World) (h : SlAt Dot.cells w (.slice oa s.more.length ca) s.more) (k : SlAt Dot.cells w (.slice ob t.more.length cb) t.more) (hl : s.more.length ≤ 1000000) (kl : t.more.length ≤ 1000000) :
    Calls Try.prog 37 #[.slice (some ⟨w.heap.size, 0, none⟩) 2 2] (w.alloc (.cells #[.int .i64 (s.u 0), .int .i64 (s.u 1), .int .i64 (s.u 2), .int .i64 (s.u 3), .int .i64 (s.u 4), .int .i64 (s.u 5), .int .i64 (s.u 6), .int .i64 (s.u 7), .slice oa s.more.length ca, .int .i64 (t.u 0), .int .i64 (t.u 1), .int .i64 (t.u 2), .int .i64 (t.u 3), .int .i64 (t.u 4), .int .i64 (t.u 5), .int .i64 (t.u 6), .int .i64 (t.u 7), .slice ob t.more.length cb] 38)) fun e w' => ∃ b, e = .returned (.pointer (some ⟨b, 0, none⟩)) ∧ w.heap.size < b ∧ GridAt w' b (s.grid.or t.grid) ∧ Below w.heap.size w w' := by
  refine (of_any (some ⟨w.heap.size, 0, none⟩) 2 [(⟨oa, s.more.length, ca⟩, s), (⟨ob, t.more.length, cb⟩, t)] _ ⟨slAt_new (enc := qcells) w _ _ 2 2 (0, 0) [(⟨oa, s.more.length, ca⟩, s), (⟨ob, t.more.length, cb⟩, t)] rfl rfl (by decide), fun p hp => ?_⟩ (by simp)).mono ?_
  · have hb := (Below.refl w.heap.size w).alloc (Nat.le_refl _) (.cells #[.int .i64 (s.u 0), .int .i64 (s.u 1), .int .i64 (s.u 2), .int .i64 (s.u 3), .int .i64 (s.u 4), .int .i64 (s.u 5), .int .i64 (s.u 6), .int .i64 (s.u 7), .slice oa s.more.length ca, .int .i64 (t.u 0), .int .i64 (t.u 1), .int .i64 (t.u 2), .int .i64 (t.u 3), .int .i64 (t.u 4), .int .i64 (t.u 5), .int .i64 (t.u 6), .int .i64 (t.u 7), .slice ob t.more.length cb] 38)
    rcases List.mem_cons.1 hp with rfl | hp
    · exact ⟨h.below Dot.cells_len (by decide) hb (Nat.le_refl _), hl⟩
    · obtain rfl : p = (⟨ob, t.more.length, cb⟩, t) := by simpa using hp
      exact ⟨k.below Dot.cells_len (by decide) hb (Nat.le_refl _), kl⟩
  · rintro e w3 ⟨gb, rfl, hgb, hgr, hb3⟩
    have he : orAll (([(⟨oa, s.more.length, ca⟩, s), (⟨ob, t.more.length, cb⟩, t)] : List PSet).map (·.2)) = s.grid.or t.grid := by
      unfold orAll
      funext n q
      simp [Grid.or, Grid.none]
    rw [he] at hgr
    rw [World.size_alloc] at hgb
    exact ⟨gb, rfl, by omega, hgr, ((Below.refl _ _).alloc (Nat.le_refl _) _).trans (hb3.mono (by simp))⟩
/-- one step more -/
theorem grown_then {a b c : World} {row row' : Option Nat} (h : a.grownBy b row) (k : b.grownBy c row') (hr : ∀ j, row' = some j → a.heap.size ≤ j ∨ row = some j) : a.grownBy c row :=
  ⟨k.os.trans h.os, k.tape.trans h.tape, k.output.trans h.output, Nat.le_trans h.size k.size, fun i hi hne =>
    (k.block i (Nat.lt_of_lt_of_le hi h.size) (fun e => by
      rcases hr i e.symm with h1 | h1
      · omega
      · exact hne h1.symm)).trans (h.block i hi hne)⟩
theorem grown_set {a b : World} {ob o : Nat} (h : a.grownBy b (some ob)) (v : Value) : a.grownBy (b.setCell ⟨ob, o, none⟩ v) (some ob) :=
  ⟨h.os, h.tape, h.output, by have := h.size; simpa using this, fun i hi hne => (Below.heap_setCell b ⟨ob, o, none⟩ _ _ (fun e => hne (by rw [e]))).trans (h.block i hi hne)⟩
/-- the dots so far, in the cell of block ob -/
structure ListAt (ob : Nat) (g : Grid) (k : Nat) (W0 W : World) (hd : Hdr) : Prop where
  lt : ob < W0.heap.size
  obj : W.heap[ob]? = some (.cells #[hd.val] 23)
  own : Owns Dot.cells 2 W0.heap.size 77 W hd.val (dotsTo g k)
  grew : W0.grownBy W (some ob)
theorem dotsTo_len (g : Grid) (k : Nat) : (dotsTo g k).length ≤ k := by
  unfold dotsTo
  rw [List.length_map]
  exact Nat.le_trans (List.length_filter_le _ _) (by rw [List.length_range]; exact Nat.le_refl _)
set_option maxHeartbeats 8000000 in
theorem listFn_any (ob : Nat) (g : Grid) (k : Nat) (hk : k < 784) (hgk : gridAt g k = true) (W0 W : World) (hd : Hdr) (h : ListAt ob g k W0 W hd) :
    Calls Try.prog 50 #[.agg #[.int .i64 (dotAt k).node, .int .i64 (dotAt k).seq], .pointer (some ⟨ob, 0, none⟩)] W fun e w' => e = .returned (.tuple #[]) ∧ ∃ hd', ListAt ob g (k + 1) W0 w' hd' := by
  have hyes := dotsTo_yes hgk
  have hlen := dotsTo_len g k
  generalize dotAt k = d at *
  obtain ⟨oh, n, ch⟩ := hd
  have hrow := h.obj
  have hob0 := h.lt
  have hob : ob < W.heap.size := (Array.getElem?_eq_some_iff.1 hrow).1
  have hsz0 := h.grew.size
  have hn : n = (dotsTo g k).length := by
    obtain ⟨_, _, hv, _⟩ := h.own.at.slice_of
    simp only [Hdr.val, Value.slice.injEq] at hv
    exact hv.2.1
  subst hn
  have hb0 := (Below.refl W.heap.size W).alloc (Nat.le_refl _) (.cells #[.int .i64 d.node, .int .i64 d.seq] 77)
  have hown := h.own.below hb0 (Nat.le_refl _)
  have HGW := Lib.hid h.grew
  have HYES := Lib.hid hyes
  simp only [Hdr.val] at hrow hown
  have HOWN := Lib.hid hown
  have HROW := Lib.hid hrow
  have c0 : W.cell? ⟨ob, 0, none⟩ = some (.slice oh (dotsTo g k).length ch) := cell_of_row W ob 0 _ _ _ hrow
  have z0 : W.frozen? ⟨ob, 0, none⟩ = false := by unfold World.frozen?; rw [hrow]; simp
  clear hyes h hb0 hown hrow
  generalize hml : dotsTo g k = ml at *
  go_enter Try.func50, Try.ntmps50
  go_wp2_with (at_builtin; refine wpList_app Dot.cells 2 Dot.cells_len (by decide) Dot.cells_one _ rfl _ _ 23 rfl W0.heap.size 77 _ 16 Try.underlying23 infoDot rfl _ ml rfl ?h1 _ [d] rfl ?h2 ?h3 ?h4 ?h5 ?_)
  case h1 => exact HOWN.out.below ((Below.refl _ _).alloc (Nat.le_refl _) _) (Nat.le_refl _)
  case h2 =>
    have := slAt_new (enc := Dot.cells) (W.alloc (.cells #[.int .i64 d.node, .int .i64 d.seq] 77)) #[.int .i64 d.node, .int .i64 d.seq] 77 1 1 (0, 0) [d] rfl rfl (by decide)
    rw [World.size_alloc] at this
    exact this
  case h3 => simp only [List.length_singleton]; omega
  case h4 => simp only [List.length_singleton]; omega
  case h5 => simp; omega
  intro v' w' hown2 hg2 hv2
  have hex : ∃ h : Hdr, v' = h.val := hdr_of_slAt hown2.at
  obtain ⟨⟨o2, n2, c2⟩, hvv⟩ := hex
  simp only [Hdr.val] at hvv
  subst hvv
  have hlow : ∀ x, (Value.slice oh ml.length ch).ownBlock = some x → W0.heap.size ≤ x := fun x hx => (HOWN.out.lt x hx).1
  have hrow2 : w'.heap[ob]? = some (.cells #[.slice oh ml.length ch] 23) := (hg2.block ob (by simp; omega) (fun e => by have := hlow ob e.symm; omega)).trans ((Below.heap_alloc _ _ _ (by simp; omega)).trans ((Below.heap_alloc _ _ _ hob).trans HROW.out))
  have k0 : w'.cell? ⟨ob, 0, none⟩ = some (.slice oh ml.length ch) := cell_of_row w' ob 0 _ _ _ hrow2
  have z2 : w'.frozen? ⟨ob, 0, none⟩ = false := by unfold World.frozen?; rw [hrow2]; simp
  have HOWN2 := Lib.hid hown2
  have HGW2 := Lib.hid (grown_then (HGW.out.trans ((World.grownBy_alloc W (.cells #[.int .i64 d.node, .int .i64 d.seq] 77) (some ob)).trans (World.grownBy_alloc _ (.cells #[.int .i64 d.node, .int .i64 d.seq] 77) (some ob)))) hg2 (fun x hx => .inl (hlow x hx)))
  have HROW2 := Lib.hid hrow2
  clear hown2 hg2 hv2 hrow2 c0 z0
  go_wp2_with fail
  go_end0
  have hob := heap_setCell_same w' ob 0 _ _ (.slice o2 n2 c2) HROW2.out
  refine ⟨rfl, ⟨o2, n2, c2⟩, hob0, hob, ?_, grown_set HGW2.out _⟩
  rw [HYES.out]
  refine HOWN2.out.keep fun b hb => ?_
  have := (HOWN2.out.lt b hb).1
  exact Below.heap_setCell w' ⟨ob, 0, none⟩ _ _ (by show b ≠ ob; omega)
set_option maxHeartbeats 8000000 in
theorem list_any (oa : Option Addr) (cap : Nat) (s : DSet) (w : World) (h : SlAt Dot.cells w (.slice oa s.more.length cap) s.more) (hl : s.more.length ≤ 1000000) :
    Calls Try.prog 39 #[.agg #[.int .i64 (s.u 0), .int .i64 (s.u 1), .int .i64 (s.u 2), .int .i64 (s.u 3), .int .i64 (s.u 4), .int .i64 (s.u 5), .int .i64 (s.u 6), .int .i64 (s.u 7), .slice oa s.more.length cap]] w fun e w' => ∃ hd : Hdr, e = .returned hd.val ∧ Owns Dot.cells 2 w.heap.size 77 w' hd.val (dotsOf s.grid) ∧ Below w.heap.size w w' := by
  have eg : ∀ args w, (callFunc 50 args).run Try.prog w = .ok (.enter 50 args) w := enters_of Try.func50 (by kernel_rfl) rfl
  have hwk := fun (gb : Nat) (W : World) (hW : GridAt W gb s.grid) (hob : W.heap[w.heap.size + 1]? = some (.cells #[.slice none 0 0] 23)) (hne : gb ≠ w.heap.size + 1) =>
    walk_any 50 #[] #[.pointer (some ⟨w.heap.size + 1, 0, none⟩)] eg gb s.grid (fun k W' => ∃ hd, ListAt (w.heap.size + 1) s.grid k W W' hd)
    (fun k hk hgk W' ⟨hd, hI⟩ => listFn_any (w.heap.size + 1) s.grid k hk hgk W W' hd hI)
    (fun k hk hgk W' ⟨hd, hI⟩ => ⟨hd, hI.lt, hI.obj, by rw [dotsTo_no hgk]; exact hI.own, hI.grew⟩)
    (fun k W' ⟨hd, hI⟩ => hW.kept hI.grew (fun e => hne (Option.some.inj e)))
    W ⟨⟨none, 0, 0⟩, (Array.getElem?_eq_some_iff.1 hob).1, hob, Owns.nil _ _ _ _ _, World.grownBy.refl _ _⟩
  have hb2 := ((Below.refl w.heap.size w).alloc (Nat.le_refl _) (.cells #[.int .i64 (s.u 0), .int .i64 (s.u 1), .int .i64 (s.u 2), .int .i64 (s.u 3), .int .i64 (s.u 4), .int .i64 (s.u 5), .int .i64 (s.u 6), .int .i64 (s.u 7), .slice oa s.more.length cap] 38)).alloc (by simp) (.cells #[.slice none 0 0] 23)
  have hof := of_one oa cap s _ (h.below Dot.cells_len (by decide) hb2 (Nat.le_refl _)) hl
  simp only [World.size_alloc] at hof
  have HOF := Lib.hid hof
  have HWK := Lib.hid hwk
  have HB2 := Lib.hid hb2
  have HO := Lib.hid (show ((w.alloc (.cells #[.int .i64 (s.u 0), .int .i64 (s.u 1), .int .i64 (s.u 2), .int .i64 (s.u 3), .int .i64 (s.u 4), .int .i64 (s.u 5), .int .i64 (s.u 6), .int .i64 (s.u 7), .slice oa s.more.length cap] 38)).alloc (.cells #[.slice none 0 0] 23)).heap[w.heap.size + 1]? = some (.cells #[.slice none 0 0] 23) from by
    have := heap_alloc_new (w.alloc (.cells #[.int .i64 (s.u 0), .int .i64 (s.u 1), .int .i64 (s.u 2), .int .i64 (s.u 3), .int .i64 (s.u 4), .int .i64 (s.u 5), .int .i64 (s.u 6), .int .i64 (s.u 7), .slice oa s.more.length cap] 38)) (.cells #[.slice none 0 0] 23)
    rwa [World.size_alloc] at this)
  clear hof hwk hb2 h
  go_enter Try.func39, Try.ntmps39
  go_wp2_with fail
  refine HOF.out.mono ?_
  rintro e w3 ⟨gb, rfl, hgb, hgr, hb3⟩
  have hob3 := (hb3.block (w.heap.size + 1) (by omega)).trans HO.out
  have HB3 := Lib.hid (HB2.out.trans (hb3.mono (by omega)))
  have hwk3 := HWK.out gb w3 hgr hob3 (by omega)
  have HWK3 := Lib.hid hwk3
  clear hgr hb3 hob3 hwk3 HWK HO HOF HB2
  go_wp2_with fail
  refine HWK3.out.mono ?_
  rintro e w4 ⟨rfl, ⟨o4, n4, c4⟩, hI⟩
  have hrow := hI.obj
  simp only [Hdr.val] at hrow
  have k0 : w4.cell? ⟨w.heap.size + 1, 0, none⟩ = some (.slice o4 n4 c4) := cell_of_row w4 _ 0 _ _ _ hrow
  have z0 : w4.frozen? ⟨w.heap.size + 1, 0, none⟩ = false := by unfold World.frozen?; rw [hrow]; simp
  have HOW := Lib.hid hI.own
  have HB4 := Lib.hid (HB3.out.grown hI.grew HB3.out.size (fun k hk => by cases hk; omega))
  have hlt3 : w.heap.size + 1 < w3.heap.size := hI.lt
  clear hI hrow HWK3
  go_wp2_with fail
  refine bodyPost_ret (v := .slice o4 n4 c4) (by simp [results, Try.results39, go_sem, cell_set, k0]) rfl ⟨⟨o4, n4, c4⟩, rfl, ?_, HB4.out.setCell (p := ⟨w.heap.size + 1, 0, none⟩) (by show w.heap.size ≤ w.heap.size + 1; omega) _⟩
  refine (HOW.out.keep fun b hb => ?_).lower (by omega)
  have := (HOW.out.lt b hb).1
  exact Below.heap_setCell w4 ⟨w.heap.size + 1, 0, none⟩ _ _ (by show b ≠ w.heap.size + 1; omega)
end Go.Proofs.Ytkdjfoehpioghaa
