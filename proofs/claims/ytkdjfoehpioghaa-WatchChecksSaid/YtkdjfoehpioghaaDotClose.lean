/-
  dotset.close walked: the right set of a grid.
-/
import Derived.Test.YtkdjfoehpioghaaDotOf
namespace Go.Proofs.Ytkdjfoehpioghaa
open Go.Shelf Go.RowKit Go.Lib Go.Sort
set_option linter.unusedVariables false
theorem setObj_up (u : Nat → Int) (v : Value) (n : Nat) (hn : n < 8) : (setObj u v).setIfInBounds n (.int .i64 (u n + 1)) = setObj (fun m => if m = n then u m + 1 else u m) v := by
  rcases (show n = 0 ∨ n = 1 ∨ n = 2 ∨ n = 3 ∨ n = 4 ∨ n = 5 ∨ n = 6 ∨ n = 7 by omega) with rfl | rfl | rfl | rfl | rfl | rfl | rfl | rfl <;> rfl
theorem setObj_more (u : Nat → Int) (v v' : Value) : (setObj u v).setIfInBounds 8 v' = setObj u v' := rfl
/-- a set on the way, in the cells of block sb -/
structure CloseAt (w : World) (sb base : Nat) (g : Grid) (k : Nat) (W : World) (s : DSet) (hd : Hdr) : Prop where
  ing : Closing g k s
  obj : W.heap[sb]? = some (.cells (setObj s.u hd.val) 38)
  own : Owns Dot.cells 2 (sb + 1) 77 W hd.val s.more
  below : Below base w W
theorem closing_len {g : Grid} {k : Nat} {s : DSet} (h : Closing g k s) (hk : k ≤ 784) : s.more.length ≤ 784 := by
  rw [h.rest]
  refine Nat.le_trans (List.length_filter_le _ _) ?_
  unfold dotsTo
  rw [List.length_map]
  refine Nat.le_trans (List.length_filter_le _ _) ?_
  rw [List.length_range]; exact hk
set_option maxHeartbeats 8000000 in
theorem closeFn_any (w : World) (sb base : Nat) (hbase : base ≤ sb) (g : Grid) (hgo : g.Ok) (k : Nat) (hk : k < 784) (hgk : gridAt g k = true) (W : World) (s : DSet) (hd : Hdr) (h : CloseAt w sb base g k W s hd) :
    Calls Try.prog 62 #[.agg #[.int .i64 (dotAt k).node, .int .i64 (dotAt k).seq], .pointer (some ⟨sb, 0, none⟩)] W fun e w' => e = .returned (.tuple #[]) ∧ ∃ hd', CloseAt w sb base g (k + 1) w' (closeStep s (dotAt k)) hd' := by
  have hst := h.ing.step hgo hgk
  have hok := hgo _ _ hgk
  have htop := h.ing.top (dotAt k).node.toNat
  have hpos := h.ing.pos (dotAt k).node.toNat
  have hlen := closing_len h.ing (by omega)
  have hd0 : 0 ≤ (dotAt k).node ∧ (dotAt k).node < 8 ∧ 0 ≤ (dotAt k).seq ∧ (dotAt k).seq < 98 := by unfold dotAt; simp only; omega
  generalize dotAt k = d at *
  have hrow := h.obj
  have hsb : sb < W.heap.size := (Array.getElem?_eq_some_iff.1 hrow).1
  have hup := setObj_up s.u hd.val d.node.toNat (by omega)
  have HI := Lib.hid h
  have HST := Lib.hid hst
  have HUP := Lib.hid hup
  clear hst hup h
  have hb0 := (Below.refl W.heap.size W).alloc (Nat.le_refl _) (.cells #[.int .i64 d.node, .int .i64 d.seq] 77)
  have hrow1 := (hb0.block _ hsb).trans hrow
  have hnew : (W.alloc (.cells #[.int .i64 d.node, .int .i64 d.seq] 77)).heap[W.heap.size]? = some (.cells #[.int .i64 d.node, .int .i64 d.seq] 77) := heap_alloc_new W _
  have hlt1 : W.heap.size < (W.alloc (.cells #[.int .i64 d.node, .int .i64 d.seq] 77)).heap.size := by simp
  have HB0 := Lib.hid hb0
  clear hb0 hrow
  go_enter Try.func62, Try.ntmps62
  go_wp2_with fail
  generalize W.alloc (.cells #[.int .i64 d.node, .int .i64 d.seq] 77) = W1 at *
  generalize hdb : W.heap.size = db at *
  have d0 : W1.cell? ⟨db, 0, none⟩ = some (.int .i64 d.node) := cell_of_row W1 db 0 _ _ _ hnew
  have d1 : W1.cell? ⟨db, 1, none⟩ = some (.int .i64 d.seq) := cell_of_row W1 db 1 _ _ _ hnew
  have u0 := set_up (u := s.u) hrow1 d.node.toNat (by omega)
  obtain ⟨un, hun⟩ : ∃ un, s.u d.node.toNat = un := ⟨_, rfl⟩
  have hwr : IntKind.i64.wrap (un + 1) = un + 1 := IntWalk.i64_in _ (by omega)
  by_cases he : d.seq = un + 1
  · have hcs : closeStep s d = ⟨fun m => if m = d.node.toNat then s.u m + 1 else s.u m, s.more⟩ := by unfold closeStep; rw [if_pos (by omega)]
    rw [hcs] at HST
    have HCS := Lib.hid hcs
    rw [hun] at u0 HUP
    have hfz : W1.frozen? ⟨sb, d.node.toNat, none⟩ = false := by unfold World.frozen?; rw [hrow1]; simp
    obtain ⟨q, hq⟩ : ∃ q, un + 1 = q := ⟨_, rfl⟩
    rw [hq] at he hwr HUP
    have HE := Lib.hid he
    clear htop hpos hcs hun
    go_quiet (fail)
    go_wp2_with fail
    go_end0
    have hob := heap_setCell_same (W1.drewN nq) sb d.node.toNat _ _ (.int .i64 q) hrow1
    rw [HUP.out] at hob
    refine ⟨rfl, hd, ?_⟩
    rw [HCS.out]
    refine ⟨HST.out, hob, ?_, (HI.out.below.trans (HB0.out.mono (by have := HI.out.below.size; omega))).trans (((below_drewN W1 nq).mono (by have := HI.out.below.size; have := HB0.out.size; omega)).setCell (p := ⟨sb, d.node.toNat, none⟩) hbase (.int .i64 q))⟩
    refine (HI.out.own.below HB0.out (Nat.le_of_eq hdb)).keep fun b hb => ?_
    have := (HI.out.own.lt b hb).1
    exact Below.heap_setCell (W1.drewN nq) ⟨sb, d.node.toNat, none⟩ _ _ (by show b ≠ sb; omega)
  · have hcs : closeStep s d = ⟨s.u, s.more ++ [d]⟩ := by unfold closeStep; rw [if_neg (by omega)]
    rw [hcs] at HST
    have HCS := Lib.hid hcs
    rw [hun] at u0
    obtain ⟨q, hq⟩ : ∃ q, un + 1 = q := ⟨_, rfl⟩
    rw [hq] at he hwr
    have cm := set_more (u := s.u) hrow1
    have hfz : W1.frozen? ⟨sb, 8, none⟩ = false := by unfold World.frozen?; rw [hrow1]; simp
    have hown := HI.out.own.below HB0.out (Nat.le_of_eq hdb)
    obtain ⟨oh, ch, hhv⟩ := slAt_slice hown.at
    rw [hhv] at cm hown
    have HOWN := Lib.hid hown
    have HHV := Lib.hid hhv
    clear htop hpos hcs hun HUP hown hhv
    go_quiet (fail)
    have hbq : Below W1.heap.size W1 ((W1.drewN nq).alloc (.cells #[.int .i64 d.node, .int .i64 d.seq] 77)) := (below_drewN W1 nq).alloc (Nat.le_refl _) _
    have HBQ := Lib.hid hbq
    clear hbq
    go_wp2_with (at_builtin; refine wpList_app Dot.cells 2 Dot.cells_len (by decide) Dot.cells_one _ rfl _ _ 23 rfl (sb + 1) 77 _ 16 Try.underlying23 infoDot rfl _ s.more rfl ?h1 _ [d] rfl ?h2 ?h3 ?h4 ?h5 ?_)
    case h1 => exact HOWN.out.below HBQ.out (Nat.le_refl _)
    case h2 => exact slAt_new (enc := Dot.cells) (W1.drewN nq) #[.int .i64 d.node, .int .i64 d.seq] 77 1 1 (0, 0) [d] rfl rfl (by decide)
    case h3 => simp only [List.length_singleton]; omega
    case h4 => simp only [List.length_singleton]; omega
    case h5 => have := HBQ.out.size; omega
    intro v' w' hown2 hg2 hv2
    have hex : ∃ h : Hdr, v' = h.val := hdr_of_slAt hown2.at
    obtain ⟨⟨o2, n2, c2⟩, hvv⟩ := hex
    simp only [Hdr.val] at hvv
    subst hvv
    have hlow : ∀ x, (Value.slice oh s.more.length ch).ownBlock = some x → sb + 1 ≤ x := fun x hx => (HOWN.out.lt x hx).1
    have hrow2 : w'.heap[sb]? = some (.cells (setObj s.u hd.val) 38) := (hg2.block sb (by have := HBQ.out.size; omega) (fun e => by have := hlow sb e.symm; omega)).trans ((HBQ.out.block sb (by omega)).trans hrow1)
    have cm2 := set_more (u := s.u) hrow2
    have hfz2 : w'.frozen? ⟨sb, 8, none⟩ = false := by unfold World.frozen?; rw [hrow2]; simp
    have HOWN2 := Lib.hid hown2
    have hbw : Below base w w' := (HI.out.below.trans ((HB0.out.trans (HBQ.out.mono (by have := HB0.out.size; omega))).mono (by have := HI.out.below.size; omega))).grown hg2 (by have := HI.out.below.size; have := HBQ.out.size; have := HB0.out.size; omega) (fun x hx => by have := hlow x hx; omega)
    have HBW := Lib.hid hbw
    have HROW2 := Lib.hid hrow2
    clear hown2 hg2 hv2 hrow2 hbw cm d0 d1 u0 hfz hrow1 hnew
    go_wp2_with fail
    go_end0
    have hob := heap_setCell_same w' sb 8 _ _ (.slice o2 n2 c2) HROW2.out
    rw [setObj_more] at hob
    refine ⟨rfl, ⟨o2, n2, c2⟩, ?_⟩
    rw [HCS.out]
    refine ⟨HST.out, hob, ?_, HBW.out.setCell (p := ⟨sb, 8, none⟩) hbase (.slice o2 n2 c2)⟩
    refine HOWN2.out.keep fun b hb => ?_
    have := (HOWN2.out.lt b hb).1
    exact Below.heap_setCell w' ⟨sb, 8, none⟩ _ _ (by show b ≠ sb; omega)
set_option maxHeartbeats 8000000 in
theorem close_any (b : Nat) (g : Grid) (hg : g.Ok) (w : World) (h : GridAt w b g) :
    Calls Try.prog 58 #[.pointer (some ⟨b, 0, none⟩)] w fun e w' => ∃ (hd : Hdr) (s : DSet), e = .returned (.agg (qcells (hd, s)).toArray) ∧ Closes g s ∧ Owns Dot.cells 2 w.heap.size 77 w' hd.val s.more ∧ Below w.heap.size w w' := by
  have eg : ∀ args w, (callFunc 62 args).run Try.prog w = .ok (.enter 62 args) w := enters_of Try.func62 (by kernel_rfl) rfl
  have hwk := walk_any 62 #[] #[.pointer (some ⟨w.heap.size, 0, none⟩)] eg b g (fun k W => ∃ s hd, CloseAt w w.heap.size w.heap.size g k W s hd)
    (fun k hk hgk W ⟨s, hd, hI⟩ => (closeFn_any w w.heap.size w.heap.size (Nat.le_refl _) g hg k hk hgk W s hd hI).mono fun e w' ⟨he, hd', h'⟩ => ⟨he, _, hd', h'⟩)
    (fun k hk hgk W ⟨s, hd, hI⟩ => ⟨s, hd, hI.ing.skip hgk, hI.obj, hI.own, hI.below⟩)
    (fun k W ⟨s, hd, hI⟩ => h.below hI.below h.lt)
    (w.alloc (.cells (setObj DSet.none.u (.slice none 0 0)) 38)) ⟨DSet.none, ⟨none, 0, 0⟩, closing_start g, heap_alloc_new w _, Owns.nil _ _ _ _ _, (Below.refl _ _).alloc (Nat.le_refl _) _⟩
  have HWK := Lib.hid hwk
  have HGO := Lib.hid hg
  clear hwk hg h
  go_enter Try.func58, Try.ntmps58
  go_wp2_with fail
  refine HWK.out.mono ?_
  rintro e w1 ⟨rfl, s, hd, hI⟩
  have hrow := hI.obj
  obtain ⟨u, more⟩ := s
  obtain ⟨oh, n, ch⟩ := hd
  have HOB := Lib.hid hI.own
  have HBE := Lib.hid hI.below
  have HCL := Lib.hid hI.ing
  have hA : ∀ o, w1.cell? ⟨w.heap.size, o, none⟩ = (#[.int .i64 (u 0), .int .i64 (u 1), .int .i64 (u 2), .int .i64 (u 3), .int .i64 (u 4), .int .i64 (u 5), .int .i64 (u 6), .int .i64 (u 7), .slice oh n ch] : Array Value)[o]? := fun o => by unfold World.cell?; rw [hrow]; rfl
  have fA : ∀ o, w1.frozen? ⟨w.heap.size, o, none⟩ = false := fun o => by unfold World.frozen?; rw [hrow]; simp
  clear hI hrow HWK
  go_wp2_with fail
  refine bodyPost_ret (v := .agg #[.int .i64 (u 0), .int .i64 (u 1), .int .i64 (u 2), .int .i64 (u 3), .int .i64 (u 4), .int .i64 (u 5), .int .i64 (u 6), .int .i64 (u 7), .slice oh n ch]) (by simp [results, Try.results58, go_sem, cell_set, hA]) rfl ⟨⟨oh, n, ch⟩, ⟨u, more⟩, rfl, HCL.out.done HGO.out, ?_, ?_⟩
  · refine (HOB.out.keep fun b hb => ?_).lower (by omega)
    have hbb := (HOB.out.lt b hb).1
    have key : ∀ (W : World) (o : Nat) (u : Value), (W.setCell ⟨w.heap.size, o, none⟩ u).heap[b]? = W.heap[b]? := fun W o u => Below.heap_setCell _ _ _ _ (by show b ≠ w.heap.size; omega)
    simp only [key]
  · have hb := HBE.out
    clear hA fA
    go_grown
end Go.Proofs.Ytkdjfoehpioghaa
