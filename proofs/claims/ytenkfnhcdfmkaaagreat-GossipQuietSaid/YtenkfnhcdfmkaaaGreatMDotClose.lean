/-
  dotset.close walked: the right set of a grid.
  dotset.Add walked: a set with a dot more.
-/
import Derived.Test.YtenkfnhcdfmkaaaGreatMDotRight
namespace Go.Proofs.YtenkfnhcdfmkaaaGreat
open Go.Shelf Go.RowKit Go.Lib Go.Sort
set_option linter.unusedVariables false
theorem setObj_up (u : Nat → Int) (v : Value) (n : Nat) (hn : n < 8) : (setObj u v).setIfInBounds n (.int .i64 (u n + 1)) = setObj (fun m => if m = n then u m + 1 else u m) v := by
 rcases (show n = 0 ∨ n = 1 ∨ n = 2 ∨ n = 3 ∨ n = 4 ∨ n = 5 ∨ n = 6 ∨ n = 7 by omega) with rfl | rfl | rfl | rfl | rfl | rfl | rfl | rfl <;> rfl
theorem setObj_more (u : Nat → Int) (v v' : Value) : (setObj u v).setIfInBounds 8 v' = setObj u v' := rfl
structure CloseAt (w : World) (sb base : Nat) (g : Grid) (k : Nat) (W : World) (s : DSet) (hd : Hdr) : Prop where
 ing : Closing g k s
 obj : W.heap[sb]? = some (.cells (setObj s.u hd.val) 48)
 own : Owns Dot.cells 2 (sb + 1) 40 W hd.val s.more
 below : Below base w W
theorem closing_len {g : Grid} {k : Nat} {s : DSet} (h : Closing g k s) (hk : k ≤ 784) : s.more.length ≤ 784 := by
 rw [h.rest]
 refine Nat.le_trans (List.length_filter_le _ _) ?_
 unfold dotsTo
 rw [List.length_map]
 refine Nat.le_trans (List.length_filter_le _ _) ?_
 rw [List.length_range]; exact hk
set_option maxHeartbeats 8000000 in
theorem closeFn_any (w : World) (sb base : Nat) (hbase : base ≤ sb) (g : Grid) (hgo : g.Ok) (k : Nat) (hk : k < 784) (hgk : gridAt g k = true) (W : World) (s : DSet) (hd : Hdr) (h : CloseAt w sb base g k W s hd) :
  Calls Tryz.prog 126 #[.agg #[.int .i64 (dotAt k).node, .int .i64 (dotAt k).seq], .pointer (some ⟨sb, 0, none⟩)] W fun e w' => e = .returned (.tuple #[]) ∧ ∃ hd', CloseAt w sb base g (k + 1) w' (closeStep s (dotAt k)) hd' := by
 have hst := h.ing.step hgo hgk
 have hok := hgo _ _ hgk
 have htop := h.ing.top (dotAt k).node.toNat
 have hpos := h.ing.pos (dotAt k).node.toNat
 have hlen := closing_len h.ing (by omega)
 have hd0 : 0 ≤ (dotAt k).node ∧ (dotAt k).node < 8 ∧ 0 ≤ (dotAt k).seq ∧ (dotAt k).seq < 98 := by unfold dotAt; simp only; omega
 generalize dotAt k = d at *
 have hrow := h.obj
 have hsb : sb < W.heap.size := (Array.getElem?_eq_some_iff.1 hrow).1
 have hup := setObj_up s.u hd.val d.node.toNat (by omega)
 have HI := Lib.hid h
 have HST := Lib.hid hst
 have HUP := Lib.hid hup
 clear hst hup h
 have hb0 := (Below.refl W.heap.size W).alloc (Nat.le_refl _) (.cells #[.int .i64 d.node, .int .i64 d.seq] 40)
 have hrow1 := (hb0.block _ hsb).trans hrow
 have hnew : (W.alloc (.cells #[.int .i64 d.node, .int .i64 d.seq] 40)).heap[W.heap.size]? = some (.cells #[.int .i64 d.node, .int .i64 d.seq] 40) := heap_alloc_new W _
 have hlt1 : W.heap.size < (W.alloc (.cells #[.int .i64 d.node, .int .i64 d.seq] 40)).heap.size := by simp
 have HB0 := Lib.hid hb0
 clear hb0 hrow
 go_enter Tryz.func126, Tryz.ntmps126
 go_wp2_with fail
 generalize W.alloc (.cells #[.int .i64 d.node, .int .i64 d.seq] 40) = W1 at *
 generalize hdb : W.heap.size = db at *
 have d0 : W1.cell? ⟨db, 0, none⟩ = some (.int .i64 d.node) := cell_of_row W1 db 0 _ _ _ hnew
 have d1 : W1.cell? ⟨db, 1, none⟩ = some (.int .i64 d.seq) := cell_of_row W1 db 1 _ _ _ hnew
 have u0 := set_up (u := s.u) hrow1 d.node.toNat (by omega)
 obtain ⟨un, hun⟩ : ∃ un, s.u d.node.toNat = un := ⟨_, rfl⟩
 have hwr : IntKind.i64.wrap (un + 1) = un + 1 := IntWalk.i64_in _ (by omega)
 by_cases he : d.seq = un + 1
 ·have hcs : closeStep s d = ⟨fun m => if m = d.node.toNat then s.u m + 1 else s.u m, s.more⟩ := by unfold closeStep; rw [if_pos (by omega)]
  rw [hcs] at HST
  have HCS := Lib.hid hcs
  rw [hun] at u0 HUP
  have hfz : W1.frozen? ⟨sb, d.node.toNat, none⟩ = false := by unfold World.frozen?; rw [hrow1]; simp
  obtain ⟨q, hq⟩ : ∃ q, un + 1 = q := ⟨_, rfl⟩
  rw [hq] at he hwr HUP
  have HE := Lib.hid he
  clear htop hpos hcs hun
  go_quiet (fail)
  go_wp2_with fail
  go_end0
  have hob := heap_setCell_same (W1.drewN nq) sb d.node.toNat _ _ (.int .i64 q) hrow1
  rw [HUP.out] at hob
  refine ⟨rfl, hd, ?_⟩
  rw [HCS.out]
  refine ⟨HST.out, hob, ?_, (HI.out.below.trans (HB0.out.mono (by have := HI.out.below.size; omega))).trans (((below_drewN W1 nq).mono (by have := HI.out.below.size; have := HB0.out.size; omega)).setCell (p := ⟨sb, d.node.toNat, none⟩) hbase (.int .i64 q))⟩
  refine (HI.out.own.below HB0.out (Nat.le_of_eq hdb)).keep fun b hb => ?_
  have := (HI.out.own.lt b hb).1
  exact Below.heap_setCell (W1.drewN nq) ⟨sb, d.node.toNat, none⟩ _ _ (by show b ≠ sb; omega)
 ·have hcs : closeStep s d = ⟨s.u, s.more ++ [d]⟩ := by unfold closeStep; rw [if_neg (by omega)]
  rw [hcs] at HST
  have HCS := Lib.hid hcs
  rw [hun] at u0
  obtain ⟨q, hq⟩ : ∃ q, un + 1 = q := ⟨_, rfl⟩
  rw [hq] at he hwr
  have cm := set_more (u := s.u) hrow1
  have hfz : W1.frozen? ⟨sb, 8, none⟩ = false := by unfold World.frozen?; rw [hrow1]; simp
  have hown := HI.out.own.below HB0.out (Nat.le_of_eq hdb)
  obtain ⟨oh, ch, hhv⟩ := slAt_slice hown.at
  rw [hhv] at cm hown
  have HOWN := Lib.hid hown
  have HHV := Lib.hid hhv
  clear htop hpos hcs hun HUP hown hhv
  go_quiet (fail)
  have hbq : Below W1.heap.size W1 ((W1.drewN nq).alloc (.cells #[.int .i64 d.node, .int .i64 d.seq] 40)) := (below_drewN W1 nq).alloc (Nat.le_refl _) _
  have HBQ := Lib.hid hbq
  clear hbq
  go_wp2_with (at_builtin; refine wpList_app Dot.cells 2 Dot.cells_len (by decide) Dot.cells_one _ rfl _ _ 34 rfl (sb + 1) 40 _ 16 Tryz.underlying34 infoDot rfl _ s.more rfl ?h1 _ [d] rfl ?h2 ?h3 ?h4 ?h5 ?_)
  case h1 => exact HOWN.out.below HBQ.out (Nat.le_refl _)
  case h2 => exact slAt_new (enc := Dot.cells) (W1.drewN nq) #[.int .i64 d.node, .int .i64 d.seq] 40 1 1 (0, 0) [d] rfl rfl (by decide)
  case h3 => simp only [List.length_singleton]; omega
  case h4 => simp only [List.length_singleton]; omega
  case h5 => have := HBQ.out.size; omega
  intro v' w' hown2 hg2 hv2
  have hex : ∃ h : Hdr, v' = h.val := hdr_of_slAt hown2.at
  obtain ⟨⟨o2, n2, c2⟩, hvv⟩ := hex
  simp only [Hdr.val] at hvv
  subst hvv
  have hlow : ∀ x, (Value.slice oh s.more.length ch).ownBlock = some x → sb + 1 ≤ x := fun x hx => (HOWN.out.lt x hx).1
  have hrow2 : w'.heap[sb]? = some (.cells (setObj s.u hd.val) 48) := (hg2.block sb (by have := HBQ.out.size; omega) (fun e => by have := hlow sb e.symm; omega)).trans ((HBQ.out.block sb (by omega)).trans hrow1)
  have cm2 := set_more (u := s.u) hrow2
  have hfz2 : w'.frozen? ⟨sb, 8, none⟩ = false := by unfold World.frozen?; rw [hrow2]; simp
  have HOWN2 := Lib.hid hown2
  have hbw : Below base w w' := (HI.out.below.trans ((HB0.out.trans (HBQ.out.mono (by have := HB0.out.size; omega))).mono (by have := HI.out.below.size; omega))).grown hg2 (by have := HI.out.below.size; have := HBQ.out.size; have := HB0.out.size; omega) (fun x hx => by have := hlow x hx; omega)
  have HBW := Lib.hid hbw
  have HROW2 := Lib.hid hrow2
  clear hown2 hg2 hv2 hrow2 hbw cm d0 d1 u0 hfz hrow1 hnew
  go_wp2_with fail
  go_end0
  have hob := heap_setCell_same w' sb 8 _ _ (.slice o2 n2 c2) HROW2.out
  rw [setObj_more] at hob
  refine ⟨rfl, ⟨o2, n2, c2⟩, ?_⟩
  rw [HCS.out]
  refine ⟨HST.out, hob, ?_, HBW.out.setCell (p := ⟨sb, 8, none⟩) hbase (.slice o2 n2 c2)⟩
  refine HOWN2.out.keep fun b hb => ?_
  have := (HOWN2.out.lt b hb).1
  exact Below.heap_setCell w' ⟨sb, 8, none⟩ _ _ (by show b ≠ sb; omega)
set_option maxHeartbeats 8000000 in
theorem close_any (b : Nat) (g : Grid) (hg : g.Ok) (w : World) (h : GridAt w b g) :
  Calls Tryz.prog 108 #[.pointer (some ⟨b, 0, none⟩)] w fun e w' => ∃ (hd : Hdr) (s : DSet), e = .returned (.agg (qcells (hd, s)).toArray) ∧ Closes g s ∧ Owns Dot.cells 2 w.heap.size 40 w' hd.val s.more ∧ Below w.heap.size w w' := by
 have eg : ∀ args w, (callFunc 126 args).run Tryz.prog w = .ok (.enter 126 args) w := enters_of Tryz.func126 (by kernel_rfl) rfl
 have hwk := walk_any 126 #[] #[.pointer (some ⟨w.heap.size, 0, none⟩)] eg b g (fun k W => ∃ s hd, CloseAt w w.heap.size w.heap.size g k W s hd)
  (fun k hk hgk W ⟨s, hd, hI⟩ => (closeFn_any w w.heap.size w.heap.size (Nat.le_refl _) g hg k hk hgk W s hd hI).mono fun e w' ⟨he, hd', h'⟩ => ⟨he, _, hd', h'⟩)
  (fun k hk hgk W ⟨s, hd, hI⟩ => ⟨s, hd, hI.ing.skip hgk, hI.obj, hI.own, hI.below⟩)
  (fun k W ⟨s, hd, hI⟩ => h.below hI.below h.lt)
  (w.alloc (.cells (setObj DSet.none.u (.slice none 0 0)) 48)) ⟨DSet.none, ⟨none, 0, 0⟩, closing_start g, heap_alloc_new w _, Owns.nil _ _ _ _ _, (Below.refl _ _).alloc (Nat.le_refl _) _⟩
 have HWK := Lib.hid hwk
 have HGO := Lib.hid hg
 clear hwk hg h
 go_enter Tryz.func108, Tryz.ntmps108
 go_wp2_with fail
 refine HWK.out.mono ?_
 rintro e w1 ⟨rfl, s, hd, hI⟩
 have hrow := hI.obj
 obtain ⟨u, more⟩ := s
 obtain ⟨oh, n, ch⟩ := hd
 have HOB := Lib.hid hI.own
 have HBE := Lib.hid hI.below
 have HCL := Lib.hid hI.ing
 have hA : ∀ o, w1.cell? ⟨w.heap.size, o, none⟩ = (#[.int .i64 (u 0), .int .i64 (u 1), .int .i64 (u 2), .int .i64 (u 3), .int .i64 (u 4), .int .i64 (u 5), .int .i64 (u 6), .int .i64 (u 7), .slice oh n ch] : Array Value)[o]? := fun o => by unfold World.cell?; rw [hrow]; rfl
 have fA : ∀ o, w1.frozen? ⟨w.heap.size, o, none⟩ = false := fun o => by unfold World.frozen?; rw [hrow]; simp
 clear hI hrow HWK
 go_wp2_with fail
 refine bodyPost_ret (v := .agg #[.int .i64 (u 0), .int .i64 (u 1), .int .i64 (u 2), .int .i64 (u 3), .int .i64 (u 4), .int .i64 (u 5), .int .i64 (u 6), .int .i64 (u 7), .slice oh n ch]) (by simp [results, Tryz.results108, go_sem, cell_set, hA]) rfl ⟨⟨oh, n, ch⟩, ⟨u, more⟩, rfl, HCL.out.done HGO.out, ?_, ?_⟩
 ·refine (HOB.out.keep fun b hb => ?_).lower (by omega)
  have hbb := (HOB.out.lt b hb).1
  have key : ∀ (W : World) (o : Nat) (u : Value), (W.setCell ⟨w.heap.size, o, none⟩ u).heap[b]? = W.heap[b]? := fun W o u => Below.heap_setCell _ _ _ _ (by show b ≠ w.heap.size; omega)
  simp only [key]
 ·have hb := HBE.out
  clear hA fA
  go_grown
end Go.Proofs.YtenkfnhcdfmkaaaGreat
namespace Go.Proofs.YtenkfnhcdfmkaaaGreat
open Go.Shelf Go.RowKit Go.Lib Go.Sort
set_option linter.unusedVariables false
noncomputable def hasB (s : DSet) (d : Dot) : Bool := s.grid d.node.toNat d.seq.toNat
def AddPost (s : DSet) (d : Dot) (base : Nat) (w : World) (e : Ending) (w' : World) : Prop :=
 ∃ (hd : Hdr) (t : DSet) (c : Int), e = .returned (.tuple #[.agg (qcells (hd, t)).toArray, .int .i64 c]) ∧ Owns Dot.cells 2 base 40 w' hd.val t.more ∧ Below base w w' ∧
  ((¬ May d ∧ c = 2 ∧ t = DSet.none) ∨ (May d ∧ hasB s d = true ∧ c = 9 ∧ t = DSet.none) ∨ (May d ∧ hasB s d = false ∧ c = 0 ∧ Closes (s.grid.put d.node.toNat d.seq.toNat) t))
theorem orAll_one (s : DSet) : orAll [s] = s.grid := by
 unfold orAll
 funext n q
 simp [Grid.or, Grid.none]
theorem alloc3 (w : World) (o0 o1 o2 : Obj) : (((w.alloc o0).alloc o1).alloc o2).heap[w.heap.size]? = some o0 ∧ (((w.alloc o0).alloc o1).alloc o2).heap[w.heap.size + 1]? = some o1 ∧ (((w.alloc o0).alloc o1).alloc o2).heap[w.heap.size + 1 + 1]? = some o2 ∧
  Below w.heap.size w (((w.alloc o0).alloc o1).alloc o2) ∧ (((w.alloc o0).alloc o1).alloc o2).heap.size = w.heap.size + 3 := by
 have s1 : (w.alloc o0).heap.size = w.heap.size + 1 := World.size_alloc _ _
 have s2 : ((w.alloc o0).alloc o1).heap.size = w.heap.size + 1 + 1 := by rw [World.size_alloc, s1]
 refine ⟨?_, ?_, ?_, (((Below.refl _ _).alloc (Nat.le_refl _) _).alloc (by omega) _).alloc (by omega) _, by rw [World.size_alloc, s2]⟩
 ·rw [Below.heap_alloc _ _ _ (by omega), Below.heap_alloc _ _ _ (by omega), heap_alloc_new]
 ·rw [Below.heap_alloc _ _ _ (by omega), ← s1, heap_alloc_new]
 ·rw [← s2, heap_alloc_new]
set_option maxHeartbeats 8000000 in
theorem add_any (oa : Option Addr) (cap : Nat) (s : DSet) (d : Dot) (w : World) (h : SlAt Dot.cells w (.slice oa s.more.length cap) s.more) (hl : s.more.length ≤ 1000000) :
  Calls Tryz.prog 77 #[.agg #[.int .i64 (s.u 0), .int .i64 (s.u 1), .int .i64 (s.u 2), .int .i64 (s.u 3), .int .i64 (s.u 4), .int .i64 (s.u 5), .int .i64 (s.u 6), .int .i64 (s.u 7), .slice oa s.more.length cap], .agg #[.int .i64 d.node, .int .i64 d.seq]] w (AddPost s d w.heap.size w) := by
 have hmay := fun W => may_any d W
 have HM := Lib.hid hmay
 have HS := Lib.hid h
 clear hmay h
 have h3 := alloc3 w (.cells #[.int .i64 (s.u 0), .int .i64 (s.u 1), .int .i64 (s.u 2), .int .i64 (s.u 3), .int .i64 (s.u 4), .int .i64 (s.u 5), .int .i64 (s.u 6), .int .i64 (s.u 7), .slice oa s.more.length cap] 48) (.cells #[.int .i64 d.node, .int .i64 d.seq] 40) (.cells #[.int .i64 0, .int .i64 0, .int .i64 0, .int .i64 0, .int .i64 0, .int .i64 0, .int .i64 0, .int .i64 0, .slice none 0 0] 48)
 have H3 := Lib.hid h3
 clear h3
 go_enter Tryz.func77, Tryz.ntmps77
 go_wp2_with fail
 obtain ⟨hr0, hr1, hr2, hb0, hsz⟩ := H3.out
 clear H3
 generalize ((w.alloc (.cells #[.int .i64 (s.u 0), .int .i64 (s.u 1), .int .i64 (s.u 2), .int .i64 (s.u 3), .int .i64 (s.u 4), .int .i64 (s.u 5), .int .i64 (s.u 6), .int .i64 (s.u 7), .slice oa s.more.length cap] 48)).alloc (.cells #[.int .i64 d.node, .int .i64 d.seq] 40)).alloc (.cells #[.int .i64 0, .int .i64 0, .int .i64 0, .int .i64 0, .int .i64 0, .int .i64 0, .int .i64 0, .int .i64 0, .slice none 0 0] 48) = w1 at *
 refine (HM.out _).mono ?_
 rintro e w2 ⟨rfl, hg2⟩
 have hb2 := hg2.below
 have hz2 := hb2.size
 have r0 := (hb2.block _ (by omega)).trans hr0
 have r1 := (hb2.block _ (by omega)).trans hr1
 have r2 := (hb2.block _ (by omega)).trans hr2
 have HB2 := Lib.hid (hb0.trans (hb2.mono hb0.size))
 clear hb2 hg2 hr0 hr1 hr2 hb0
 have cA : ∀ o, w2.cell? ⟨w.heap.size + 1 + 1, o, none⟩ = (#[.int .i64 0, .int .i64 0, .int .i64 0, .int .i64 0, .int .i64 0, .int .i64 0, .int .i64 0, .int .i64 0, .slice none 0 0] : Array Value)[o]? := fun o => by unfold World.cell?; rw [r2]; rfl
 have fA : ∀ o, w2.frozen? ⟨w.heap.size + 1 + 1, o, none⟩ = false := fun o => by unfold World.frozen?; rw [r2]; simp
 by_cases hm : May d
 ·have hmb : mayB d = true := decide_eq_true hm
  have HMY := Lib.hid hm
  simp only [hmb]
  have sA : ∀ o, w2.cell? ⟨w.heap.size, o, none⟩ = (#[.int .i64 (s.u 0), .int .i64 (s.u 1), .int .i64 (s.u 2), .int .i64 (s.u 3), .int .i64 (s.u 4), .int .i64 (s.u 5), .int .i64 (s.u 6), .int .i64 (s.u 7), .slice oa s.more.length cap] : Array Value)[o]? := fun o => by unfold World.cell?; rw [r0]; rfl
  have hof := of_any (some ⟨w2.heap.size, 0, none⟩) 1 [(⟨oa, s.more.length, cap⟩, s)] (w2.alloc (.cells #[.int .i64 (s.u 0), .int .i64 (s.u 1), .int .i64 (s.u 2), .int .i64 (s.u 3), .int .i64 (s.u 4), .int .i64 (s.u 5), .int .i64 (s.u 6), .int .i64 (s.u 7), .slice oa s.more.length cap] 48))
   ⟨slAt_new (enc := qcells) w2 _ _ 1 1 (0, 0) [(⟨oa, s.more.length, cap⟩, s)] rfl rfl (by decide), fun p hp => by
    obtain rfl : p = (⟨oa, s.more.length, cap⟩, s) := by simpa using hp
    exact ⟨HS.out.below Dot.cells_len (by decide) (HB2.out.alloc HB2.out.size _) (Nat.le_refl _), hl⟩⟩ (by simp)
  have HOF := Lib.hid hof
  clear hmb hm hof cA fA
  go_wp2_with fail
  refine HOF.out.mono ?_
  rintro e w3 ⟨gb, rfl, hgb, hgr, hb3⟩
  simp only [List.map_cons, List.map_nil, orAll_one] at hgr
  have hgb2 : w2.heap.size < gb := by rw [World.size_alloc] at hgb; omega
  have hb23 : Below w2.heap.size w2 w3 := ((Below.refl _ _).alloc (Nat.le_refl _) _).trans (hb3.mono (by simp))
  have hz3 := hb23.size
  have q1 := (hb23.block _ (by omega)).trans r1
  have q2 := (hb23.block _ (by omega)).trans r2
  have HB3 := Lib.hid (HB2.out.trans (hb23.mono HB2.out.size))
  have HMB := Lib.hid HMY.out
  have hm := HMY.out
  unfold May at hm
  have gc := hgr.cell d.node.toNat d.seq.toNat (by omega) (by omega)
  have d0 : w3.cell? ⟨w.heap.size + 1, 0, none⟩ = some (.int .i64 d.node) := cell_of_row w3 _ 0 _ _ _ q1
  have d1 : w3.cell? ⟨w.heap.size + 1, 1, none⟩ = some (.int .i64 d.seq) := cell_of_row w3 _ 1 _ _ _ q1
  have HGR := Lib.hid hgr
  clear sA HOF hgr hb3 hb23 r0 r1 r2 hgb
  obtain ⟨hm1, hm2, hm3, hm4⟩ := hm
  cases hh : s.grid d.node.toNat d.seq.toNat with
  | true =>
   rw [hh] at gc
   have HH := Lib.hid hh
   have cA : ∀ o, w3.cell? ⟨w.heap.size + 1 + 1, o, none⟩ = (#[.int .i64 0, .int .i64 0, .int .i64 0, .int .i64 0, .int .i64 0, .int .i64 0, .int .i64 0, .int .i64 0, .slice none 0 0] : Array Value)[o]? := fun o => by unfold World.cell?; rw [q2]; rfl
   have fA : ∀ o, w3.frozen? ⟨w.heap.size + 1 + 1, o, none⟩ = false := fun o => by unfold World.frozen?; rw [q2]; simp
   clear q1 q2 hh
   go_wp2_with fail
   go_quiet (fail)
   go_wp2_with fail
   refine bodyPost_ret (v := .tuple #[.agg #[.int .i64 0, .int .i64 0, .int .i64 0, .int .i64 0, .int .i64 0, .int .i64 0, .int .i64 0, .int .i64 0, .slice none 0 0], .int .i64 9]) (by simp [results, Tryz.results77, go_sem, cell_set, cA]) rfl ⟨⟨none, 0, 0⟩, DSet.none, 9, rfl, Owns.nil _ _ _ _ _, ?_, .inr (.inl ⟨HMB.out, HH.out, rfl, rfl⟩)⟩
   have hb := HB3.out
   clear cA fA d0 d1 gc
   go_grown
   exact below_drewN' hb nq
  | false =>
   rw [hh] at gc
   have HH := Lib.hid hh
   have hpt := fun W (hW : GridAt W gb s.grid) => put_any gb s.grid d W hW hm1 hm2 (by omega) (by omega)
   have HPT := Lib.hid hpt
   have HQ1 := Lib.hid q1
   have HQ2 := Lib.hid q2
   clear hh hpt q1 q2
   go_wp2_with fail
   go_quiet (fail)
   go_wp2_with fail
   refine (HPT.out (w3.drewN nq) HGR.out).mono ?_
   rintro e w4 ⟨rfl, hgr4, hgw4⟩
   have hgok : (s.grid.put d.node.toNat d.seq.toNat).Ok := s.grid_ok.put (by omega) (by omega) (by omega)
   have hz4 := hgw4.size
   have q24 := (hgw4.block _ (by show _ < w3.heap.size; omega) (fun e => by have := Option.some.inj e; omega)).trans HQ2.out
   have HB4 := Lib.hid ((below_drewN' HB3.out nq).grown hgw4 (HB3.out.size) (fun k hk => by cases hk; omega))
   have hcl := close_any gb _ hgok w4 hgr4
   have HCL := Lib.hid hcl
   clear hcl hgr4 hgw4 hgok gc d0 d1 HPT HQ1 HQ2 HGR
   go_wp2_with fail
   refine HCL.out.mono ?_
   rintro e w5 ⟨⟨o5, n5, c5⟩, ⟨u5, m5⟩, rfl, hcs, hown, hb5⟩
   have q25 := (hb5.block _ (by simp at hz4; omega)).trans q24
   have cA : ∀ o, w5.cell? ⟨w.heap.size + 1 + 1, o, none⟩ = (#[.int .i64 0, .int .i64 0, .int .i64 0, .int .i64 0, .int .i64 0, .int .i64 0, .int .i64 0, .int .i64 0, .slice none 0 0] : Array Value)[o]? := fun o => by unfold World.cell?; rw [q25]; rfl
   have fA : ∀ o, w5.frozen? ⟨w.heap.size + 1 + 1, o, none⟩ = false := fun o => by unfold World.frozen?; rw [q25]; simp
   have HB5 := Lib.hid (HB4.out.trans (hb5.mono HB4.out.size))
   have HCS := Lib.hid hcs
   have HOW := Lib.hid hown
   have hz4' : w3.heap.size ≤ w4.heap.size := hz4
   clear q24 q25 hb5 hcs hown HCL
   simp only [qcells, Hdr.val]
   go_wp2_with fail
   refine bodyPost_ret (v := .tuple #[.agg #[.int .i64 (u5 0), .int .i64 (u5 1), .int .i64 (u5 2), .int .i64 (u5 3), .int .i64 (u5 4), .int .i64 (u5 5), .int .i64 (u5 6), .int .i64 (u5 7), .slice o5 n5 c5], .int .i64 0]) (by simp [results, Tryz.results77, go_sem, cell_set, cA]) rfl ⟨⟨o5, n5, c5⟩, ⟨u5, m5⟩, 0, rfl, ?_, ?_, .inr (.inr ⟨HMB.out, HH.out, rfl, HCS.out⟩)⟩
   ·refine (HOW.out.keep fun b hb => ?_).lower (by omega)
    have hbb := (HOW.out.lt b hb).1
    have key : ∀ (W : World) (o : Nat) (u : Value), (W.setCell ⟨w.heap.size + 1 + 1, o, none⟩ u).heap[b]? = W.heap[b]? := fun W o u => Below.heap_setCell _ _ _ _ (by show b ≠ w.heap.size + 1 + 1; omega)
    simp only [key]
   ·have hb := HB5.out
    clear cA fA
    go_grown
 ·have hmb : mayB d = false := decide_eq_false hm
  have HNM := Lib.hid hm
  simp only [hmb]
  clear hm hmb r0 r1 r2 hz2
  go_wp2_with fail
  refine bodyPost_ret (v := .tuple #[.agg #[.int .i64 0, .int .i64 0, .int .i64 0, .int .i64 0, .int .i64 0, .int .i64 0, .int .i64 0, .int .i64 0, .slice none 0 0], .int .i64 2]) (by simp [results, Tryz.results77, go_sem, cell_set, cA]) rfl ⟨⟨none, 0, 0⟩, DSet.none, 2, rfl, Owns.nil _ _ _ _ _, ?_, .inl ⟨HNM.out, rfl, rfl⟩⟩
  have hb := HB2.out
  clear cA fA
  go_grown
end Go.Proofs.YtenkfnhcdfmkaaaGreat
