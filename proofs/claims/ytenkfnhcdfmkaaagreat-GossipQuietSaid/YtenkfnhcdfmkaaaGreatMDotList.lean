/-
  dotset.Join, List and Count walked.
  A set of dots in a block of its own.
  book.set walked: the set that holds just the dots of a map.
  (*book.Book).Seen and Clock walked.
-/
import Derived.Test.YtenkfnhcdfmkaaaGreatMDotClose
import Derived.Test.YtenkfnhcdfmkaaaGreatMAcc
import Derived.Test.YtenkfnhcdfmkaaaGreatMBookQ
namespace Go.Proofs.YtenkfnhcdfmkaaaGreat
open Go.Shelf Go.RowKit Go.Lib Go.Sort
set_option linter.unusedVariables false
theorem of_one (oa : Option Addr) (cap : Nat) (s : DSet) (w : World) (h : SlAt Dot.cells w (.slice oa s.more.length cap) s.more) (hl : s.more.length ≤ 1000000) :
  Calls Tryz.prog 52 #[.slice (some ⟨w.heap.size, 0, none⟩) 1 1] (w.alloc (.cells #[.int .i64 (s.u 0), .int .i64 (s.u 1), .int .i64 (s.u 2), .int .i64 (s.u 3), .int .i64 (s.u 4), .int .i64 (s.u 5), .int .i64 (s.u 6), .int .i64 (s.u 7), .slice oa s.more.length cap] 48)) fun e w' => ∃ b, e = .returned (.pointer (some ⟨b, 0, none⟩)) ∧ w.heap.size < b ∧ GridAt w' b s.grid ∧ Below w.heap.size w w' := by
 refine (of_any (some ⟨w.heap.size, 0, none⟩) 1 [(⟨oa, s.more.length, cap⟩, s)] _ ⟨slAt_new (enc := qcells) w _ _ 1 1 (0, 0) [(⟨oa, s.more.length, cap⟩, s)] rfl rfl (by decide), fun p hp => ?_⟩ (by simp)).mono ?_
 ·obtain rfl : p = (⟨oa, s.more.length, cap⟩, s) := by simpa using hp
  exact ⟨h.below Dot.cells_len (by decide) ((Below.refl w.heap.size w).alloc (Nat.le_refl _) _) (Nat.le_refl _), hl⟩
 ·rintro e w3 ⟨gb, rfl, hgb, hgr, hb3⟩
  simp only [List.map_cons, List.map_nil, orAll_one] at hgr
  rw [World.size_alloc] at hgb
  exact ⟨gb, rfl, by omega, hgr, ((Below.refl _ _).alloc (Nat.le_refl _) _).trans (hb3.mono (by simp))⟩
theorem grown_then {a b c : World} {row row' : Option Nat} (h : a.grownBy b row) (k : b.grownBy c row') (hr : ∀ j, row' = some j → a.heap.size ≤ j ∨ row = some j) : a.grownBy c row :=
 ⟨k.os.trans h.os, k.tape.trans h.tape, k.output.trans h.output, Nat.le_trans h.size k.size, fun i hi hne =>
  (k.block i (Nat.lt_of_lt_of_le hi h.size) (fun e => by
   rcases hr i e.symm with h1 | h1
   ·omega
   ·exact hne h1.symm)).trans (h.block i hi hne)⟩
theorem grown_set {a b : World} {ob o : Nat} (h : a.grownBy b (some ob)) (v : Value) : a.grownBy (b.setCell ⟨ob, o, none⟩ v) (some ob) :=
 ⟨h.os, h.tape, h.output, by have := h.size; simpa using this, fun i hi hne => (Below.heap_setCell b ⟨ob, o, none⟩ _ _ (fun e => hne (by rw [e]))).trans (h.block i hi hne)⟩
structure ListAt (ob : Nat) (g : Grid) (k : Nat) (W0 W : World) (hd : Hdr) : Prop where
 lt : ob < W0.heap.size
 obj : W.heap[ob]? = some (.cells #[hd.val] 34)
 own : Owns Dot.cells 2 W0.heap.size 40 W hd.val (dotsTo g k)
 grew : W0.grownBy W (some ob)
theorem dotsTo_len (g : Grid) (k : Nat) : (dotsTo g k).length ≤ k := by
 unfold dotsTo
 rw [List.length_map]
 exact Nat.le_trans (List.length_filter_le _ _) (by rw [List.length_range]; exact Nat.le_refl _)
set_option maxHeartbeats 8000000 in
theorem listFn_any (ob : Nat) (g : Grid) (k : Nat) (hk : k < 784) (hgk : gridAt g k = true) (W0 W : World) (hd : Hdr) (h : ListAt ob g k W0 W hd) :
  Calls Tryz.prog 92 #[.agg #[.int .i64 (dotAt k).node, .int .i64 (dotAt k).seq], .pointer (some ⟨ob, 0, none⟩)] W fun e w' => e = .returned (.tuple #[]) ∧ ∃ hd', ListAt ob g (k + 1) W0 w' hd' := by
 have hyes := dotsTo_yes hgk
 have hlen := dotsTo_len g k
 generalize dotAt k = d at *
 obtain ⟨oh, n, ch⟩ := hd
 have hrow := h.obj
 have hob0 := h.lt
 have hob : ob < W.heap.size := (Array.getElem?_eq_some_iff.1 hrow).1
 have hsz0 := h.grew.size
 have hn : n = (dotsTo g k).length := by
  obtain ⟨_, _, hv, _⟩ := h.own.at.slice_of
  simp only [Hdr.val, Value.slice.injEq] at hv
  exact hv.2.1
 subst hn
 have hb0 := (Below.refl W.heap.size W).alloc (Nat.le_refl _) (.cells #[.int .i64 d.node, .int .i64 d.seq] 40)
 have hown := h.own.below hb0 (Nat.le_refl _)
 have HGW := Lib.hid h.grew
 have HYES := Lib.hid hyes
 simp only [Hdr.val] at hrow hown
 have HOWN := Lib.hid hown
 have HROW := Lib.hid hrow
 have c0 : W.cell? ⟨ob, 0, none⟩ = some (.slice oh (dotsTo g k).length ch) := cell_of_row W ob 0 _ _ _ hrow
 have z0 : W.frozen? ⟨ob, 0, none⟩ = false := by unfold World.frozen?; rw [hrow]; simp
 clear hyes h hb0 hown hrow
 generalize hml : dotsTo g k = ml at *
 go_enter Tryz.func92, Tryz.ntmps92
 go_wp2_with (at_builtin; refine wpList_app Dot.cells 2 Dot.cells_len (by decide) Dot.cells_one _ rfl _ _ 34 rfl W0.heap.size 40 _ 16 Tryz.underlying34 infoDot rfl _ ml rfl ?h1 _ [d] rfl ?h2 ?h3 ?h4 ?h5 ?_)
 case h1 => exact HOWN.out.below ((Below.refl _ _).alloc (Nat.le_refl _) _) (Nat.le_refl _)
 case h2 =>
  have := slAt_new (enc := Dot.cells) (W.alloc (.cells #[.int .i64 d.node, .int .i64 d.seq] 40)) #[.int .i64 d.node, .int .i64 d.seq] 40 1 1 (0, 0) [d] rfl rfl (by decide)
  rw [World.size_alloc] at this
  exact this
 case h3 => simp only [List.length_singleton]; omega
 case h4 => simp only [List.length_singleton]; omega
 case h5 => simp; omega
 intro v' w' hown2 hg2 hv2
 have hex : ∃ h : Hdr, v' = h.val := hdr_of_slAt hown2.at
 obtain ⟨⟨o2, n2, c2⟩, hvv⟩ := hex
 simp only [Hdr.val] at hvv
 subst hvv
 have hlow : ∀ x, (Value.slice oh ml.length ch).ownBlock = some x → W0.heap.size ≤ x := fun x hx => (HOWN.out.lt x hx).1
 have hrow2 : w'.heap[ob]? = some (.cells #[.slice oh ml.length ch] 34) := (hg2.block ob (by simp; omega) (fun e => by have := hlow ob e.symm; omega)).trans ((Below.heap_alloc _ _ _ (by simp; omega)).trans ((Below.heap_alloc _ _ _ hob).trans HROW.out))
 have k0 : w'.cell? ⟨ob, 0, none⟩ = some (.slice oh ml.length ch) := cell_of_row w' ob 0 _ _ _ hrow2
 have z2 : w'.frozen? ⟨ob, 0, none⟩ = false := by unfold World.frozen?; rw [hrow2]; simp
 have HOWN2 := Lib.hid hown2
 have HGW2 := Lib.hid (grown_then (HGW.out.trans ((World.grownBy_alloc W (.cells #[.int .i64 d.node, .int .i64 d.seq] 40) (some ob)).trans (World.grownBy_alloc _ (.cells #[.int .i64 d.node, .int .i64 d.seq] 40) (some ob)))) hg2 (fun x hx => .inl (hlow x hx)))
 have HROW2 := Lib.hid hrow2
 clear hown2 hg2 hv2 hrow2 c0 z0
 go_wp2_with fail
 go_end0
 have hob := heap_setCell_same w' ob 0 _ _ (.slice o2 n2 c2) HROW2.out
 refine ⟨rfl, ⟨o2, n2, c2⟩, hob0, hob, ?_, grown_set HGW2.out _⟩
 rw [HYES.out]
 refine HOWN2.out.keep fun b hb => ?_
 have := (HOWN2.out.lt b hb).1
 exact Below.heap_setCell w' ⟨ob, 0, none⟩ _ _ (by show b ≠ ob; omega)
set_option maxHeartbeats 8000000 in
theorem list_any (oa : Option Addr) (cap : Nat) (s : DSet) (w : World) (h : SlAt Dot.cells w (.slice oa s.more.length cap) s.more) (hl : s.more.length ≤ 1000000) :
  Calls Tryz.prog 58 #[.agg #[.int .i64 (s.u 0), .int .i64 (s.u 1), .int .i64 (s.u 2), .int .i64 (s.u 3), .int .i64 (s.u 4), .int .i64 (s.u 5), .int .i64 (s.u 6), .int .i64 (s.u 7), .slice oa s.more.length cap]] w fun e w' => ∃ hd : Hdr, e = .returned hd.val ∧ Owns Dot.cells 2 w.heap.size 40 w' hd.val (dotsOf s.grid) ∧ Below w.heap.size w w' := by
 have eg : ∀ args w, (callFunc 92 args).run Tryz.prog w = .ok (.enter 92 args) w := enters_of Tryz.func92 (by kernel_rfl) rfl
 have hwk := fun (gb : Nat) (W : World) (hW : GridAt W gb s.grid) (hob : W.heap[w.heap.size + 1]? = some (.cells #[.slice none 0 0] 34)) (hne : gb ≠ w.heap.size + 1) =>
  walk_any 92 #[] #[.pointer (some ⟨w.heap.size + 1, 0, none⟩)] eg gb s.grid (fun k W' => ∃ hd, ListAt (w.heap.size + 1) s.grid k W W' hd)
  (fun k hk hgk W' ⟨hd, hI⟩ => listFn_any (w.heap.size + 1) s.grid k hk hgk W W' hd hI)
  (fun k hk hgk W' ⟨hd, hI⟩ => ⟨hd, hI.lt, hI.obj, by rw [dotsTo_no hgk]; exact hI.own, hI.grew⟩)
  (fun k W' ⟨hd, hI⟩ => hW.kept hI.grew (fun e => hne (Option.some.inj e)))
  W ⟨⟨none, 0, 0⟩, (Array.getElem?_eq_some_iff.1 hob).1, hob, Owns.nil _ _ _ _ _, World.grownBy.refl _ _⟩
 have hb2 := ((Below.refl w.heap.size w).alloc (Nat.le_refl _) (.cells #[.int .i64 (s.u 0), .int .i64 (s.u 1), .int .i64 (s.u 2), .int .i64 (s.u 3), .int .i64 (s.u 4), .int .i64 (s.u 5), .int .i64 (s.u 6), .int .i64 (s.u 7), .slice oa s.more.length cap] 48)).alloc (by simp) (.cells #[.slice none 0 0] 34)
 have hof := of_one oa cap s _ (h.below Dot.cells_len (by decide) hb2 (Nat.le_refl _)) hl
 simp only [World.size_alloc] at hof
 have HOF := Lib.hid hof
 have HWK := Lib.hid hwk
 have HB2 := Lib.hid hb2
 have HO := Lib.hid (show ((w.alloc (.cells #[.int .i64 (s.u 0), .int .i64 (s.u 1), .int .i64 (s.u 2), .int .i64 (s.u 3), .int .i64 (s.u 4), .int .i64 (s.u 5), .int .i64 (s.u 6), .int .i64 (s.u 7), .slice oa s.more.length cap] 48)).alloc (.cells #[.slice none 0 0] 34)).heap[w.heap.size + 1]? = some (.cells #[.slice none 0 0] 34) from by
  have := heap_alloc_new (w.alloc (.cells #[.int .i64 (s.u 0), .int .i64 (s.u 1), .int .i64 (s.u 2), .int .i64 (s.u 3), .int .i64 (s.u 4), .int .i64 (s.u 5), .int .i64 (s.u 6), .int .i64 (s.u 7), .slice oa s.more.length cap] 48)) (.cells #[.slice none 0 0] 34)
  rwa [World.size_alloc] at this)
 clear hof hwk hb2 h
 go_enter Tryz.func58, Tryz.ntmps58
 go_wp2_with fail
 refine HOF.out.mono ?_
 rintro e w3 ⟨gb, rfl, hgb, hgr, hb3⟩
 have hob3 := (hb3.block (w.heap.size + 1) (by omega)).trans HO.out
 have HB3 := Lib.hid (HB2.out.trans (hb3.mono (by omega)))
 have hwk3 := HWK.out gb w3 hgr hob3 (by omega)
 have HWK3 := Lib.hid hwk3
 clear hgr hb3 hob3 hwk3 HWK HO HOF HB2
 go_wp2_with fail
 refine HWK3.out.mono ?_
 rintro e w4 ⟨rfl, ⟨o4, n4, c4⟩, hI⟩
 have hrow := hI.obj
 simp only [Hdr.val] at hrow
 have k0 : w4.cell? ⟨w.heap.size + 1, 0, none⟩ = some (.slice o4 n4 c4) := cell_of_row w4 _ 0 _ _ _ hrow
 have z0 : w4.frozen? ⟨w.heap.size + 1, 0, none⟩ = false := by unfold World.frozen?; rw [hrow]; simp
 have HOW := Lib.hid hI.own
 have HB4 := Lib.hid (HB3.out.grown hI.grew HB3.out.size (fun k hk => by cases hk; omega))
 have hlt3 : w.heap.size + 1 < w3.heap.size := hI.lt
 clear hI hrow HWK3
 go_wp2_with fail
 refine bodyPost_ret (v := .slice o4 n4 c4) (by simp [results, Tryz.results58, go_sem, cell_set, k0]) rfl ⟨⟨o4, n4, c4⟩, rfl, ?_, HB4.out.setCell (p := ⟨w.heap.size + 1, 0, none⟩) (by show w.heap.size ≤ w.heap.size + 1; omega) _⟩
 refine (HOW.out.keep fun b hb => ?_).lower (by omega)
 have := (HOW.out.lt b hb).1
 exact Below.heap_setCell w4 ⟨w.heap.size + 1, 0, none⟩ _ _ (by show b ≠ w.heap.size + 1; omega)
end Go.Proofs.YtenkfnhcdfmkaaaGreat
namespace Go.Proofs.YtenkfnhcdfmkaaaGreat
open Go.Shelf Go.RowKit Go.Lib Go.Sort
set_option linter.unusedVariables false
theorem Owns.past {α : Type} {enc : α → List Value} {k base e b : Nat} {w w' : World} {v : Value} {l : List α} (h : Owns enc k base e w v l) (hg : w.grownBy w' (some b)) (hb : b < base) : Owns enc k base e w' v l :=
 h.keep fun g hv => by
  obtain ⟨h1, h2⟩ := h.lt g hv
  exact hg.block g h2 (fun e => by have := Option.some.inj e; omega)
def SetRow (w : World) (b : Nat) (hd : Hdr) (s : DSet) : Prop := w.heap[b]? = some (.cells #[.int .i64 (s.u 0), .int .i64 (s.u 1), .int .i64 (s.u 2), .int .i64 (s.u 3), .int .i64 (s.u 4), .int .i64 (s.u 5), .int .i64 (s.u 6), .int .i64 (s.u 7), hd.val] 48)
theorem SetRow.cells {w : World} {b : Nat} {hd : Hdr} {s : DSet} (h : SetRow w b hd s) : w.cell? ⟨b, 0, none⟩ = some (.int .i64 (s.u 0)) ∧ w.cell? ⟨b, 1, none⟩ = some (.int .i64 (s.u 1)) ∧ w.cell? ⟨b, 2, none⟩ = some (.int .i64 (s.u 2)) ∧ w.cell? ⟨b, 3, none⟩ = some (.int .i64 (s.u 3)) ∧ w.cell? ⟨b, 4, none⟩ = some (.int .i64 (s.u 4)) ∧ w.cell? ⟨b, 5, none⟩ = some (.int .i64 (s.u 5)) ∧ w.cell? ⟨b, 6, none⟩ = some (.int .i64 (s.u 6)) ∧ w.cell? ⟨b, 7, none⟩ = some (.int .i64 (s.u 7)) ∧ w.cell? ⟨b, 8, none⟩ = some hd.val :=
 ⟨cell_of_row w b 0 _ _ _ h, cell_of_row w b 1 _ _ _ h, cell_of_row w b 2 _ _ _ h, cell_of_row w b 3 _ _ _ h, cell_of_row w b 4 _ _ _ h, cell_of_row w b 5 _ _ _ h, cell_of_row w b 6 _ _ _ h, cell_of_row w b 7 _ _ _ h, cell_of_row w b 8 _ _ _ h⟩
theorem SetRow.free {w : World} {b : Nat} {hd : Hdr} {s : DSet} (h : SetRow w b hd s) (o : Nat) : w.frozen? ⟨b, o, none⟩ = false := by unfold World.frozen?; rw [h]; simp
abbrev put9 (w : World) (b : Nat) (s : DSet) (v : Value) : World := (((((((((w.setCell ⟨b, 0, none⟩ (.int .i64 (s.u 0))).setCell ⟨b, 1, none⟩ (.int .i64 (s.u 1))).setCell ⟨b, 2, none⟩ (.int .i64 (s.u 2))).setCell ⟨b, 3, none⟩ (.int .i64 (s.u 3))).setCell ⟨b, 4, none⟩ (.int .i64 (s.u 4))).setCell ⟨b, 5, none⟩ (.int .i64 (s.u 5))).setCell ⟨b, 6, none⟩ (.int .i64 (s.u 6))).setCell ⟨b, 7, none⟩ (.int .i64 (s.u 7))).setCell ⟨b, 8, none⟩ v)
theorem SetRow.put9 {w : World} {b : Nat} {hd : Hdr} {s : DSet} (h : SetRow w b hd s) (hd' : Hdr) (t : DSet) : SetRow (put9 w b t hd'.val) b hd' t := by
 unfold SetRow at h ⊢
 have h0 := heap_setCell_same _ b 0 _ _ (.int .i64 (t.u 0)) h
 simp only [List.setIfInBounds_toArray, List.set_cons_zero] at h0
 have h1 := heap_setCell_same _ b 1 _ _ (.int .i64 (t.u 1)) h0
 simp only [List.setIfInBounds_toArray, List.set_cons_zero, List.set_cons_succ] at h1
 have h2 := heap_setCell_same _ b 2 _ _ (.int .i64 (t.u 2)) h1
 simp only [List.setIfInBounds_toArray, List.set_cons_zero, List.set_cons_succ] at h2
 have h3 := heap_setCell_same _ b 3 _ _ (.int .i64 (t.u 3)) h2
 simp only [List.setIfInBounds_toArray, List.set_cons_zero, List.set_cons_succ] at h3
 have h4 := heap_setCell_same _ b 4 _ _ (.int .i64 (t.u 4)) h3
 simp only [List.setIfInBounds_toArray, List.set_cons_zero, List.set_cons_succ] at h4
 have h5 := heap_setCell_same _ b 5 _ _ (.int .i64 (t.u 5)) h4
 simp only [List.setIfInBounds_toArray, List.set_cons_zero, List.set_cons_succ] at h5
 have h6 := heap_setCell_same _ b 6 _ _ (.int .i64 (t.u 6)) h5
 simp only [List.setIfInBounds_toArray, List.set_cons_zero, List.set_cons_succ] at h6
 have h7 := heap_setCell_same _ b 7 _ _ (.int .i64 (t.u 7)) h6
 simp only [List.setIfInBounds_toArray, List.set_cons_zero, List.set_cons_succ] at h7
 have h8 := heap_setCell_same _ b 8 _ _ hd'.val h7
 simp only [List.setIfInBounds_toArray, List.set_cons_zero, List.set_cons_succ] at h8
 exact h8
theorem grown_put9 {a w : World} {b : Nat} (h : a.grownBy w (some b)) (s : DSet) (v : Value) : a.grownBy (put9 w b s v) (some b) :=
 grown_set (grown_set (grown_set (grown_set (grown_set (grown_set (grown_set (grown_set (grown_set h _) _) _) _) _) _) _) _) _
end Go.Proofs.YtenkfnhcdfmkaaaGreat
namespace Go.Proofs.YtenkfnhcdfmkaaaGreat
open Go.Shelf Go.RowKit Go.Lib Go.Sort
set_option linter.unusedVariables false
def gone (G : Grid) (todo : List (Dot × Value)) : Grid := fun n q => G n q && decide (∀ p ∈ todo, p.1.node.toNat = n → p.1.seq.toNat ≠ q)
theorem gone_nil (G : Grid) : gone G [] = G := by
 funext n q
 simp [gone]
theorem gone_ok {G : Grid} (h : G.Ok) (todo : List (Dot × Value)) : (gone G todo).Ok := fun n q e => by
 unfold gone at e
 rw [Bool.and_eq_true] at e
 exact h n q e.1
theorem gone_all {G : Grid} (h : G.Ok) {E : List (Dot × Value)} (hE : ∀ d, May d → G d.node.toNat d.seq.toNat = true → d ∈ E.map (·.1)) : gone G E = Grid.none := by
 funext n q
 show gone G E n q = false
 unfold gone
 cases hg : G n q with
 | false => rfl
 | true =>
  obtain ⟨h1, h2, h3⟩ := h n q hg
  obtain ⟨p, hp, e⟩ := List.mem_map.1 (hE ⟨n, q⟩ (by unfold May; dsimp only; omega) (by simpa using hg))
  rw [Bool.true_and, decide_eq_false_iff_not]
  intro hall
  exact hall p hp (by rw [e]; simp) (by rw [e]; simp)
theorem gone_not {G : Grid} {todo : List (Dot × Value)} {d : Dot} {v : Value} (hd : (d, v) ∈ todo) : gone G todo d.node.toNat d.seq.toNat = false := by
 unfold gone
 rw [Bool.and_eq_false_iff, decide_eq_false_iff_not]
 exact .inr fun h => h (d, v) hd rfl rfl
theorem gone_del {G : Grid} {todo : List (Dot × Value)} (hm : ∀ p ∈ todo, May p.1 ∧ G p.1.node.toNat p.1.seq.toNat = true) {d : Dot} {v : Value} (hd : (d, v) ∈ todo) : gone G (delE todo d) = (gone G todo).put d.node.toNat d.seq.toNat := by
 obtain ⟨hdm, hdg⟩ := hm _ hd
 funext n q
 rw [Bool.eq_iff_iff]
 unfold gone Grid.put
 simp only [Bool.and_eq_true, Bool.or_eq_true, decide_eq_true_eq]
 constructor
 ·rintro ⟨h1, h2⟩
  by_cases e : n = d.node.toNat ∧ q = d.seq.toNat
  ·exact .inr e
  ·refine .inl ⟨h1, fun p hp e1 e2 => ?_⟩
   by_cases hpd : p.1 = d
   ·rw [hpd] at e1 e2; exact e ⟨e1.symm, e2.symm⟩
   ·exact h2 p (mem_delE.2 ⟨hp, hpd⟩) e1 e2
 ·rintro (⟨h1, h2⟩ | ⟨rfl, rfl⟩)
  ·exact ⟨h1, fun p hp e1 => h2 p (mem_delE.1 hp).1 e1⟩
  ·refine ⟨hdg, fun p hp e1 e2 => ?_⟩
   obtain ⟨hp1, hp2⟩ := mem_delE.1 hp
   exact hp2 (may_inj (hm p hp1).1 hdm e1 e2)
theorem DotRange.sub {w : World} {b r : Nat} {E todo : List (Dot × Value)} (h : DotRange w b r E todo) : ∀ p ∈ todo, p ∈ E := by
 obtain ⟨_, _, _, _, _, _, h, _⟩ := h
 exact h
set_option maxHeartbeats 8000000 in
theorem bookSet_any (ms : Nat) (G : Grid) (hG : G.Ok) (Es : List (Dot × Value)) (w : World) (h : DotMapAt w ms Es) (hE : ∀ d v, (d, v) ∈ Es ↔ v = .bool true ∧ May d ∧ G d.node.toNat d.seq.toNat = true) :
  Calls Tryz.prog 35 #[.map (some ms)] w fun e w' => ∃ (hd : Hdr) (r : DSet), e = .returned (.agg (qcells (hd, r)).toArray) ∧ Closes G r ∧ Owns Dot.cells 2 w.heap.size 40 w' hd.val r.more ∧ Below w.heap.size w w' := by
 have hm2 := (h.below (((Below.refl w.heap.size w).alloc (Nat.le_refl _) (.cells #[.int .i64 0, .int .i64 0, .int .i64 0, .int .i64 0, .int .i64 0, .int .i64 0, .int .i64 0, .int .i64 0, .slice none 0 0] 48)).alloc (by simp) (.cells #[.int .i64 0, .int .i64 0, .int .i64 0, .int .i64 0, .int .i64 0, .int .i64 0, .int .i64 0, .int .i64 0, .slice none 0 0] 48)) h.lt)
 obtain ⟨w1, hrun1, hrg1, hg1, hs1⟩ := hm2.range Tryz.underlying93
 obtain ⟨hr0, hr1, hb2, hsz⟩ := alloc2 w (.cells #[.int .i64 0, .int .i64 0, .int .i64 0, .int .i64 0, .int .i64 0, .int .i64 0, .int .i64 0, .int .i64 0, .slice none 0 0] 48) (.cells #[.int .i64 0, .int .i64 0, .int .i64 0, .int .i64 0, .int .i64 0, .int .i64 0, .int .i64 0, .int .i64 0, .slice none 0 0] 48)
 rw [hsz] at hrun1 hrg1 hs1
 have hmslt := h.lt
 have hk1 : ∀ i, i < w.heap.size + 2 → w1.heap[i]? = _ := fun i hi => hg1.block i (by rw [hsz]; exact hi) (by simp)
 have hs0 : SetRow w1 w.heap.size ⟨none, 0, 0⟩ DSet.none := (hk1 _ (by omega)).trans hr0
 have hs1' : SetRow w1 (w.heap.size + 1) ⟨none, 0, 0⟩ DSet.none := (hk1 _ (by omega)).trans hr1
 have hb1 : Below w.heap.size w w1 := hb2.grown hg1 (by rw [hsz]; omega) (fun k hk => nomatch hk)
 have HB1 := Lib.hid hb1
 have HS0 := Lib.hid hs0
 have HS1 := Lib.hid hs1'
 have HRG1 := Lib.hid hrg1
 have HE := Lib.hid hE
 have HG := Lib.hid hG
 clear hg1 hb1 hs0 hs1' hk1 hrg1 hE hG hb2 hr0 hr1 hm2 h
 go_enter Tryz.func35, Tryz.ntmps35
 go_wp2_with fail
 clear hrun1 hsz
 go_loopg [4] Es.length (fun gk s4 wr => ∃ (todo : List (Dot × Value)) (hd : Hdr) (s : DSet), todo.length ≤ gk ∧ Hid (DotRange wr ms (w.heap.size + 2) Es todo) ∧ Hid (SetRow wr (w.heap.size + 1) hd s) ∧ Hid (SetRow wr w.heap.size ⟨none, 0, 0⟩ DSet.none) ∧ Hid (Owns Dot.cells 2 (w.heap.size + 3) 40 wr hd.val s.more) ∧ Hid (Closes (gone G todo) s) ∧ Hid (Below w.heap.size w wr) ∧ w.heap.size + 3 ≤ wr.heap.size)
 case atStart => exact ⟨Es, ⟨none, 0, 0⟩, DSet.none, Nat.le_refl _, HRG1.out, HS1.out, HS0.out, Owns.nil _ _ _ _ _, by rw [gone_all HG.out fun d hd hg => List.mem_map.2 ⟨(d, .bool true), (HE.out d _).2 ⟨rfl, hd, hg⟩, rfl⟩]; exact closes_none, HB1.out, by omega⟩
 case round =>
  obtain ⟨todo, ⟨oa, n, ca⟩, s, hg, HR, HS, HS0, HO, HC, HB, hszr⟩ := hrel
  obtain rfl : n = s.more.length := by
   obtain ⟨_, _, hv, _⟩ := HO.out.at.slice_of
   simp only [Hdr.val, Value.slice.injEq] at hv
   exact hv.2.1
  rcases HR.out.next 0 with ⟨htd, hrun⟩ | ⟨d, v, w2, hmem, hrun, hrg2, hlen2, hg2, hs2, hen⟩
  ·subst htd
   obtain ⟨c0, c1, c2, c3, c4, c5, c6, c7, c8⟩ := HS.out.cells
   obtain ⟨k0, k1, k2, k3, k4, k5, k6, k7, k8⟩ := HS0.out.cells
   have z0 := HS0.out.free
   simp only [Hdr.val] at c8 k8
   clear HR HB1 HS1 HRG1
   go_wp2_with fail
   have hrow := HS0.out.put9 ⟨oa, s.more.length, ca⟩ s
   have hgr := grown_put9 (World.grownBy.refl wr (some w.heap.size)) s (.slice oa s.more.length ca)
   obtain ⟨m0, m1, m2, m3, m4, m5, m6, m7, m8⟩ := hrow.cells
   simp only [Hdr.val] at m0 m1 m2 m3 m4 m5 m6 m7 m8
   clear c0 c1 c2 c3 c4 c5 c6 c7 c8 k0 k1 k2 k3 k4 k5 k6 k7 k8
   refine bodyPost_ret (v := .agg (qcells (⟨oa, s.more.length, ca⟩, s)).toArray) (by simp [results, Tryz.results35, go_sem, m0, m1, m2, m3, m4, m5, m6, m7, m8, qcells, Hdr.val]) rfl ⟨⟨oa, s.more.length, ca⟩, s, rfl, by rw [← gone_nil G]; exact HC.out, ((HO.out.past hgr (by omega)).lower (by omega)), HB.out.grown hgr HB.out.size (fun k hk => by cases hk; exact Nat.le_refl _)⟩
  ·have hsub := HR.out.sub
   have hdm := (HE.out d v).1 (hsub _ hmem)
   have hgd := gone_del (G := G) (fun p hp => ((HE.out p.1 p.2).1 (hsub p hp)).2) hmem
   have hgn := gone_not (G := G) hmem
   have hok := gone_ok HG.out todo
   have hgr := HC.out.grid hok
   have hk2 : ∀ i, i < wr.heap.size → i ≠ w.heap.size + 2 → w2.heap[i]? = wr.heap[i]? := fun i hi hne => hg2.block i hi (fun e => hne (Option.some.inj e))
   have hs1 : SetRow w2 (w.heap.size + 1) ⟨oa, s.more.length, ca⟩ s := (hk2 _ (by omega) (by omega)).trans HS.out
   have hs0 : SetRow w2 w.heap.size ⟨none, 0, 0⟩ DSet.none := (hk2 _ (by omega) (by omega)).trans HS0.out
   have ho2 := HO.out.past hg2 (by omega)
   have hb2 : Below w.heap.size w w2 := HB.out.grown hg2 HB.out.size (fun k hk => by cases hk; omega)
   have hs1a : SetRow (w2.alloc (.cells #[.int .i64 d.node, .int .i64 d.seq] 40)) (w.heap.size + 1) ⟨oa, s.more.length, ca⟩ s := (Below.heap_alloc _ _ _ (by omega)).trans hs1
   obtain ⟨c0, c1, c2, c3, c4, c5, c6, c7, c8⟩ := hs1a.cells
   simp only [Hdr.val] at c8
   have hml : s.more.length ≤ 768 := (HC.out.right hok).2.1
   have hba := (Below.refl w2.heap.size w2).alloc (Nat.le_refl _) (.cells #[.int .i64 d.node, .int .i64 d.seq] 40)
   have hadd := add_any oa ca s d (w2.alloc (.cells #[.int .i64 d.node, .int .i64 d.seq] 40)) (ho2.at.below Dot.cells_len (by decide) hba (Nat.le_refl _)) (by omega)
   have hlt1 : w.heap.size + 1 < w2.heap.size := by omega
   have HADD := Lib.hid hadd
   have HS2 := Lib.hid hs1
   have HS02 := Lib.hid hs0
   have HB2 := Lib.hid (hb2.trans (hba.mono (by omega)))
   have HR2 := Lib.hid hrg2
   have HDM := Lib.hid hdm.2.1
   have HGD := Lib.hid hgd
   have HHAS := Lib.hid (show hasB s d = false from by unfold hasB; rw [hgr]; exact hgn)
   have HGR := Lib.hid hgr
   unfold dotVal at hrun hen
   clear hsub hdm hgd hgn hok hgr hk2 hs1 hs1a hs0 ho2 hb2 hba hadd hrg2 hmem HR HS HS0 HO HC HB HB1 HS1 HRG1
   go_wp2_with fail
   refine HADD.out.mono ?_
   rintro e w3 ⟨⟨o3, n3, q3⟩, t, c, rfl, hown3, hb3, hcs⟩
   have hct : c = 0 ∧ Closes (gone G (delE todo d)) t := by
    rcases hcs with ⟨h1, _⟩ | ⟨_, h1, _⟩ | ⟨_, _, h1, h2⟩
    ·exact absurd HDM.out h1
    ·rw [HHAS.out] at h1; cases h1
    ·exact ⟨h1, by rw [HGD.out, ← HGR.out]; exact h2⟩
   obtain ⟨rfl, hcl⟩ := hct
   obtain rfl : n3 = t.more.length := by
    obtain ⟨_, _, hv, _⟩ := hown3.at.slice_of
    simp only [Hdr.val, Value.slice.injEq] at hv
    exact hv.2.1
   rw [World.size_alloc] at hown3 hb3
   have h3sz : w2.heap.size + 1 ≤ w3.heap.size := by have := hb3.size; rw [World.size_alloc] at this; exact this
   have hk3 : ∀ i, i < w2.heap.size → w3.heap[i]? = w2.heap[i]? := fun i hi => (hb3.block i (by omega)).trans (Below.heap_alloc _ _ _ hi)
   have hs3 : SetRow (w3.alloc (.cells #[.int .i64 (t.u 0), .int .i64 (t.u 1), .int .i64 (t.u 2), .int .i64 (t.u 3), .int .i64 (t.u 4), .int .i64 (t.u 5), .int .i64 (t.u 6), .int .i64 (t.u 7), .slice o3 t.more.length q3] 48)) (w.heap.size + 1) ⟨oa, s.more.length, ca⟩ s := (Below.heap_alloc _ _ _ (by have := hb3.size; omega)).trans ((hk3 _ hlt1).trans HS2.out)
   have hs03 : SetRow w3 w.heap.size ⟨none, 0, 0⟩ DSet.none := (hk3 _ (by omega)).trans HS02.out
   have hg3 : w2.grownBy (w3.alloc (.cells #[.int .i64 (t.u 0), .int .i64 (t.u 1), .int .i64 (t.u 2), .int .i64 (t.u 3), .int .i64 (t.u 4), .int .i64 (t.u 5), .int .i64 (t.u 6), .int .i64 (t.u 7), .slice o3 t.more.length q3] 48)) none := ⟨(hb3.os), (hb3.tape), (hb3.output), by rw [World.size_alloc]; have := hb3.size; omega, fun i hi _ => (Below.heap_alloc _ _ _ (by have := hb3.size; omega)).trans (hk3 i hi)⟩
   have hr3 := HR2.out.kept hg3 (by simp) (by simp)
   have hb3w : Below w.heap.size w (w3.alloc (.cells #[.int .i64 (t.u 0), .int .i64 (t.u 1), .int .i64 (t.u 2), .int .i64 (t.u 3), .int .i64 (t.u 4), .int .i64 (t.u 5), .int .i64 (t.u 6), .int .i64 (t.u 7), .slice o3 t.more.length q3] 48)) := (HB2.out.trans (hb3.mono (by omega))).alloc (by have := hb3.size; omega) _
   have hown3a := (hown3.below ((Below.refl w3.heap.size w3).alloc (Nat.le_refl _) (.cells #[.int .i64 (t.u 0), .int .i64 (t.u 1), .int .i64 (t.u 2), .int .i64 (t.u 3), .int .i64 (t.u 4), .int .i64 (t.u 5), .int .i64 (t.u 6), .int .i64 (t.u 7), .slice o3 t.more.length q3] 48)) (Nat.le_refl _)).lower (base' := w.heap.size + 3) (by omega)
   have hsz3 : w.heap.size + 3 ≤ (w3.alloc (.cells #[.int .i64 (t.u 0), .int .i64 (t.u 1), .int .i64 (t.u 2), .int .i64 (t.u 3), .int .i64 (t.u 4), .int .i64 (t.u 5), .int .i64 (t.u 6), .int .i64 (t.u 7), .slice o3 t.more.length q3] 48)).heap.size := by rw [World.size_alloc]; have := hb3.size; omega
   have z3 := hs3.free
   have k3 := hs3.cells
   obtain ⟨k0, k1, k2, k3, k4, k5, k6, k7, k8⟩ := k3
   simp only [Hdr.val] at k8 hown3a
   have HS3 := Lib.hid hs3
   have HS03 := Lib.hid hs03
   have HR3 := Lib.hid hr3
   have HB3 := Lib.hid hb3w
   have HO3 := Lib.hid hown3a
   have HC3 := Lib.hid hcl
   clear c0 c1 c2 c3 c4 c5 c6 c7 c8 hcs hcl hown3 hown3a hb3w hr3 hg3 hs03 hs3 hk3 hb3 HADD HS2 HS02 HB2 HR2 HDM HGD HHAS HGR
   have hq : (qcells (⟨o3, t.more.length, q3⟩, t)).toArray = #[.int .i64 (t.u 0), .int .i64 (t.u 1), .int .i64 (t.u 2), .int .i64 (t.u 3), .int .i64 (t.u 4), .int .i64 (t.u 5), .int .i64 (t.u 6), .int .i64 (t.u 7), .slice o3 t.more.length q3] := rfl
   rw [hq]
   clear hq
   go_wp2_with fail
   have hrow := HS3.out.put9 ⟨o3, t.more.length, q3⟩ t
   have hgr := grown_put9 (World.grownBy.refl (w3.alloc (.cells #[.int .i64 (t.u 0), .int .i64 (t.u 1), .int .i64 (t.u 2), .int .i64 (t.u 3), .int .i64 (t.u 4), .int .i64 (t.u 5), .int .i64 (t.u 6), .int .i64 (t.u 7), .slice o3 t.more.length q3] 48)) (some (w.heap.size + 1))) t (.slice o3 t.more.length q3)
   go_roundg ((delE todo d).length)
   case measure => omega
   case rel =>
    refine ⟨delE todo d, ⟨o3, t.more.length, q3⟩, t, Nat.le_refl _, HR3.out.kept hgr ?_ (by simp), hrow, (hgr.block _ ?_ ?_).trans ((Below.heap_alloc _ _ _ ?_).trans HS03.out), HO3.out.past hgr (by omega), HC3.out, HB3.out.grown hgr HB3.out.size ?_, Nat.le_trans hsz3 hgr.size⟩
    ·exact fun e => by have := Option.some.inj e; omega
    ·omega
    ·simp
    ·omega
    ·intro k hk; cases hk; omega
end Go.Proofs.YtenkfnhcdfmkaaaGreat
namespace Go.Proofs.YtenkfnhcdfmkaaaGreat
open Go.Shelf Go.RowKit Go.Lib Go.Sort
set_option linter.unusedVariables false
set_option maxHeartbeats 4000000 in
theorem seen_any (bb ms mh B : Nat) (S : BookS) (hok : S.saw.Ok) (w : World) (h : BookAt w bb ms mh B S) :
  Calls Tryz.prog 10 #[.pointer (some ⟨bb, 0, none⟩)] w fun e w' => ∃ (hd : Hdr) (r : DSet), e = .returned (.agg (qcells (hd, r)).toArray) ∧ Closes S.saw r ∧ Owns Dot.cells 2 w.heap.size 40 w' hd.val r.more ∧ Below w.heap.size w w' := by
 have hb1 := (Below.refl w.heap.size w).alloc (Nat.le_refl _) (.cells #[.int .i64 0, .int .i64 0, .int .i64 0, .int .i64 0, .int .i64 0, .int .i64 0, .int .i64 0, .int .i64 0, .slice none 0 0] 48)
 have h1 := h.below hb1 (Nat.le_refl _)
 have hr0 : SetRow (w.alloc (.cells #[.int .i64 0, .int .i64 0, .int .i64 0, .int .i64 0, .int .i64 0, .int .i64 0, .int .i64 0, .int .i64 0, .slice none 0 0] 48)) w.heap.size ⟨none, 0, 0⟩ DSet.none := heap_alloc_new w _
 have hsz : (w.alloc (.cells #[.int .i64 0, .int .i64 0, .int .i64 0, .int .i64 0, .int .i64 0, .int .i64 0, .int .i64 0, .int .i64 0, .slice none 0 0] 48)).heap.size = w.heap.size + 1 := World.size_alloc _ _
 have c0 := cell_of_row _ bb 0 _ _ _ h1.obj
 obtain ⟨Es, g1, g2⟩ := h1.seen
 have hset := bookSet_any ms S.saw hok Es _ g1 g2
 have HSET := Lib.hid hset
 have HR0 := Lib.hid hr0
 have HB1 := Lib.hid hb1
 clear h h1 hb1 hr0 g1 g2 hset
 go_enter Tryz.func10, Tryz.ntmps10
 go_wp2_with fail
 refine HSET.out.mono ?_
 rintro e w3 ⟨⟨oa, n, cap⟩, r, rfl, hcl, hown, hb3⟩
 have hr3 : SetRow w3 w.heap.size ⟨none, 0, 0⟩ DSet.none := (hb3.block _ (by omega)).trans HR0.out
 have z3 := hr3.free
 obtain ⟨k0, k1, k2, k3, k4, k5, k6, k7, k8⟩ := hr3.cells
 simp only [Hdr.val] at k8
 have HR3 := Lib.hid hr3
 have HO3 := Lib.hid hown
 have HC3 := Lib.hid hcl
 have HB3 := Lib.hid (HB1.out.trans (hb3.mono (by omega)))
 have hq : (qcells (⟨oa, n, cap⟩, r)).toArray = #[.int .i64 (r.u 0), .int .i64 (r.u 1), .int .i64 (r.u 2), .int .i64 (r.u 3), .int .i64 (r.u 4), .int .i64 (r.u 5), .int .i64 (r.u 6), .int .i64 (r.u 7), .slice oa n cap] := rfl
 rw [hq]
 clear hq hr3 hown hcl hb3 HSET HB1 HR0 c0
 go_wp2_with fail
 have hrow := HR3.out.put9 ⟨oa, n, cap⟩ r
 have hgr := grown_put9 (World.grownBy.refl w3 (some w.heap.size)) r (.slice oa n cap)
 obtain ⟨m0, m1, m2, m3, m4, m5, m6, m7, m8⟩ := hrow.cells
 simp only [Hdr.val] at m0 m1 m2 m3 m4 m5 m6 m7 m8
 clear k0 k1 k2 k3 k4 k5 k6 k7 k8
 exact bodyPost_ret (v := .agg (qcells (⟨oa, n, cap⟩, r)).toArray) (by simp [results, Tryz.results10, go_sem, m0, m1, m2, m3, m4, m5, m6, m7, m8, qcells, Hdr.val]) rfl ⟨⟨oa, n, cap⟩, r, rfl, HC3.out, (HO3.out.past hgr (by omega)).lower (by omega), HB3.out.grown hgr HB3.out.size (fun k hk => by cases hk; exact Nat.le_refl _)⟩
end Go.Proofs.YtenkfnhcdfmkaaaGreat
