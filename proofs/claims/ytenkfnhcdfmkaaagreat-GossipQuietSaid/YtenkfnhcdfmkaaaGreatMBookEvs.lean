/-
  What a book holds, copied: Events and the function value it walks with.
  The function values of Newer and Stands that mark a dot in a captured map.
-/
import Derived.Test.YtenkfnhcdfmkaaaGreatMAcc
import Derived.Test.YtenkfnhcdfmkaaaGreatMStep
import Derived.Test.YtenkfnhcdfmkaaaGreatMSortRow
import Derived.Test.YtenkfnhcdfmkaaaGreatMBookQ
namespace Go.Proofs.YtenkfnhcdfmkaaaGreat
open Go.Shelf Go.RowKit Go.Lib Go.Sort
set_option linter.unusedVariables false
structure OutAt (ob B : Nat) (W : World) (hd : Hdr) (ps : List PEv) : Prop where
  lt : ob < B
  size : B ≤ W.heap.size
  obj : W.heap[ob]? = some (.cells #[hd.val] 35)
  acc : Acc B 44 40 W hd.val ps
structure Spares (ob B : Nat) (w w' : World) : Prop where
  os : w'.os = w.os
  tape : w'.tape = w.tape
  output : w'.output = w.output
  size : w.heap.size ≤ w'.heap.size
  block : ∀ i, i < B → i ≠ ob → w'.heap[i]? = w.heap[i]?
theorem Spares.refl (ob B : Nat) (w : World) : Spares ob B w w := ⟨rfl, rfl, rfl, Nat.le_refl _, fun _ _ _ => rfl⟩
theorem Spares.trans {ob B : Nat} {a b c : World} (h : Spares ob B a b) (k : Spares ob B b c) : Spares ob B a c := ⟨k.os.trans h.os, k.tape.trans h.tape, k.output.trans h.output, Nat.le_trans h.size k.size, fun i hi hne => (k.block i hi hne).trans (h.block i hi hne)⟩
theorem Spares.of_below {ob B C : Nat} {a b : World} (h : Below C a b) (hB : B ≤ C) : Spares ob B a b := ⟨h.os, h.tape, h.output, h.size, fun i hi _ => h.block i (by omega)⟩
theorem OutAt.below {ob B C : Nat} {W W' : World} {hd : Hdr} {ps : List PEv} (h : OutAt ob B W hd ps) (hb : Below C W W') (hC : W.heap.size ≤ C) : OutAt ob B W' hd ps :=
  ⟨h.lt, Nat.le_trans h.size hb.size, (hb.block ob (by have := h.lt; have := h.size; omega)).trans h.obj, h.acc.below hb hC⟩
theorem Acc.past {B e ed : Nat} {w w' : World} {v : Value} {qs : List PEv} (h : Acc B e ed w v qs) (hk : ∀ i, B ≤ i → w'.heap[i]? = w.heap[i]?) : Acc B e ed w' v qs :=
  ⟨h.row.keep fun g hg => hk g (h.row.lt g hg).1, fun q hq => ⟨(h.rem q hq).1.keep fun g hg => hk g ((h.rem q hq).1.lt g hg).1, (h.rem q hq).2⟩⟩
set_option maxHeartbeats 8000000 in
theorem eventsFn_any (ob B : Nat) (p : PEv) (W : World) (hd : Hdr) (ps : List PEv) (h : OutAt ob B W hd ps) (hp : SlAt Dot.cells W p.1.val p.2.rem) (hl : p.2.rem.length ≤ 1000000) (hn : ps.length ≤ 1000) :
    Calls Tryz.prog 73 #[evVal p, .pointer (some ⟨ob, 0, none⟩)] W fun e w' => e = .returned (.bool true) ∧ ∃ hd' q, q.2 = p.2 ∧ OutAt ob B w' hd' (ps ++ [q]) ∧ Spares ob B W w' := by
  obtain ⟨⟨ra, rn, rc⟩, ev⟩ := p
  obtain ⟨oh, n, ch⟩ := hd
  simp only at hp hl ⊢
  obtain rfl : n = ps.length := by
    obtain ⟨_, _, hv, _⟩ := h.acc.row.at.slice_of
    simp only [Hdr.val, Value.slice.injEq] at hv
    exact hv.2.1
  have hb1 := below_drew ((Below.refl W.heap.size W).alloc (Nat.le_refl _) (.cells #[.int .i64 ev.dot.node, .int .i64 ev.dot.seq, .int .i64 ev.time, .int .i64 ev.kind, .int .i64 ev.work, .int .i64 ev.value, .int .i64 ev.pol.mn, .int .i64 ev.pol.mx, .int .i64 ev.pol.goal, .int .i64 ev.pol.slack, .int .i64 ev.pol.up, .int .i64 ev.pol.down, .int .i64 ev.pol.cool, .slice ra rn rc] 44))
  have ho1 := h.below hb1 (Nat.le_refl _)
  have hr1 : (W.alloc (.cells #[.int .i64 ev.dot.node, .int .i64 ev.dot.seq, .int .i64 ev.time, .int .i64 ev.kind, .int .i64 ev.work, .int .i64 ev.value, .int .i64 ev.pol.mn, .int .i64 ev.pol.mx, .int .i64 ev.pol.goal, .int .i64 ev.pol.slack, .int .i64 ev.pol.up, .int .i64 ev.pol.down, .int .i64 ev.pol.cool, .slice ra rn rc] 44)).drew.heap[W.heap.size]? = _ := heap_alloc_new W _
  obtain ⟨e0, e1, e2, e3, e4, e5, e6, e7, e8, e9, e10, e11, e12, e13⟩ := ev_row hr1
  have hob := h.lt
  have hsz := h.size
  have how := own_any ⟨ra, rn, rc⟩ ev _ (hp.below Dot.cells_len (by decide) hb1 (Nat.le_refl _)) hl
  simp only [Hdr.val] at how
  have k0 := cell_of_row _ ob 0 _ _ _ ho1.obj
  simp only [Hdr.val] at k0
  have hkp : ∀ W' (hb : Below (W.alloc (.cells #[.int .i64 ev.dot.node, .int .i64 ev.dot.seq, .int .i64 ev.time, .int .i64 ev.kind, .int .i64 ev.work, .int .i64 ev.value, .int .i64 ev.pol.mn, .int .i64 ev.pol.mx, .int .i64 ev.pol.goal, .int .i64 ev.pol.slack, .int .i64 ev.pol.up, .int .i64 ev.pol.down, .int .i64 ev.pol.cool, .slice ra rn rc] 44)).drew.heap.size (W.alloc (.cells #[.int .i64 ev.dot.node, .int .i64 ev.dot.seq, .int .i64 ev.time, .int .i64 ev.kind, .int .i64 ev.work, .int .i64 ev.value, .int .i64 ev.pol.mn, .int .i64 ev.pol.mx, .int .i64 ev.pol.goal, .int .i64 ev.pol.slack, .int .i64 ev.pol.up, .int .i64 ev.pol.down, .int .i64 ev.pol.cool, .slice ra rn rc] 44)).drew W'), OutAt ob B W' ⟨oh, ps.length, ch⟩ ps := fun W' hb => ho1.below hb (Nat.le_refl _)
  have HOW := Lib.hid how
  have HKP := Lib.hid hkp
  have HB1 := Lib.hid hb1
  clear how hkp hb1 ho1 hr1 h hp
  unfold evVal pcells evCells
  simp only [Hdr.val]
  go_enter Tryz.func73, Tryz.ntmps73
  go_wp2_with fail
  have hwa : W.heap.size + 1 = (W.alloc (.cells #[.int .i64 ev.dot.node, .int .i64 ev.dot.seq, .int .i64 ev.time, .int .i64 ev.kind, .int .i64 ev.work, .int .i64 ev.value, .int .i64 ev.pol.mn, .int .i64 ev.pol.mx, .int .i64 ev.pol.goal, .int .i64 ev.pol.slack, .int .i64 ev.pol.up, .int .i64 ev.pol.down, .int .i64 ev.pol.cool, .slice ra rn rc] 44)).heap.size := (World.size_alloc _ _).symm
  generalize W.alloc (.cells #[.int .i64 ev.dot.node, .int .i64 ev.dot.seq, .int .i64 ev.time, .int .i64 ev.kind, .int .i64 ev.work, .int .i64 ev.value, .int .i64 ev.pol.mn, .int .i64 ev.pol.mx, .int .i64 ev.pol.goal, .int .i64 ev.pol.slack, .int .i64 ev.pol.up, .int .i64 ev.pol.down, .int .i64 ev.pol.cool, .slice ra rn rc] 44) = wa at *
  go_region_law (first
    | (go_simp
       refine HOW.out.mono ?_
       rintro e w5 ⟨⟨oa, on, oc⟩, rfl, hown5, hb5⟩
       have ho5 := HKP.out w5 hb5
       have h5s : wa.heap.size ≤ w5.heap.size := hb5.size
       have ho6 := ho5.below ((Below.refl w5.heap.size w5).alloc (Nat.le_refl _) (.cells #[.int .i64 ev.dot.node, .int .i64 ev.dot.seq, .int .i64 ev.time, .int .i64 ev.kind, .int .i64 ev.work, .int .i64 ev.value, .int .i64 ev.pol.mn, .int .i64 ev.pol.mx, .int .i64 ev.pol.goal, .int .i64 ev.pol.slack, .int .i64 ev.pol.up, .int .i64 ev.pol.down, .int .i64 ev.pol.cool, .slice oa on oc] 44)) (Nat.le_refl _)
       have k5 : w5.cell? ⟨ob, 0, none⟩ = some (.slice oh ps.length ch) := cell_of_row _ ob 0 _ _ _ ho5.obj
       have k6 : (w5.alloc (.cells #[.int .i64 ev.dot.node, .int .i64 ev.dot.seq, .int .i64 ev.time, .int .i64 ev.kind, .int .i64 ev.work, .int .i64 ev.value, .int .i64 ev.pol.mn, .int .i64 ev.pol.mx, .int .i64 ev.pol.goal, .int .i64 ev.pol.slack, .int .i64 ev.pol.up, .int .i64 ev.pol.down, .int .i64 ev.pol.cool, .slice oa on oc] 44)).cell? ⟨ob, 0, none⟩ = some (.slice oh ps.length ch) := cell_of_row _ ob 0 _ _ _ ho6.obj
       have HO6 := Lib.hid ho6
       have HOWN5 := Lib.hid hown5
       have HB5 := Lib.hid hb5
       clear ho5 ho6 hown5 hb5)
    | (refine step_app pcells 14 pcells_len (by decide) pcells_one _ rfl _ _ 35 rfl B 44 _ 128 Tryz.underlying35 infoEv rfl (.slice oh ps.length ch) ps rfl HO6.out.acc.row (.slice (some ⟨w5.heap.size, 0, none⟩) 1 1) [(⟨oa, on, oc⟩, ev)] rfl (slAt_new (enc := pcells) w5 _ _ 1 1 (0, 0) [(⟨oa, on, oc⟩, ev)] rfl rfl (by decide)) (by simp only [List.length_singleton]; omega) (by simp only [List.length_singleton]; omega) HO6.out.size ?_
       intro v7 w7 h7 hg7 hv7
       have hex : ∃ h : Hdr, v7 = h.val := hdr_of_slAt h7.at
       obtain ⟨⟨o7, n7, q7⟩, hvv⟩ := hex
       simp only [Hdr.val] at hvv
       subst hvv
       have hlow : ∀ x, (Value.slice oh ps.length ch).ownBlock = some x → B ≤ x := fun x hx => (HO6.out.acc.row.lt x hx).1
       have hobj7 : w7.heap[ob]? = some (.cells #[.slice oh ps.length ch] 35) := (hg7.block ob (by have := HO6.out.size; omega) (fun e => by have := hlow ob e.symm; omega)).trans HO6.out.obj
       have c7 : w7.cell? ⟨ob, 0, none⟩ = some (.slice oh ps.length ch) := cell_of_row _ ob 0 _ _ _ hobj7
       have z7 : w7.frozen? ⟨ob, 0, none⟩ = false := by unfold World.frozen?; rw [hobj7]; simp
       have hacc7 : Acc B 44 40 w7 (.slice o7 n7 q7) (ps ++ [(⟨oa, on, oc⟩, ev)]) := HO6.out.acc.push (fun q hq => by
         obtain rfl : q = (⟨oa, on, oc⟩, ev) := by simpa using hq
         refine ⟨(HOWN5.out.below ((Below.refl w5.heap.size w5).alloc (Nat.le_refl _) _) (Nat.le_refl _)).lower (by show B ≤ wa.heap.size; omega), ?_⟩
         cases hx : (Hdr.val ⟨oa, on, oc⟩).ownBlock with
         | none => exact .inl rfl
         | some g =>
           refine .inr fun e2 => ?_
           have h1 := (HOWN5.out.lt g hx).1
           have h2 := ((HKP.out wa.drew (Below.refl _ _)).acc.row.lt g e2.symm).2
           omega) h7 hg7 hv7
       have hsp7 : Spares ob B W w7 := ((Spares.of_below HB1.out hsz).trans ((Spares.of_below HB5.out (by show B ≤ wa.heap.size; omega)).trans ((Spares.of_below ((Below.refl w5.heap.size w5).alloc (Nat.le_refl _) (.cells #[.int .i64 ev.dot.node, .int .i64 ev.dot.seq, .int .i64 ev.time, .int .i64 ev.kind, .int .i64 ev.work, .int .i64 ev.value, .int .i64 ev.pol.mn, .int .i64 ev.pol.mx, .int .i64 ev.pol.goal, .int .i64 ev.pol.slack, .int .i64 ev.pol.up, .int .i64 ev.pol.down, .int .i64 ev.pol.cool, .slice oa on oc] 44)) (by omega)).trans ⟨hg7.os, hg7.tape, hg7.output, hg7.size, fun i hi hne => hg7.block i (by have := HO6.out.size; omega) (fun e => by have := hlow i e.symm; omega)⟩)))
       have HA7 := Lib.hid hacc7
       have HS7 := Lib.hid hsp7
       have HOB7 := Lib.hid hobj7
       have hs7 : B ≤ w7.heap.size := Nat.le_trans HO6.out.size hg7.size
       clear h7 hg7 hv7 hlow hobj7 hacc7 hsp7 HO6 HOWN5 HB5))
  all_goals
    clear HOW HKP HB1
    go_wp2_with fail
    go_ret
    refine ⟨rfl, ⟨o7, n7, q7⟩, (⟨oa, on, oc⟩, ev), rfl, ⟨hob, by simpa using hs7, heap_setCell_same w7 ob 0 _ _ (.slice o7 n7 q7) HOB7.out, HA7.out.past fun i hi => Below.heap_setCell w7 ⟨ob, 0, none⟩ _ _ (by show i ≠ ob; omega)⟩, HS7.out.trans ⟨rfl, rfl, rfl, by simp, fun i hi hne => Below.heap_setCell w7 ⟨ob, 0, none⟩ _ _ hne⟩⟩
end Go.Proofs.YtenkfnhcdfmkaaaGreat
namespace Go.Proofs.YtenkfnhcdfmkaaaGreat
open Go.Shelf Go.RowKit Go.Lib Go.Sort
set_option linter.unusedVariables false
structure MarksAt (kb km : Nat) (W : World) (ds : Dot → Prop) : Prop where
 ne : kb ≠ km
 obj : W.heap[kb]? = some (.cells #[.map (some km)] 93)
 map : ∃ E, DotMapAt W km E ∧ ∀ d v, (d, v) ∈ E ↔ v = .bool true ∧ May d ∧ ds d
theorem MarksAt.keep {kb km : Nat} {W W' : World} {ds : Dot → Prop} (h : MarksAt kb km W ds) (h1 : W'.heap[kb]? = W.heap[kb]?) (h2 : W'.heap[km]? = W.heap[km]?) : MarksAt kb km W' ds := by
 obtain ⟨E, g1, g2⟩ := h.map
 exact ⟨h.ne, h1.trans h.obj, E, g1.keep h2, g2⟩
theorem MarksAt.lt {kb km : Nat} {W : World} {ds : Dot → Prop} (h : MarksAt kb km W ds) : kb < W.heap.size ∧ km < W.heap.size := by
 obtain ⟨E, g1, g2⟩ := h.map
 exact ⟨(Array.getElem?_eq_some_iff.1 h.obj).1, g1.lt⟩
theorem MarksAt.put {kb km : Nat} {W' : World} {ds : Dot → Prop} (hne : kb ≠ km) (hobj : W'.heap[kb]? = some (.cells #[.map (some km)] 93)) {E : List (Dot × Value)} (hE : ∀ d v, (d, v) ∈ E ↔ v = .bool true ∧ May d ∧ ds d) {d : Dot} (hd : May d) (hm : DotMapAt W' km (putE E d (.bool true))) : MarksAt kb km W' (fun x => ds x ∨ x = d) := by
 refine ⟨hne, hobj, _, hm, fun x v => ?_⟩
 rw [mem_putE, hE]
 constructor
 ·rintro (⟨rfl, rfl⟩ | ⟨⟨h1, h2, h3⟩, h4⟩)
  ·exact ⟨rfl, hd, .inr rfl⟩
  ·exact ⟨h1, h2, .inl h3⟩
 ·rintro ⟨h1, h2, h3⟩
  by_cases e : x = d
  ·exact .inl ⟨e, h1⟩
  ·exact .inr ⟨⟨h1, h2, h3.resolve_right e⟩, e⟩
set_option maxHeartbeats 4000000 in
theorem newerMark_any (kb km : Nat) (d : Dot) (hd : May d) (ds : Dot → Prop) (w : World) (h : MarksAt kb km w ds) :
  Calls Tryz.prog 118 #[.agg #[.int .i64 d.node, .int .i64 d.seq], .pointer (some ⟨kb, 0, none⟩)] w fun e w' => e = .returned (.tuple #[]) ∧ MarksAt kb km w' (fun x => ds x ∨ x = d) ∧ w.grownBy w' (some km) := by
 have hb1 := (Below.refl w.heap.size w).alloc (Nat.le_refl _) (.cells #[.int .i64 d.node, .int .i64 d.seq] 40)
 have hlt := h.lt
 have h1 := h.keep (hb1.block kb hlt.1) (hb1.block km hlt.2)
 obtain ⟨E, g1, g2⟩ := h1.map
 have hlen := entries_len g1 fun p hp => ((g2 p.1 p.2).1 hp).2.1
 obtain ⟨w2, hrun, hm2, hg2⟩ := g1.store Tryz.underlying93 (by omega) (may_fits hd) (.bool true)
 have k0 := cell_of_row _ kb 0 _ _ _ h1.obj
 have h2 : MarksAt kb km w2 (fun x => ds x ∨ x = d) := .put h.ne ((hg2.block kb h1.lt.1 (fun e => h.ne (Option.some.inj e))).trans h1.obj) g2 hd hm2
 have HG := Lib.hid ((World.grownBy_alloc w (.cells #[.int .i64 d.node, .int .i64 d.seq] 40) (some km)).trans hg2)
 have H2 := Lib.hid h2
 unfold dotVal at hrun
 clear h h1 g1 g2 hm2 hg2 h2 hb1
 go_enter Tryz.func118, Tryz.ntmps118
 go_wp2_with fail
 go_end0
 exact ⟨rfl, H2.out, HG.out⟩
end Go.Proofs.YtenkfnhcdfmkaaaGreat
