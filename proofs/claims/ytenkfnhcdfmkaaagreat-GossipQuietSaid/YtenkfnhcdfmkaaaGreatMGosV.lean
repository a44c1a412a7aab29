/-
  (*gossip.Gossip).given walked.
  A map from ints to function values, with two entries.
-/
import Derived.Test.YtenkfnhcdfmkaaaGreatGosG
import Derived.Test.YtenkfnhcdfmkaaaGreatGosW
import Derived.Maps.OwnSet
namespace Go.Proofs.YtenkfnhcdfmkaaaGreat
open Go.RowKit Go.Lib Go.Shelf
set_option linter.unusedVariables false
set_option linter.unusedSimpArgs false
set_option maxRecDepth 100000 in
set_option maxHeartbeats 4000000 in
theorem given_any (M : GM) (x : Gsp) (hok : x.Ok) (m : Msg) (hs : m.small) (w : World) (h : GAt w M x) (hm : MsgIn w m) (hcl : EvsClear M.own m.he.val m.evs) :
  Calls Tryz.prog 50 #[.pointer (some ⟨M.g, 0, none⟩), .agg #[.int .i64 m.kind, .int .i64 m.frm, .int .i64 m.to_, .int .i64 m.seq, .int .i64 m.node, .int .i64 (m.u 0), .int .i64 (m.u 1), .int .i64 (m.u 2), .int .i64 (m.u 3), .int .i64 (m.u 4), .int .i64 (m.u 5), .int .i64 (m.u 6), .int .i64 (m.u 7), m.hm.val, m.he.val, m.hs.val]] w fun e w' => ∃ (hd : Hdr) (qs : List PEv), e = .returned (.agg #[.slice none 0 0, hd.val]) ∧ Acc w.heap.size 44 40 w' hd.val qs ∧ qs.map (·.2) = (givenB x.S (m.evs.map (·.2))).2 ∧ GAt w' M ⟨x.self, x.mtu, x.s, (givenB x.S (m.evs.map (·.2))).1⟩ ∧ Touch M.own w w' := by
 have hp : Tryz.prog.follows .mixedOrders = true := by kernel_rfl
 obtain ⟨r0, r1, hb2, hsz2⟩ := alloc2 w (.cells #[.int .i64 m.kind, .int .i64 m.frm, .int .i64 m.to_, .int .i64 m.seq, .int .i64 m.node, .int .i64 (m.u 0), .int .i64 (m.u 1), .int .i64 (m.u 2), .int .i64 (m.u 3), .int .i64 (m.u 4), .int .i64 (m.u 5), .int .i64 (m.u 6), .int .i64 (m.u 7), m.hm.val, m.he.val, m.hs.val] 38) (.cells #[.slice none 0 0, .slice none 0 0] 112)
 obtain ⟨w2, hw2⟩ : ∃ w2, (w.alloc (.cells #[.int .i64 m.kind, .int .i64 m.frm, .int .i64 m.to_, .int .i64 m.seq, .int .i64 m.node, .int .i64 (m.u 0), .int .i64 (m.u 1), .int .i64 (m.u 2), .int .i64 (m.u 3), .int .i64 (m.u 4), .int .i64 (m.u 5), .int .i64 (m.u 6), .int .i64 (m.u 7), m.hm.val, m.he.val, m.hs.val] 38)).alloc (.cells #[.slice none 0 0, .slice none 0 0] 112) = w2 := ⟨_, rfl⟩
 rw [hw2] at r0 r1 hb2 hsz2
 have hsz2a := Nat.le_of_eq hsz2
 have hsz2b := Nat.le_of_eq hsz2.symm
 clear hsz2
 obtain ⟨oe, ce, hev⟩ := slAt_slice hm.evs.1
 have c14 : w2.cell? ⟨w.heap.size, 14, none⟩ = some m.he.val := (cell_of_row w2 _ 14 _ _ _ r0)
 have hlv := hs.evs
 have HEV := Lib.hid hm.evs
 have HCE := Lib.hid hcl
 have HRL := Lib.hid hs.rems
 have HW2 := Lib.hid hw2
 have HB2 := Lib.hid hb2
 have R1 := Lib.hid r1
 have HG2 := Lib.hid (h.below hb2 (Nat.le_refl _))
 have HOW := Lib.hid (fun k hk => h.own_lt (k := k) hk)
 have hgl := h.lt
 have HNG := Lib.hid h.ng
 have HFN := Lib.hid hok.fine
 rw [hev] at c14 HEV HCE
 clear hw2 hb2 r0 r1 h hm hcl hs hok hev
 go_enter Tryz.func50, Tryz.ntmps50
 go_upto_region 1 with fail
 rw [HW2.out]
 go_wp2_with fail
 go_loopg [6, 10] m.evs.length (fun gk s6 s10 wr => ∃ (i : Nat) (oq : Option Addr) (cq : Nat) (qs : List PEv) (S : BookS), s10 = .int .i64 i ∧ i ≤ m.evs.length ∧ m.evs.length - i ≤ gk ∧ qs.length ≤ i ∧ Hid (S = (givenB x.S ((m.evs.take i).map (·.2))).1) ∧ Hid (S.Fine) ∧ Hid (qs.map (·.2) = (givenB x.S ((m.evs.take i).map (·.2))).2) ∧ Hid (wr.heap[w.heap.size + 1]? = some (.cells #[.slice none 0 0, .slice oq qs.length cq] 112)) ∧ Hid (Acc w2.heap.size 44 40 wr (.slice oq qs.length cq) qs) ∧ Hid (GAt wr M ⟨x.self, x.mtu, x.s, S⟩) ∧ Hid (Touch M.own w wr) ∧ w2.heap.size ≤ wr.heap.size)
 case atStart => exact ⟨0, none, 0, [], x.S, rfl, Nat.zero_le _, Nat.le_refl _, Nat.le_refl _, by show _ = _; rfl, HFN.out, by show _ = _; rfl, R1.out, Acc.nil _ _ _ _, HG2.out, Touch.of_below HB2.out (Nat.le_refl _), Nat.le_refl _⟩
 case round =>
  obtain ⟨i, oq, cq, qs, S, rfl, hi, hgk, hql, HS, HFS, HQM, HRA, HAC, HGA, HT, hwr⟩ := hrel
  by_cases hlt : i < m.evs.length
  ·have hltz : (i : Int) < (m.evs.length : Int) := by omega
   have hevr := HEV.out.touch HT.out HCE.out
   have hsl := hevr.1
   obtain ⟨b, off, rfl⟩ := hsl.plain pcells_len (by decide) (by intro e; rw [e] at hlt; exact absurd hlt (by simp))
   have hmem : m.evs[i] ∈ m.evs := List.getElem_mem hlt
   have hld : Sem.run Tryz.prog (loadCellsFrom ⟨b, off + i * 14, none⟩ 0 14 #[]) wr = .ok (pcells m.evs[i]).toArray wr := by
    refine run_loadCellsFrom_list Tryz.prog wr ⟨b, off + i * 14, none⟩ (pcells m.evs[i]) 14 (pcells_len _) fun j v hv => ?_
    rw [Addr.add_lit]
    have hj : j < 14 := by have := (List.getElem?_eq_some_iff.1 hv).1; rwa [pcells_len] at this
    have := hsl.cell pcells_len (i := i) (c := j) hlt hj
    rw [show off + i * 14 + j = off + (i * 14 + j) by omega, this, hv]
   have hrm := hevr.2 _ hmem
   have hrr := HRL.out _ hmem
   have hrc := HCE.out.rem _ hmem
   have htk := givenB_take hlt x.S
   rw [← HS.out, ← HQM.out] at htk
   generalize m.evs[i] = p at *
   obtain ⟨⟨ra, rn, rc⟩, ev⟩ := p
   dsimp only at hrm hrr htk hrc
   replace hld : Sem.run Tryz.prog (loadCellsFrom ⟨b, off + i * 14, none⟩ 0 14 #[]) wr = .ok #[.int .i64 ev.dot.node, .int .i64 ev.dot.seq, .int .i64 ev.time, .int .i64 ev.kind, .int .i64 ev.work, .int .i64 ev.value, .int .i64 ev.pol.mn, .int .i64 ev.pol.mx, .int .i64 ev.pol.goal, .int .i64 ev.pol.slack, .int .i64 ev.pol.up, .int .i64 ev.pol.down, .int .i64 ev.pol.cool, .slice ra rn rc] wr := hld
   obtain ⟨wb, hwb⟩ : ∃ wb, wr.alloc (.cells #[.int .i64 ev.dot.node, .int .i64 ev.dot.seq, .int .i64 ev.time, .int .i64 ev.kind, .int .i64 ev.work, .int .i64 ev.value, .int .i64 ev.pol.mn, .int .i64 ev.pol.mx, .int .i64 ev.pol.goal, .int .i64 ev.pol.slack, .int .i64 ev.pol.up, .int .i64 ev.pol.down, .int .i64 ev.pol.cool, .slice ra rn rc] 44) = wb := ⟨_, rfl⟩
   have hbA : Below wr.heap.size wr wb := by rw [← hwb]; exact (Below.refl _ _).alloc (Nat.le_refl _) _
   have hrA : wb.heap[wr.heap.size]? = some (.cells #[.int .i64 ev.dot.node, .int .i64 ev.dot.seq, .int .i64 ev.time, .int .i64 ev.kind, .int .i64 ev.work, .int .i64 ev.value, .int .i64 ev.pol.mn, .int .i64 ev.pol.mx, .int .i64 ev.pol.goal, .int .i64 ev.pol.slack, .int .i64 ev.pol.up, .int .i64 ev.pol.down, .int .i64 ev.pol.cool, .slice ra rn rc] 44) := by rw [← hwb]; exact heap_alloc_new wr _
   have hlA : wr.heap.size < wb.heap.size := (Array.getElem?_eq_some_iff.1 hrA).1
   have hzb : wb.heap.size = wr.heap.size + 1 := by rw [← hwb]; exact World.size_alloc _ _
   have hgb := HGA.out.below (below_drew hbA) (Nat.le_refl _)
   have hadd := bookAdd_any M.bb M.ms M.mh M.B S ⟨ra, rn, rc⟩ ev wb.drew hgb.book (hrm.below Dot.cells_len (by decide) (below_drew hbA) (Nat.le_refl _)) (by omega) (hrc.imp id fun h b hb => ⟨fun e => h b hb (.inr (.inl e)), fun e => h b hb (.inr (.inr (.inl e))), fun e => h b hb (.inr (.inr (.inr e)))⟩) (by have := HFS.out.t0; have := HFS.out.t1; omega)
   obtain ⟨g0, g1, g2, g3⟩ := (HGA.out.below hbA (Nat.le_refl _)).cells
   obtain ⟨e0, e1, e2, e3, e4, e5, e6, e7, e8, e9, e10, e11, e12, e13⟩ := ev_row hrA
   obtain ⟨co, hco⟩ : ∃ co, (addB S ev).1 = co := ⟨_, rfl⟩
   obtain ⟨S5, hS5⟩ : ∃ S5, (addB S ev).2 = S5 := ⟨_, rfl⟩
   have hf5 : S5.Fine := by rw [← hS5]; exact addB_fine HFS.out ev
   simp only [Hdr.val] at hadd hrm
   rw [hco, hS5] at hadd htk
   have HADD := Lib.hid hadd
   have HRC := Lib.hid (hrc.imp id fun h b hb => (⟨fun e => h b hb (.inr (.inl e)), fun e => h b hb (.inr (.inr (.inl e))), fun e => h b hb (.inr (.inr (.inr e)))⟩ : b ≠ M.bb ∧ b ≠ M.ms ∧ b ≠ M.mh))
   have HLD := Lib.hid hld
   have HWB := Lib.hid hwb
   have HBA := Lib.hid hbA
   have HRW := Lib.hid hrA
   have HTK := Lib.hid htk
   have HGB := Lib.hid hgb
   have HRR := Lib.hid hrm
   have HF5 := Lib.hid hf5
   clear hadd hld hwb hbA hrA htk hevr hsl hmem hrm hrc hgb hco hS5 hf5 HFS
   go_upto_region 4 with (refine wpList_loadAgg _ rfl 44 _ rfl 14 (by kernel_rfl) (by kernel_rfl) ⟨b, off + i * 14, none⟩ rfl _ HLD.out ?_)
   rw [HWB.out]
   go_cut [20] (fun s20 wx => s20 = .bool (co == 0) ∧ Hid (BookAt wx M.bb M.ms M.mh M.B S5) ∧ Hid (Turns3 M.bb M.ms M.mh wb wx))
   case first =>
    go_region_law (first
     | (go_simp; refine HADD.out.mono ?_; rintro e w5 ⟨rfl, hbk5, ht5⟩; have HBK5 := Lib.hid hbk5; have HT5 : Hid (Turns3 M.bb M.ms M.mh wb w5) := ⟨ht5.os, ht5.tape, ht5.output, ht5.size, ht5.block⟩; clear hbk5 ht5 HADD))
    all_goals
     go_wp2_with fail
     go_meet
     exact ⟨rfl, HBK5.out, HT5.out⟩
   case rest =>
    obtain ⟨rfl, HBK, HT5⟩ := hcut
    have hown : ∀ k, M.own k → k < w.heap.size := HOW.out
    have hkb : ∀ k, k < wb.heap.size → w.heap.size ≤ k → wc.heap[k]? = wb.heap[k]? := fun k hk hk2 => HT5.out.block k hk (fun e => by have := hown k (.inr (.inl e)); omega) (fun e => by have := hown k (.inr (.inr (.inl e))); omega) (fun e => by have := hown k (.inr (.inr (.inr e))); omega)
    have hz5 := HT5.out.size
    have hrow5 := (hkb wr.heap.size hlA (by omega)).trans HRW.out
    have hra5 := (hkb (w.heap.size + 1) (by omega) (by omega)).trans ((HBA.out.block (w.heap.size + 1) (by omega)).trans HRA.out)
    have hga5 := (HGA.out.below HBA.out (Nat.le_refl _)).booked HBK.out HT5.out
    have hac5 := (HAC.out.below HBA.out (Nat.le_refl _)).stay (fun k h1 h2 => hkb k h2 (by omega))
    have hrm5 := slAt_turns (HRR.out.below Dot.cells_len (by decide) HBA.out (Nat.le_refl _)) HT5.out HRC.out
    have ht5 : Touch M.own w wc := (HT.out.trans (Touch.of_below (L := M.own) HBA.out (Nat.le_refl _)) fun n hn h => h).trans (turns_touch HT5.out) fun n hn h => h
    have HKR : Hid (∀ k, w.heap.size ≤ k → k < wr.heap.size → wc.heap[k]? = wr.heap[k]?) := fun k h1 h2 => (hkb k (by omega) h1).trans (HBA.out.block k h2)
    have HR5 := Lib.hid hrow5
    have HA5 := Lib.hid hra5
    have HG5 := Lib.hid hga5
    have HC5 := Lib.hid hac5
    have HM5 := Lib.hid hrm5
    have HTT := Lib.hid ht5
    clear hown hkb hrow5 hra5 hga5 hac5 hrm5 ht5 HBK HT5 HT HRR HRC HBA HRA HGA HRW HGB HWB HLD g0 g1 g2 g3 e0 e1 e2 e3 e4 e5 e6 e7 e8 e9 e10 e11 e12 e13
    by_cases hc0 : co = 0
    ·subst hc0
     rw [if_pos rfl] at HTK
     have HCLN := Lib.hid (cloneDot_any (.slice ra rn rc) ev.rem wc HM5.out (by omega))
     have d13 : wc.cell? ⟨wr.heap.size, 13, none⟩ = some (.slice ra rn rc) := cell_of_row wc _ 13 _ _ _ HR5.out
     go_wp2_with fail
     refine HCLN.out.mono ?_
     rintro e w6 ⟨⟨da, dn, dc⟩, rfl, hown6, hb6⟩
     simp only [Hdr.val] at hown6 ⊢
     have hr6 := (hb6.block wr.heap.size (by omega)).trans HR5.out
     have x13 : w6.cell? ⟨wr.heap.size, 13, none⟩ = some (.slice ra rn rc) := cell_of_row w6 _ 13 _ _ _ hr6
     have z13 : w6.frozen? ⟨wr.heap.size, 13, none⟩ = false := by unfold World.frozen?; rw [hr6]; simp
     have hr7 : (w6.setCell ⟨wr.heap.size, 13, none⟩ (.slice da dn dc)).heap[wr.heap.size]? = some (.cells #[.int .i64 ev.dot.node, .int .i64 ev.dot.seq, .int .i64 ev.time, .int .i64 ev.kind, .int .i64 ev.work, .int .i64 ev.value, .int .i64 ev.pol.mn, .int .i64 ev.pol.mx, .int .i64 ev.pol.goal, .int .i64 ev.pol.slack, .int .i64 ev.pol.up, .int .i64 ev.pol.down, .int .i64 ev.pol.cool, .slice da dn dc] 44) := heap_cellSame w6 wr.heap.size 13 _ _ (.slice da dn dc) hr6
     have hk7 : ∀ k, k ≠ wr.heap.size → (w6.setCell ⟨wr.heap.size, 13, none⟩ (.slice da dn dc)).heap[k]? = w6.heap[k]? := fun k hk => Below.heap_setCell w6 ⟨wr.heap.size, 13, none⟩ _ k hk
     have hz7 : (w6.setCell ⟨wr.heap.size, 13, none⟩ (.slice da dn dc)).heap.size = w6.heap.size := by simp [World.setCell]
     have hz6 := hb6.size
     have ho7 : Owns Dot.cells 2 wc.heap.size 40 (w6.setCell ⟨wr.heap.size, 13, none⟩ (.slice da dn dc)) (.slice da dn dc) ev.rem := hown6.keep fun k hk => hk7 k (by have := (hown6.lt k hk).1; omega)
     have hno : ∀ k, M.own k → k < w.heap.size := HOW.out
     have hga7 := (HG5.out.below hb6 (Nat.le_refl _)).turn (W' := w6.setCell ⟨wr.heap.size, 13, none⟩ (.slice da dn dc)) hr6 (by decide) (by omega) (fun k hk hne => hk7 k hne) (fun e => by have := hno _ e; omega) (by omega)
     have hac7 := HAC.out.stay (w' := w6.setCell ⟨wr.heap.size, 13, none⟩ (.slice da dn dc)) (fun k h1 h2 => (hk7 k (by omega)).trans ((hb6.block k (by omega)).trans (HKR.out k (by omega) h2)))
     have hra7 := (hk7 (w.heap.size + 1) (by omega)).trans ((hb6.block (w.heap.size + 1) (by omega)).trans HA5.out)
     have ht7 : Touch M.own w (w6.setCell ⟨wr.heap.size, 13, none⟩ (.slice da dn dc)) := (HTT.out.trans (Touch.of_below (L := M.own) hb6 (Nat.le_refl _)) fun n hn h => h).trans (touch_set (fun k => k = wr.heap.size) w6 ⟨wr.heap.size, 13, none⟩ _ rfl) fun n hn e => by omega
     have hvb : ∀ g, (Value.slice oq qs.length cq).ownBlock = some g → w2.heap.size ≤ g ∧ g < wr.heap.size := fun g hg => HAC.out.row.lt g hg
     have HR7 := Lib.hid hr7
     have HO7 := Lib.hid ho7
     have HG7 := Lib.hid hga7
     have HC7 := Lib.hid hac7
     have HA7 := Lib.hid hra7
     have HT7 := Lib.hid ht7
     have HVB := Lib.hid hvb
     clear hr6 hr7 hk7 ho7 hno hga7 hac7 hra7 ht7 hvb hown6 hb6 HCLN d13 HR5 HA5 HG5 HC5 HM5 HTT HKR HAC
     have hz7a := Nat.le_of_eq hz7
     have hz7b := Nat.le_of_eq hz7.symm
     clear hz7
     go_upto_region 6 with fail
     generalize w6.setCell ⟨wr.heap.size, 13, none⟩ (.slice da dn dc) = w7 at *
     clear x13 z13
     have v1 : w7.cell? ⟨w.heap.size + 1, 1, none⟩ = some (.slice oq qs.length cq) := cell_of_row w7 _ 1 _ _ _ HA7.out
     have HLW := Lib.hid (load_whole HR7.out rfl)
     go_wp2_with (first | (refine wpList_loadAgg _ rfl 44 _ rfl 14 (by kernel_rfl) (by kernel_rfl) ⟨wr.heap.size, 0, none⟩ rfl _ HLW.out ?_) | (at_builtin; refine wpList_app pcells 14 pcells_len (by decide) pcells_one _ rfl _ _ 35 rfl w2.heap.size 44 _ 128 Tryz.underlying35 infoEv rfl _ qs rfl ?h1 _ [((⟨da, dn, dc⟩ : Hdr), ev)] rfl ?h2 ?h3 ?h4 ?h5 ?_))
     case h1 => exact HC7.out.row.below ((Below.refl w7.heap.size w7).alloc (Nat.le_refl _) _) (Nat.le_refl _)
     case h2 => exact slAt_new (enc := pcells) w7 (pcells (⟨da, dn, dc⟩, ev)).toArray 44 1 1 (0, 0) [(⟨da, dn, dc⟩, ev)] rfl rfl (by decide)
     case h3 => first | omega | (simp; omega)
     case h4 => first | omega | (simp; omega)
     case h5 => simp; omega
     intro v2 w8 hown8 hg8 hv8
     have hno : ∀ k, M.own k → k < w.heap.size := HOW.out
     have hal : Below w7.heap.size w7 (w7.alloc (.cells #[.int .i64 ev.dot.node, .int .i64 ev.dot.seq, .int .i64 ev.time, .int .i64 ev.kind, .int .i64 ev.work, .int .i64 ev.value, .int .i64 ev.pol.mn, .int .i64 ev.pol.mx, .int .i64 ev.pol.goal, .int .i64 ev.pol.slack, .int .i64 ev.pol.up, .int .i64 ev.pol.down, .int .i64 ev.pol.cool, .slice da dn dc] 44)) := (Below.refl w7.heap.size w7).alloc (Nat.le_refl _) _
     have hacc := acc_app (hd := (⟨da, dn, dc⟩ : Hdr)) (ev := ev) HC7.out (HO7.out.lower (by omega)) (fun g h1 h2 => by have := (HO7.out.lt g h1).1; have := (HVB.out g h2).2; omega) hown8 hg8 hv8
     have hga8 := (HG7.out.below hal (Nat.le_refl _)).grown (HC7.out.row.below hal (Nat.le_refl _)) hg8 (fun k hk => ⟨fun e => by have := hno k e; have := (HVB.out k hk).1; omega, by have := (HVB.out k hk).1; omega⟩)
     have hra8 := (hg8.block (w.heap.size + 1) (by have := hal.size; omega) (fun e => by have := (HVB.out _ e.symm).1; omega)).trans ((hal.block (w.heap.size + 1) (by omega)).trans HA7.out)
     have ht8 : Touch M.own w w8 := (HT7.out.trans (Touch.of_below (L := M.own) hal (Nat.le_refl _)) fun n hn h => h).trans (Touch.of_grown (L := fun k => (Value.slice oq qs.length cq).ownBlock = some k) hg8 fun j hj => hj) fun n hn e => by have := (HVB.out n e).1; omega
     obtain ⟨o8, c8, hv⟩ := slAt_slice hown8.at
     rw [List.length_append, List.length_singleton] at hv
     subst hv
     have v8 : w8.cell? ⟨w.heap.size + 1, 1, none⟩ = some (.slice oq qs.length cq) := cell_of_row w8 _ 1 _ _ _ hra8
     have z8 : w8.frozen? ⟨w.heap.size + 1, 1, none⟩ = false := by unfold World.frozen?; rw [hra8]; simp
     have hk9 : ∀ k, k ≠ w.heap.size + 1 → (w8.setCell ⟨w.heap.size + 1, 1, none⟩ (.slice o8 (qs.length + 1) c8)).heap[k]? = w8.heap[k]? := fun k hk => Below.heap_setCell w8 ⟨w.heap.size + 1, 1, none⟩ _ k hk
     have hz9 : (w8.setCell ⟨w.heap.size + 1, 1, none⟩ (.slice o8 (qs.length + 1) c8)).heap.size = w8.heap.size := by simp [World.setCell]
     have r9 : Hid ((w8.setCell ⟨w.heap.size + 1, 1, none⟩ (.slice o8 (qs.length + 1) c8)).heap[w.heap.size + 1]? = some (.cells #[.slice none 0 0, .slice o8 (qs ++ [((⟨da, dn, dc⟩ : Hdr), ev)]).length c8] 112)) := by
      rw [List.length_append, List.length_singleton]
      exact heap_cellSame w8 (w.heap.size + 1) 1 _ _ (.slice o8 (qs.length + 1) c8) hra8
     have a9 : Hid (Acc w2.heap.size 44 40 (w8.setCell ⟨w.heap.size + 1, 1, none⟩ (.slice o8 (qs.length + 1) c8)) (.slice o8 (qs ++ [((⟨da, dn, dc⟩ : Hdr), ev)]).length c8) (qs ++ [((⟨da, dn, dc⟩ : Hdr), ev)])) := by
      rw [List.length_append, List.length_singleton]
      exact hacc.stay fun k h1 h2 => hk9 k (by omega)
     have g9 := Lib.hid (hga8.turn (W' := w8.setCell ⟨w.heap.size + 1, 1, none⟩ (.slice o8 (qs.length + 1) c8)) hra8 (by decide) (by omega) (fun k hk hne => hk9 k hne) (fun e => by have := hno _ e; omega) (by omega))
     have t9 : Hid (Touch M.own w (w8.setCell ⟨w.heap.size + 1, 1, none⟩ (.slice o8 (qs.length + 1) c8))) := ht8.trans (touch_set (fun k => k = w.heap.size + 1) w8 ⟨w.heap.size + 1, 1, none⟩ _ rfl) fun n hn e => by omega
     have q9 : Hid ((qs ++ [((⟨da, dn, dc⟩ : Hdr), ev)]).map (·.2) = (givenB x.S ((m.evs.take (i + 1)).map (·.2))).2) := by
      show _ = _
      rw [HTK.out, List.map_append]; rfl
     have s9 : Hid (S5 = (givenB x.S ((m.evs.take (i + 1)).map (·.2))).1) := by show _ = _; rw [HTK.out]
     have l9 : (qs ++ [((⟨da, dn, dc⟩ : Hdr), ev)]).length ≤ i + 1 := by simp; omega
     have z9 : w2.heap.size ≤ (w8.setCell ⟨w.heap.size + 1, 1, none⟩ (.slice o8 (qs.length + 1) c8)).heap.size := by rw [hz9]; have := ht8.size; have := hg8.size; have := hal.size; omega
     have hlast : m.evs.length - (i + 1) < gk := by omega
     have hle1 : i + 1 ≤ m.evs.length := hlt
     clear hno hal hacc hga8 hra8 ht8 hk9 hz9 hown8 hg8 hv8 HC7 HO7 HG7 HA7 HT7 HVB HLW v1 HR7 HQM HS HTK
     go_wp2_with fail
     go_roundg (m.evs.length - (i + 1))
     case measure => exact hlast
     case rel => exact ⟨i + 1, o8, c8, _, S5, by go_num, hle1, Nat.le_refl _, l9, s9.out, HF5.out, q9.out, r9.out, a9.out, g9.out, t9.out, z9⟩
    ·rw [if_neg hc0] at HTK
     have hcb : (co == 0) = false := by simpa using hc0
     have q9 : Hid (qs.map (·.2) = (givenB x.S ((m.evs.take (i + 1)).map (·.2))).2) := by show _ = _; rw [HTK.out]
     have s9 : Hid (S5 = (givenB x.S ((m.evs.take (i + 1)).map (·.2))).1) := by show _ = _; rw [HTK.out]
     have z9 : w2.heap.size ≤ wc.heap.size := by omega
     have l9 : qs.length ≤ i + 1 := by omega
     have hlast : m.evs.length - (i + 1) < gk := by omega
     have hle1 : i + 1 ≤ m.evs.length := hlt
     clear HQM HS HTK hc0 HAC HKR HM5
     go_wp2_with fail
     go_roundg (m.evs.length - (i + 1))
     case measure => exact hlast
     case rel => exact ⟨i + 1, oq, cq, qs, S5, by go_num, hle1, Nat.le_refl _, l9, s9.out, HF5.out, q9.out, HA5.out, HC5.out, HG5.out, HTT.out, z9⟩
  ·have hltz : ¬ (i : Int) < (m.evs.length : Int) := by omega
   obtain rfl : i = m.evs.length := by omega
   rw [List.take_length] at HS HQM
   have v0 : wr.cell? ⟨w.heap.size + 1, 0, none⟩ = some (.slice none 0 0) := cell_of_row wr _ 0 _ _ _ HRA.out
   have v1 : wr.cell? ⟨w.heap.size + 1, 1, none⟩ = some (.slice oq qs.length cq) := cell_of_row wr _ 1 _ _ _ HRA.out
   have z0 : wr.frozen? ⟨w.heap.size + 1, 0, none⟩ = false := by unfold World.frozen?; rw [HRA.out]; simp
   have z1 : wr.frozen? ⟨w.heap.size + 1, 1, none⟩ = false := by unfold World.frozen?; rw [HRA.out]; simp
   have hno : ∀ k, M.own k → k < w.heap.size := HOW.out
   have hk9 : ∀ k, k ≠ w.heap.size + 1 → ((wr.setCell ⟨w.heap.size + 1, 0, none⟩ (.slice none 0 0)).setCell ⟨w.heap.size + 1, 1, none⟩ (.slice oq qs.length cq)).heap[k]? = wr.heap[k]? := fun k hk => (Below.heap_setCell _ ⟨w.heap.size + 1, 1, none⟩ _ k hk).trans (Below.heap_setCell wr ⟨w.heap.size + 1, 0, none⟩ _ k hk)
   have hz9 : ((wr.setCell ⟨w.heap.size + 1, 0, none⟩ (.slice none 0 0)).setCell ⟨w.heap.size + 1, 1, none⟩ (.slice oq qs.length cq)).heap.size = wr.heap.size := by simp [World.setCell]
   have hr9 : ((wr.setCell ⟨w.heap.size + 1, 0, none⟩ (.slice none 0 0)).setCell ⟨w.heap.size + 1, 1, none⟩ (.slice oq qs.length cq)).heap[w.heap.size + 1]? = some (.cells #[.slice none 0 0, .slice oq qs.length cq] 112) := heap_cellSame _ (w.heap.size + 1) 1 _ _ (.slice oq qs.length cq) (heap_cellSame wr (w.heap.size + 1) 0 _ _ (.slice none 0 0) HRA.out)
   have H1 := Lib.hid (run_loadVarAgg (P := Tryz.prog) (t := 112) (n := 2) (by kernel_rfl) (by kernel_rfl) (load_whole hr9 rfl))
   have H2 := Lib.hid (HAC.out.stay (w' := ((wr.setCell ⟨w.heap.size + 1, 0, none⟩ (.slice none 0 0)).setCell ⟨w.heap.size + 1, 1, none⟩ (.slice oq qs.length cq))) fun k h1 h2 => hk9 k (by omega))
   have H3 := Lib.hid (HGA.out.turn (W' := ((wr.setCell ⟨w.heap.size + 1, 0, none⟩ (.slice none 0 0)).setCell ⟨w.heap.size + 1, 1, none⟩ (.slice oq qs.length cq))) HRA.out (by decide) (Nat.le_of_eq hz9.symm) (fun k hk hne => hk9 k hne) (fun e => by have := hno _ e; omega) (by omega))
   have H4 : Hid (Touch M.own w ((wr.setCell ⟨w.heap.size + 1, 0, none⟩ (.slice none 0 0)).setCell ⟨w.heap.size + 1, 1, none⟩ (.slice oq qs.length cq))) := (HT.out.trans (touch_set (fun k => k = w.heap.size + 1) wr ⟨w.heap.size + 1, 0, none⟩ _ rfl) fun n hn e => by omega).trans (touch_set (fun k => k = w.heap.size + 1) _ ⟨w.heap.size + 1, 1, none⟩ _ rfl) fun n hn e => by omega
   rw [HS.out] at H3
   clear hno hk9 hz9 hr9 HRA HAC HGA HT HFS HS
   go_wp2_with fail
   exact bodyPost_ret (v := .agg #[.slice none 0 0, .slice oq qs.length cq]) (run_results_cell rfl rfl H1.out) rfl ⟨⟨oq, qs.length, cq⟩, rfl, qs, ⟨(H2.out.row.lower (by omega)), fun q hq => ⟨(H2.out.rem q hq).1.lower (by omega), (H2.out.rem q hq).2⟩⟩, HQM.out, H3.out, H4.out⟩
end Go.Proofs.YtenkfnhcdfmkaaaGreat
namespace Go.Proofs.YtenkfnhcdfmkaaaGreat
open Go.RowKit Go.Lib Go.Shelf Go.Maps
set_option linter.unusedVariables false
theorem keyIntG : Keyed Tryz.prog 3 := int_keyed Tryz.underlying3
theorem zeroFn : ∃ z, ∀ w, (zeroValue 108).run Tryz.prog w = .ok z w := ⟨_, fun w => Tryz.zeroValue108 w⟩
theorem table_any (w : World) (b : Nat) (h : w.heap[b]? = some (.map #[] 0)) (f4 f5 : Value) : ∃ w1 w2 z, (Instr.mapUpdate 109 (.map (some b)) (.int .i64 4) f4).run Tryz.prog w = .ok () w1 ∧ (Instr.mapUpdate 109 (.map (some b)) (.int .i64 5) f5).run Tryz.prog w1 = .ok () w2 ∧ w.grownBy w1 (some b) ∧ w1.grownBy w2 (some b) ∧
  ∀ (kind : Int), (Lit.int .i64 kind).wf = true → (Instr.lookup 109 (.map (some b)) (.int .i64 kind) true).run Tryz.prog w2 = .ok (.tuple #[if kind = 4 then f4 else if kind = 5 then f5 else z, .bool (decide (kind = 4 ∨ kind = 5))]) w2 := by
 obtain ⟨z, hz⟩ := zeroFn
 have hown : w.ownsMap Tryz.prog 3 (fun v => some (.held v, ([] : List MemPlace))) b 0 (.map []) := by
  have h1 := World.ownsMap_made w Tryz.prog 3 (fun v => some (DataW.held v, ([] : List MemPlace)))
  obtain ⟨es, clock, h2, h3⟩ := h1
  rw [heap_alloc_new] at h2
  injection h2 with h2
  injection h2 with h4 h5
  subst h4
  subst h5
  exact ⟨_, _, h, h3⟩
 have k4 : keyOf Tryz.prog 3 (.int .i64 4) = some (.int .i64 4) := keyOf_int_mk Tryz.underlying3 (by decide)
 have k5 : keyOf Tryz.prog 3 (.int .i64 5) = some (.int .i64 5) := keyOf_int_mk Tryz.underlying3 (by decide)
 obtain ⟨w1, r1, o1, g1⟩ := hown.update keyIntG Tryz.underlying109 (by unfold maxLen; omega) k4 (d := .held f4) (ps := []) rfl
 obtain ⟨w2, r2, o2, g2⟩ := o1.update keyIntG Tryz.underlying109 (by unfold maxLen; omega) k5 (d := .held f5) (ps := []) rfl
 have t0 : Tidy (.map [] : DataW Value) := tidy_empty
 have t1 := t0.put (k := .int .i64 4) (by first | trivial | decide | simp [WideAt.IsKeyLit]) (.held f4)
 refine ⟨w1, w2, z, r1, r2, g1, g2, fun kind hk => ?_⟩
 obtain ⟨v, ps, hrun, hv⟩ := o2.look_ok keyIntG Tryz.underlying109 (hz w2) (zd := .held z) (zp := []) rfl (keyOf_int_mk Tryz.underlying3 hk)
 rw [hrun]
 by_cases e5 : kind = 5
 ·subst e5
  rw [atKey_put_same t1.isMap (by first | trivial | decide | simp [WideAt.IsKeyLit])] at hv
  rw [has_put_same t1.isMap (by first | trivial | decide | simp [WideAt.IsKeyLit])]
  simp only [Option.some.injEq, Prod.mk.injEq, DataW.held.injEq] at hv
  rw [hv.1]
  rfl
 ·rw [atKey_put_other (by intro h2; injection h2 with _ h3; exact e5 h3)] at hv
  rw [has_put_other (by intro h2; injection h2 with _ h3; exact e5 h3)]
  by_cases e4 : kind = 4
  ·subst e4
   rw [atKey_put_same t0.isMap (by first | trivial | decide | simp [WideAt.IsKeyLit])] at hv
   rw [has_put_same t0.isMap (by first | trivial | decide | simp [WideAt.IsKeyLit])]
   simp only [Option.some.injEq, Prod.mk.injEq, DataW.held.injEq] at hv
   rw [hv.1]
   rfl
  ·rw [atKey_put_other (by intro h2; injection h2 with _ h3; exact e4 h3)] at hv
   rw [has_put_other (by intro h2; injection h2 with _ h3; exact e4 h3)]
   have hv2 : v = z := by
    have : (some (DataW.held v, ([] : List MemPlace))) = some (DataW.held z, ps) := hv
    simp only [Option.some.injEq, Prod.mk.injEq, DataW.held.injEq] at this
    exact this.1
   rw [hv2, if_neg e4, if_neg e5, decide_eq_false (by omega)]
   rfl
end Go.Proofs.YtenkfnhcdfmkaaaGreat
