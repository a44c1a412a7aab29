/-
  A message with some events, in memory of its own: chunk.with.
-/
import Derived.Test.YtenkfnhcdfmkaaaGreatMFitP
namespace Go.Proofs.YtenkfnhcdfmkaaaGreat
open Go.RowKit Go.Lib
set_option linter.unusedVariables false
set_option linter.unusedSimpArgs false
theorem acc_roundW {B e ed C : Nat} {wr w1 w' : World} {lit : Go.Obj} {v v' : Value} {qs : List PEv} {hd : Hdr} {ev : Ev} (hB : B ≤ wr.heap.size) (hC : wr.heap.size ≤ C)
  (h : Acc B e ed wr v qs) (hb : Below wr.heap.size wr w1) (hc : Owns Dot.cells 2 C ed w1 hd.val ev.rem)
  (ho : Owns pcells 14 B e w' v' (qs ++ [(hd, ev)])) (hg : (w1.alloc lit).grownBy w' v.ownBlock) (hv : v'.ownBlock = v.ownBlock ∨ ∀ g, v'.ownBlock = some g → w1.heap.size + 1 ≤ g) :
  Acc B e ed w' v' (qs ++ [(hd, ev)]) ∧ Below B wr w' := by
 have h3 : Below wr.heap.size wr (w1.alloc lit) := hb.alloc hb.size lit
 refine ⟨(h.below h3 (Nat.le_refl _)).push (fun q hq => ?_) ho hg (by simpa using hv), (h3.mono hB).grown hg (Nat.le_trans hB h3.size) fun k hk => (h.row.lt k hk).1⟩
 obtain rfl : q = (hd, ev) := by simpa using hq
 refine ⟨(hc.lower (by omega)).keep fun g hg2 => ?_, ?_⟩
 ·exact Below.heap_alloc _ _ _ (hc.lt g hg2).2
 ·cases hx : hd.val.ownBlock with
  | none => exact .inl rfl
  | some g =>
   refine .inr fun e2 => ?_
   have h1 := (hc.lt g hx).1
   have h2 := (h.row.lt g e2.symm).2
   omega
set_option maxRecDepth 100000 in
set_option maxHeartbeats 2000000 in
theorem with_any (m : Msg) (oa : Option Addr) (cap : Nat) (ps : List PEv) (w : World) (hMo : SlAt Dot.cells w m.hm.val m.more) (hMs : SlAt Mb.cells w m.hs.val m.ms) (l1 : m.more.length ≤ 1000) (l2 : m.ms.length ≤ 1000) (h : EvsAt w (.slice oa ps.length cap) ps) (hl : ps.length ≤ 1000) (hrl : ∀ p ∈ ps, p.2.rem.length ≤ 1000000) :
  Calls Tryz.prog 116 #[.agg #[.int .i64 m.kind, .int .i64 m.frm, .int .i64 m.to_, .int .i64 m.seq, .int .i64 m.node, .int .i64 (m.u 0), .int .i64 (m.u 1), .int .i64 (m.u 2), .int .i64 (m.u 3), .int .i64 (m.u 4), .int .i64 (m.u 5), .int .i64 (m.u 6), .int .i64 (m.u 7), m.hm.val, m.he.val, m.hs.val], .slice oa ps.length cap] w fun e w' => ∃ (x z y : Hdr) (qs : List PEv), e = .returned (.agg #[.int .i64 m.kind, .int .i64 m.frm, .int .i64 m.to_, .int .i64 m.seq, .int .i64 m.node, .int .i64 (m.u 0), .int .i64 (m.u 1), .int .i64 (m.u 2), .int .i64 (m.u 3), .int .i64 (m.u 4), .int .i64 (m.u 5), .int .i64 (m.u 6), .int .i64 (m.u 7), x.val, z.val, y.val]) ∧ qs.map (·.2) = ps.map (·.2) ∧ Owns Dot.cells 2 w.heap.size 40 w' x.val m.more ∧ Acc w.heap.size 44 40 w' z.val qs ∧ Owns Mb.cells 3 w.heap.size 143 w' y.val m.ms ∧ Below w.heap.size w w' := by
 have hp : Tryz.prog.follows .mixedOrders = true := by kernel_rfl
 obtain ⟨⟨ma, mn, mc⟩, ehm⟩ : ∃ hd : Hdr, m.hm = hd := ⟨_, rfl⟩
 obtain ⟨⟨sa, sn, sc⟩, ehs⟩ : ∃ hd : Hdr, m.hs = hd := ⟨_, rfl⟩
 rw [ehm] at hMo ⊢
 rw [ehs] at hMs ⊢
 simp only [Hdr.val] at hMo hMs ⊢
 obtain ⟨h0, h1, hb, hsz⟩ := alloc2 w (.cells #[.int .i64 m.kind, .int .i64 m.frm, .int .i64 m.to_, .int .i64 m.seq, .int .i64 m.node, .int .i64 (m.u 0), .int .i64 (m.u 1), .int .i64 (m.u 2), .int .i64 (m.u 3), .int .i64 (m.u 4), .int .i64 (m.u 5), .int .i64 (m.u 6), .int .i64 (m.u 7), .slice ma mn mc, .slice m.he.a m.he.n m.he.c, .slice sa sn sc] 38) (.cells #[.int .i64 0, .int .i64 0, .int .i64 0, .int .i64 0, .int .i64 0, .int .i64 0, .int .i64 0, .int .i64 0, .int .i64 0, .int .i64 0, .int .i64 0, .int .i64 0, .int .i64 0, .slice none 0 0, .slice none 0 0, .slice none 0 0] 38)
 obtain ⟨w2, hw2⟩ : ∃ w2, (w.alloc (.cells #[.int .i64 m.kind, .int .i64 m.frm, .int .i64 m.to_, .int .i64 m.seq, .int .i64 m.node, .int .i64 (m.u 0), .int .i64 (m.u 1), .int .i64 (m.u 2), .int .i64 (m.u 3), .int .i64 (m.u 4), .int .i64 (m.u 5), .int .i64 (m.u 6), .int .i64 (m.u 7), .slice ma mn mc, .slice m.he.a m.he.n m.he.c, .slice sa sn sc] 38)).alloc (.cells #[.int .i64 0, .int .i64 0, .int .i64 0, .int .i64 0, .int .i64 0, .int .i64 0, .int .i64 0, .int .i64 0, .int .i64 0, .int .i64 0, .int .i64 0, .int .i64 0, .int .i64 0, .slice none 0 0, .slice none 0 0, .slice none 0 0] 38) = w2 := ⟨_, rfl⟩
 rw [hw2] at h0 h1 hb hsz
 have p13 : w2.cell? ⟨w.heap.size, 13, none⟩ = some (.slice ma mn mc) := cell_of_row w2 _ 13 _ _ _ h0
 have p15 : w2.cell? ⟨w.heap.size, 15, none⟩ = some (.slice sa sn sc) := cell_of_row w2 _ 15 _ _ _ h0
 have HC1 := Lib.hid (cloneDot_any _ m.more w2.drew (hMo.below Dot.cells_len (by decide) (hb.trans ((below_drew (Below.refl w2.heap.size w2)).mono hb.size)) (Nat.le_refl _)) (by omega))
 have HMS := Lib.hid hMs
 have HSZ := Lib.hid hsz
 have HW2 := Lib.hid hw2
 have HB := Lib.hid hb
 have H0 := Lib.hid h0
 have H1 := Lib.hid h1
 have HEV := Lib.hid h
 have HRL := Lib.hid hrl
 clear hw2 hb h0 h1 hMo hMs h hrl
 go_enter Tryz.func116, Tryz.ntmps116
 go_upto_region 1 with fail
 rw [HW2.out]
 go_cut [14] (fun s14 wx => ∃ x y : Hdr, Hid (wx.heap[w.heap.size]? = some (.cells #[.int .i64 m.kind, .int .i64 m.frm, .int .i64 m.to_, .int .i64 m.seq, .int .i64 m.node, .int .i64 (m.u 0), .int .i64 (m.u 1), .int .i64 (m.u 2), .int .i64 (m.u 3), .int .i64 (m.u 4), .int .i64 (m.u 5), .int .i64 (m.u 6), .int .i64 (m.u 7), x.val, .slice m.he.a m.he.n m.he.c, y.val] 38)) ∧ Hid (wx.heap[w.heap.size + 1]? = some (.cells #[.int .i64 0, .int .i64 0, .int .i64 0, .int .i64 0, .int .i64 0, .int .i64 0, .int .i64 0, .int .i64 0, .int .i64 0, .int .i64 0, .int .i64 0, .int .i64 0, .int .i64 0, .slice none 0 0, .slice none 0 0, .slice none 0 0] 38)) ∧ Hid (Owns Dot.cells 2 (w.heap.size + 2) 40 wx x.val m.more) ∧ Hid (Owns Mb.cells 3 (w.heap.size + 2) 143 wx y.val m.ms) ∧ Hid (Below w.heap.size w wx))
 case first =>
  go_region_law (first | (go_simp; refine HC1.out.mono ?_; rintro e w7 ⟨⟨xa, xn, xc⟩, rfl, ho, hb⟩; simp only [Hdr.val]; have HB7 := Lib.hid (HB.out.trans (((below_drew (Below.refl w2.heap.size w2)).trans hb).mono HB.out.size)); have HD7 := Lib.hid ((below_drew (Below.refl w2.heap.size w2)).trans hb); have HO7 := Lib.hid ho; have y15 : w7.cell? ⟨w.heap.size, 15, none⟩ = some (.slice sa sn sc) := (HD7.out.cell (p := ⟨w.heap.size, 15, none⟩) (by show w.heap.size < w2.heap.size; have := HSZ.out; omega)).trans p15; have y13 : w7.cell? ⟨w.heap.size, 13, none⟩ = some (.slice ma mn mc) := (HD7.out.cell (p := ⟨w.heap.size, 13, none⟩) (by show w.heap.size < w2.heap.size; have := HSZ.out; omega)).trans p13; have u13 : w7.frozen? ⟨w.heap.size, 13, none⟩ = false := (by unfold World.frozen?; rw [(HD7.out.block w.heap.size (by have := HSZ.out; omega)).trans H0.out]; simp); have HC2 := Lib.hid (cloneMb_any _ m.ms w7 (HMS.out.below Mb.cells_len (by decide) HB7.out (Nat.le_refl _)) (by omega)); clear ho hb HC1) | (go_simp; refine HC2.out.mono ?_; rintro e w8 ⟨⟨ya, yn, yc⟩, rfl, ho8, hb8⟩; simp only [Hdr.val]; have HR8 := Lib.hid ((hb8.block w.heap.size (by have := HB7.out.size; have := HSZ.out; have := HD7.out.size; omega)).trans ((HD7.out.block w.heap.size (by have := HSZ.out; omega)).trans H0.out)); have x13 := cell_of_row w8 w.heap.size 13 _ _ _ HR8.out; have x15 := cell_of_row w8 w.heap.size 15 _ _ _ HR8.out; have z13 : w8.frozen? ⟨w.heap.size, 13, none⟩ = false := (by unfold World.frozen?; rw [HR8.out]; simp); have z15 : w8.frozen? ⟨w.heap.size, 15, none⟩ = false := (by unfold World.frozen?; rw [HR8.out]; simp); have HO8 := Lib.hid ho8; have HB8 := Lib.hid hb8; clear ho8 hb8; replace x13 : w8.cell? ⟨w.heap.size, 13, none⟩ = some (.slice ma mn mc) := x13; replace x15 : w8.cell? ⟨w.heap.size, 15, none⟩ = some (.slice sa sn sc) := x15))
  all_goals
   go_wp2_with fail
   go_meet
   have h8 := HB8.out.size
   have h7 := HD7.out.size
   have hz := HSZ.out
   have hk : ∀ k, w.heap.size < k → ((w8.setCell ⟨w.heap.size, 13, none⟩ (.slice xa xn xc)).setCell ⟨w.heap.size, 15, none⟩ (.slice ya yn yc)).heap[k]? = w8.heap[k]? := fun k hk => (Below.heap_setCell _ ⟨w.heap.size, 15, none⟩ _ k (by show k ≠ w.heap.size; omega)).trans (Below.heap_setCell w8 ⟨w.heap.size, 13, none⟩ _ k (by show k ≠ w.heap.size; omega))
   have ho7 := HO7.out.below HB8.out (Nat.le_refl _)
   exact ⟨⟨xa, xn, xc⟩, ⟨ya, yn, yc⟩, heap_cellSame _ w.heap.size 15 _ _ (.slice ya yn yc) (heap_cellSame w8 w.heap.size 13 _ _ (.slice xa xn xc) HR8.out), (hk _ (Nat.lt_succ_self _)).trans ((HB8.out.block (w.heap.size + 1) (by omega)).trans ((HD7.out.block (w.heap.size + 1) (by omega)).trans H1.out)), (ho7.keep fun b hb => hk b (by have := (ho7.lt b hb).1; have e : w2.drew.heap.size = w2.heap.size := rfl; omega)).lower (by show w.heap.size + 2 ≤ w2.heap.size; omega), (HO8.out.keep fun b hb => hk b (by have := (HO8.out.lt b hb).1; omega)).lower (by omega), ((HB7.out.trans (HB8.out.mono HB7.out.size)).setCell (p := ⟨w.heap.size, 13, none⟩) (Nat.le_refl _) _).setCell (p := ⟨w.heap.size, 15, none⟩) (Nat.le_refl _) _⟩
 case rest =>
  obtain ⟨⟨xa, xn, xc⟩, ⟨ya, yn, yc⟩, HR0, HR1, HOX, HOY, HBW⟩ := hcut
  replace HR0 : Hid (wc.heap[w.heap.size]? = some (.cells #[.int .i64 m.kind, .int .i64 m.frm, .int .i64 m.to_, .int .i64 m.seq, .int .i64 m.node, .int .i64 (m.u 0), .int .i64 (m.u 1), .int .i64 (m.u 2), .int .i64 (m.u 3), .int .i64 (m.u 4), .int .i64 (m.u 5), .int .i64 (m.u 6), .int .i64 (m.u 7), .slice xa xn xc, .slice m.he.a m.he.n m.he.c, .slice ya yn yc] 38)) := HR0
  have q14 : wc.cell? ⟨w.heap.size, 14, none⟩ = some (.slice m.he.a m.he.n m.he.c) := cell_of_row wc _ 14 _ _ _ HR0.out
  have z14 : wc.frozen? ⟨w.heap.size, 14, none⟩ = false := by unfold World.frozen?; rw [HR0.out]; simp
  have hk0 : ∀ k, w.heap.size < k → (wc.setCell ⟨w.heap.size, 14, none⟩ (.slice none 0 0)).heap[k]? = wc.heap[k]? := fun k hk => Below.heap_setCell wc ⟨w.heap.size, 14, none⟩ _ k (by show k ≠ w.heap.size; omega)
  have hA0 : (wc.setCell ⟨w.heap.size, 14, none⟩ (.slice none 0 0)).heap[w.heap.size]? = some (.cells #[.int .i64 m.kind, .int .i64 m.frm, .int .i64 m.to_, .int .i64 m.seq, .int .i64 m.node, .int .i64 (m.u 0), .int .i64 (m.u 1), .int .i64 (m.u 2), .int .i64 (m.u 3), .int .i64 (m.u 4), .int .i64 (m.u 5), .int .i64 (m.u 6), .int .i64 (m.u 7), .slice xa xn xc, .slice none 0 0, .slice ya yn yc] 38) := heap_cellSame wc w.heap.size 14 _ _ (.slice none 0 0) HR0.out
  have HA0 := Lib.hid hA0
  have HA1 := Lib.hid ((hk0 _ (Nat.lt_succ_self _)).trans HR1.out)
  have HAX := Lib.hid (HOX.out.keep (w' := wc.setCell ⟨w.heap.size, 14, none⟩ (.slice none 0 0)) fun b hb => hk0 b (by have := (HOX.out.lt b hb).1; omega))
  have HAY := Lib.hid (HOY.out.keep (w' := wc.setCell ⟨w.heap.size, 14, none⟩ (.slice none 0 0)) fun b hb => hk0 b (by have := (HOY.out.lt b hb).1; omega))
  have HAB := Lib.hid (HBW.out.setCell (p := ⟨w.heap.size, 14, none⟩) (Nat.le_refl _) (.slice none 0 0))
  clear hk0 hA0 HR0 HR1 HOX HOY HBW HW2 HB H0 H1 HMS HSZ HC1 p13 p15
  go_upto_region 3 with fail
  generalize wc.setCell ⟨w.heap.size, 14, none⟩ (.slice none 0 0) = wa at *
  clear q14 z14
  go_wp2_with fail
  go_loopg [6, 18] ps.length (fun gk s6 s18 wr => ∃ (i : Nat) (oq : Option Addr) (cq : Nat) (qs : List PEv), s18 = .int .i64 i ∧ i ≤ ps.length ∧ ps.length - i ≤ gk ∧ Hid (qs.length = i) ∧ Hid (wr.heap[w.heap.size]? = some (.cells #[.int .i64 m.kind, .int .i64 m.frm, .int .i64 m.to_, .int .i64 m.seq, .int .i64 m.node, .int .i64 (m.u 0), .int .i64 (m.u 1), .int .i64 (m.u 2), .int .i64 (m.u 3), .int .i64 (m.u 4), .int .i64 (m.u 5), .int .i64 (m.u 6), .int .i64 (m.u 7), .slice xa xn xc, .slice oq i cq, .slice ya yn yc] 38)) ∧ Hid (wr.heap[w.heap.size + 1]? = some (.cells #[.int .i64 0, .int .i64 0, .int .i64 0, .int .i64 0, .int .i64 0, .int .i64 0, .int .i64 0, .int .i64 0, .int .i64 0, .int .i64 0, .int .i64 0, .int .i64 0, .int .i64 0, .slice none 0 0, .slice none 0 0, .slice none 0 0] 38)) ∧ Hid (Owns Dot.cells 2 (w.heap.size + 2) 40 wr (.slice xa xn xc) m.more) ∧ Hid (Owns Mb.cells 3 (w.heap.size + 2) 143 wr (.slice ya yn yc) m.ms) ∧ Hid (Acc wa.heap.size 44 40 wr (.slice oq i cq) qs) ∧ Hid (qs.map (·.2) = (ps.take i).map (·.2)) ∧ Hid (Below w.heap.size w wr) ∧ wa.heap.size ≤ wr.heap.size)
  case atStart => exact ⟨0, none, 0, [], rfl, Nat.zero_le _, Nat.le_refl _, rfl, HA0.out, HA1.out, HAX.out, HAY.out, Acc.nil _ _ _ _, by show _ = _; simp, HAB.out, Nat.le_refl _⟩
  case round =>
   obtain ⟨i, oq, cq, qs, rfl, hi, hgk, HQI, HR0, HR1, HOX, HOY, HAC, HMP, HBB, hwr⟩ := hrel
   have hwa0 : w.heap.size < wa.heap.size := (Array.getElem?_eq_some_iff.1 HA0.out).1
   have hwa1 : w.heap.size + 1 < wa.heap.size := (Array.getElem?_eq_some_iff.1 HA1.out).1
   clear HA0 HA1 HAB
   by_cases hlt : i < ps.length
   ·--ONE
    have hltz : (i : Int) < (ps.length : Int) := by omega
    have hev := HEV.out.below HBB.out (Nat.le_refl _)
    have hsl := hev.1
    obtain ⟨b, off, hbo⟩ := hsl.plain pcells_len (by decide) (by intro e; rw [e] at hlt; exact absurd hlt (by simp))
    subst hbo
    have hmem : ps[i] ∈ ps := List.getElem_mem hlt
    have hld : Sem.run Tryz.prog (loadCellsFrom ⟨b, off + i * 14, none⟩ 0 14 #[]) wr = .ok (pcells ps[i]).toArray wr := by
     refine run_loadCellsFrom_list Tryz.prog wr ⟨b, off + i * 14, none⟩ (pcells ps[i]) 14 (pcells_len _) fun j v hv => ?_
     rw [Addr.add_lit]
     have hj : j < 14 := by have := (List.getElem?_eq_some_iff.1 hv).1; rwa [pcells_len] at this
     have := hsl.cell pcells_len (i := i) (c := j) hlt hj
     rw [show off + i * 14 + j = off + (i * 14 + j) by omega, this, hv]
    have hrm := hev.2 _ hmem
    have hrr := HRL.out _ hmem
    have htk : (ps.take (i + 1)).map (·.2) = (ps.take i).map (·.2) ++ [ps[i].2] := by rw [List.take_succ_eq_append_getElem hlt, List.map_append]; rfl
    generalize ps[i] = p at *
    obtain ⟨⟨ra, rn, rc⟩, ev⟩ := p
    dsimp only at hrm hrr htk
    replace hld : Sem.run Tryz.prog (loadCellsFrom ⟨b, off + i * 14, none⟩ 0 14 #[]) wr = .ok #[.int .i64 ev.dot.node, .int .i64 ev.dot.seq, .int .i64 ev.time, .int .i64 ev.kind, .int .i64 ev.work, .int .i64 ev.value, .int .i64 ev.pol.mn, .int .i64 ev.pol.mx, .int .i64 ev.pol.goal, .int .i64 ev.pol.slack, .int .i64 ev.pol.up, .int .i64 ev.pol.down, .int .i64 ev.pol.cool, .slice ra rn rc] wr := hld
    obtain ⟨wb, hwb⟩ : ∃ wb, wr.alloc (.cells #[.int .i64 ev.dot.node, .int .i64 ev.dot.seq, .int .i64 ev.time, .int .i64 ev.kind, .int .i64 ev.work, .int .i64 ev.value, .int .i64 ev.pol.mn, .int .i64 ev.pol.mx, .int .i64 ev.pol.goal, .int .i64 ev.pol.slack, .int .i64 ev.pol.up, .int .i64 ev.pol.down, .int .i64 ev.pol.cool, .slice ra rn rc] 44) = wb := ⟨_, rfl⟩
    have hbA : Below wr.heap.size wr wb := by rw [← hwb]; exact (Below.refl _ _).alloc (Nat.le_refl _) _
    have hrA : wb.heap[wr.heap.size]? = some (.cells #[.int .i64 ev.dot.node, .int .i64 ev.dot.seq, .int .i64 ev.time, .int .i64 ev.kind, .int .i64 ev.work, .int .i64 ev.value, .int .i64 ev.pol.mn, .int .i64 ev.pol.mx, .int .i64 ev.pol.goal, .int .i64 ev.pol.slack, .int .i64 ev.pol.up, .int .i64 ev.pol.down, .int .i64 ev.pol.cool, .slice ra rn rc] 44) := by rw [← hwb]; exact heap_alloc_new wr _
    have n13 : wb.cell? ⟨wr.heap.size, 13, none⟩ = some (.slice ra rn rc) := cell_of_row wb _ 13 _ _ _ hrA
    have hlA : wr.heap.size < wb.heap.size := (Array.getElem?_eq_some_iff.1 hrA).1
    have hcl := cloneDot_any (.slice ra rn rc) ev.rem wb (hrm.below Dot.cells_len (by decide) hbA (Nat.le_refl _)) hrr
    have HCL := Lib.hid hcl
    have HLD := Lib.hid hld
    have HWB := Lib.hid hwb
    have HBA := Lib.hid hbA
    have HRA := Lib.hid hrA
    have HTK := Lib.hid htk
    clear hcl hld hwb hbA hrA htk hev hsl hmem hrm hrr
    go_upto_region 6 with (refine wpList_loadAgg _ rfl 44 _ rfl 14 (by kernel_rfl) (by kernel_rfl) ⟨b, off + i * 14, none⟩ rfl _ HLD.out ?_)
    rw [HWB.out]
    go_wp2_with fail
    refine HCL.out.mono ?_
    rintro e w3 ⟨⟨da, dn, dc⟩, rfl, hown3, hb3⟩
    simp only [Hdr.val]
    have hr3 := (hb3.block wr.heap.size hlA).trans HRA.out
    have x13 : w3.cell? ⟨wr.heap.size, 13, none⟩ = some (.slice ra rn rc) := cell_of_row w3 _ 13 _ _ _ hr3
    have z13 : w3.frozen? ⟨wr.heap.size, 13, none⟩ = false := by unfold World.frozen?; rw [hr3]; simp
    have hr4 : (w3.setCell ⟨wr.heap.size, 13, none⟩ (.slice da dn dc)).heap[wr.heap.size]? = some (.cells #[.int .i64 ev.dot.node, .int .i64 ev.dot.seq, .int .i64 ev.time, .int .i64 ev.kind, .int .i64 ev.work, .int .i64 ev.value, .int .i64 ev.pol.mn, .int .i64 ev.pol.mx, .int .i64 ev.pol.goal, .int .i64 ev.pol.slack, .int .i64 ev.pol.up, .int .i64 ev.pol.down, .int .i64 ev.pol.cool, .slice da dn dc] 44) := heap_cellSame w3 wr.heap.size 13 _ _ (.slice da dn dc) hr3
    have hb4 : Below wr.heap.size wr (w3.setCell ⟨wr.heap.size, 13, none⟩ (.slice da dn dc)) := (HBA.out.trans (hb3.mono HBA.out.size)).setCell (p := ⟨wr.heap.size, 13, none⟩) (Nat.le_refl _) _
    have ho4 : Owns Dot.cells 2 wb.heap.size 40 (w3.setCell ⟨wr.heap.size, 13, none⟩ (.slice da dn dc)) (.slice da dn dc) ev.rem := hown3.keep fun k hk => Below.heap_setCell w3 ⟨wr.heap.size, 13, none⟩ _ k (by have := (hown3.lt k hk).1; show k ≠ wr.heap.size; omega)
    have HR4 := Lib.hid hr4
    have HB4 := Lib.hid hb4
    have HO4 := Lib.hid ho4
    have h34 : (w3.setCell ⟨wr.heap.size, 13, none⟩ (.slice da dn dc)).heap.size = w3.heap.size := by simp [World.setCell]
    clear hr3 hr4 hb4 ho4 hown3 hb3 n13 HCL HLD HWB
    go_upto_region 7 with fail
    generalize w3.setCell ⟨wr.heap.size, 13, none⟩ (.slice da dn dc) = w4 at *
    clear x13 z13 h34
    have hbs := HBB.out.size
    have hb0 : w.heap.size < wr.heap.size := (Array.getElem?_eq_some_iff.1 HR0.out).1
    have hb1 : w.heap.size + 1 < wr.heap.size := (Array.getElem?_eq_some_iff.1 HR1.out).1
    have hm4 := (HB4.out.block w.heap.size hb0).trans HR0.out
    have v14 : w4.cell? ⟨w.heap.size, 14, none⟩ = some (.slice oq i cq) := cell_of_row w4 _ 14 _ _ _ hm4
    have hlw := load_whole HR4.out rfl
    have HLW := Lib.hid hlw
    have HM4 := Lib.hid hm4
    have hsz4 := HB4.out.size
    clear hlw hm4
    have hqi := HQI.out
    go_wp2_with (first | (refine wpList_loadAgg _ rfl 44 _ rfl 14 (by kernel_rfl) (by kernel_rfl) ⟨wr.heap.size, 0, none⟩ rfl _ HLW.out ?_) | (at_builtin; refine wpList_app pcells 14 pcells_len (by decide) pcells_one _ rfl _ _ 35 rfl wa.heap.size 44 _ 128 Tryz.underlying35 infoEv rfl _ qs rfl ?h1 _ [((⟨da, dn, dc⟩ : Hdr), ev)] rfl ?h2 ?h3 ?h4 ?h5 ?_))
    case h1 => exact (HAC.out.row.below HB4.out (Nat.le_refl _)).below ((Below.refl w4.heap.size w4).alloc (Nat.le_refl _) _) (Nat.le_refl _)
    case h2 => exact slAt_new (enc := pcells) w4 (pcells (⟨da, dn, dc⟩, ev)).toArray 44 1 1 (0, 0) [(⟨da, dn, dc⟩, ev)] rfl rfl (by decide)
    case h3 => first | omega | (simp; omega)
    case h4 => first | omega | (simp; omega)
    case h5 => simp; omega
    intro v2 w5 hown5 hg5 hv5
    have hcb : wr.heap.size ≤ wb.heap.size := Nat.le_of_lt hlA
    have ⟨hacc, hbb⟩ := acc_roundW (hd := (⟨da, dn, dc⟩ : Hdr)) (ev := ev) hwr hcb HAC.out HB4.out HO4.out hown5 hg5 hv5
    obtain ⟨o5, c5, hv⟩ := slAt_slice hown5.at
    rw [List.length_append, HQI.out, List.length_singleton] at hv
    subst hv
    have hm5 := (hbb.block w.heap.size hwa0).trans HR0.out
    have h15 := (hbb.block (w.heap.size + 1) hwa1).trans HR1.out
    have v5 : w5.cell? ⟨w.heap.size, 14, none⟩ = some (.slice oq i cq) := cell_of_row w5 _ 14 _ _ _ hm5
    have z5 : w5.frozen? ⟨w.heap.size, 14, none⟩ = false := by unfold World.frozen?; rw [hm5]; simp
    have hk5 : ∀ k, w.heap.size < k → (w5.setCell ⟨w.heap.size, 14, none⟩ (.slice o5 (i + 1) c5)).heap[k]? = w5.heap[k]? := fun k hk => Below.heap_setCell w5 ⟨w.heap.size, 14, none⟩ _ k (by show k ≠ w.heap.size; omega)
    have hsz5 : (w5.setCell ⟨w.heap.size, 14, none⟩ (.slice o5 (i + 1) c5)).heap.size = w5.heap.size := by simp [World.setCell]
    have r0 := Lib.hid (heap_cellSame w5 w.heap.size 14 _ _ (.slice o5 (i + 1) c5) hm5)
    have r1 := Lib.hid ((hk5 _ (Nat.lt_succ_self _)).trans h15)
    have rx := Lib.hid ((HOX.out.keep fun g hg => hbb.block g (HAX.out.lt g hg).2).keep fun g hg => hk5 g (by have := (HAX.out.lt g hg).1; omega))
    have ry := Lib.hid ((HOY.out.keep fun g hg => hbb.block g (HAY.out.lt g hg).2).keep fun g hg => hk5 g (by have := (HAY.out.lt g hg).1; omega))
    have ra2 : Hid (Acc wa.heap.size 44 40 (w5.setCell ⟨w.heap.size, 14, none⟩ (.slice o5 (i + 1) c5)) (.slice o5 (i + 1) c5) (qs ++ [((⟨da, dn, dc⟩ : Hdr), ev)])) := ⟨hacc.row.keep fun g hg => hk5 g (by have := (hacc.row.lt g hg).1; omega), fun q hq => ⟨(hacc.rem q hq).1.keep fun g hg => hk5 g (by have := ((hacc.rem q hq).1.lt g hg).1; omega), (hacc.rem q hq).2⟩⟩
    have rm : Hid ((qs ++ [((⟨da, dn, dc⟩ : Hdr), ev)]).map (·.2) = (ps.take (i + 1)).map (·.2)) := by
     show _ = _
     rw [List.map_append, HMP.out]; exact HTK.out.symm
    have rb : Hid (Below w.heap.size w (w5.setCell ⟨w.heap.size, 14, none⟩ (.slice o5 (i + 1) c5))) := (HBB.out.trans (hbb.mono (Nat.le_of_lt hwa0))).setCell (p := ⟨w.heap.size, 14, none⟩) (Nat.le_refl _) _
    have rq : Hid ((qs ++ [((⟨da, dn, dc⟩ : Hdr), ev)]).length = i + 1) := by show _ = _; rw [List.length_append, HQI.out]; rfl
    have rs : wa.heap.size ≤ (w5.setCell ⟨w.heap.size, 14, none⟩ (.slice o5 (i + 1) c5)).heap.size := by rw [hsz5]; exact Nat.le_trans hwr hbb.size
    have hlast : ps.length - (i + 1) < gk := by omega
    have hle1 : i + 1 ≤ ps.length := hlt
    clear hm5 h15 hk5 hsz5 hacc hbb hown5 hg5 hv5 HAC HMP HQI HTK hqi HOX HOY HR0 HR1 HB4 HO4 HM4 HLW
    go_wp2_with fail
    go_roundg (ps.length - (i + 1))
    case measure => omega
    case rel => exact ⟨i + 1, o5, c5, _, by go_num, hle1, Nat.le_refl _, rq, r0, r1, rx, ry, ra2, rm, rb, rs⟩
   ·have hltz : ¬ (i : Int) < (ps.length : Int) := by omega
    obtain rfl : i = ps.length := by omega
    rw [List.take_length] at HMP
    have hld := load_whole HR0.out rfl
    have hr9 := setRow_heap wr (w.heap.size + 1) _ #[.int .i64 m.kind, .int .i64 m.frm, .int .i64 m.to_, .int .i64 m.seq, .int .i64 m.node, .int .i64 (m.u 0), .int .i64 (m.u 1), .int .i64 (m.u 2), .int .i64 (m.u 3), .int .i64 (m.u 4), .int .i64 (m.u 5), .int .i64 (m.u 6), .int .i64 (m.u 7), .slice xa xn xc, .slice oq ps.length cq, .slice ya yn yc] _ _ HR1.out
    have HLD := Lib.hid hld
    have HR9 := Lib.hid hr9
    clear hld hr9
    go_wp2_with (first | (refine wpList_loadAgg _ rfl 38 _ rfl 16 (by kernel_rfl) (by kernel_rfl) ⟨w.heap.size, 0, none⟩ rfl _ HLD.out ?_) | (refine wpList_storeRow _ rfl rfl 38 (.tmp 4) (.tmp 33) rfl (w.heap.size + 1) _ #[.int .i64 m.kind, .int .i64 m.frm, .int .i64 m.to_, .int .i64 m.seq, .int .i64 m.node, .int .i64 (m.u 0), .int .i64 (m.u 1), .int .i64 (m.u 2), .int .i64 (m.u 3), .int .i64 (m.u 4), .int .i64 (m.u 5), .int .i64 (m.u 6), .int .i64 (m.u 7), .slice xa xn xc, .slice oq ps.length cq, .slice ya yn yc] rfl rfl HR1.out (by kernel_rfl) rfl (by simp [Value.oneCell']) ?_))
    have hL := run_loadVarAgg (t := 38) (n := 16) (by kernel_rfl) (by kernel_rfl) (load_whole HR9.out rfl)
    have hk9 : ∀ k, w.heap.size + 1 < k → (wr.setRow (w.heap.size + 1) #[.int .i64 m.kind, .int .i64 m.frm, .int .i64 m.to_, .int .i64 m.seq, .int .i64 m.node, .int .i64 (m.u 0), .int .i64 (m.u 1), .int .i64 (m.u 2), .int .i64 (m.u 3), .int .i64 (m.u 4), .int .i64 (m.u 5), .int .i64 (m.u 6), .int .i64 (m.u 7), .slice xa xn xc, .slice oq ps.length cq, .slice ya yn yc]).heap[k]? = wr.heap[k]? := fun k hk => setRow_other wr (w.heap.size + 1) k _ (by omega)
    exact bodyPost_ret (v := .agg #[.int .i64 m.kind, .int .i64 m.frm, .int .i64 m.to_, .int .i64 m.seq, .int .i64 m.node, .int .i64 (m.u 0), .int .i64 (m.u 1), .int .i64 (m.u 2), .int .i64 (m.u 3), .int .i64 (m.u 4), .int .i64 (m.u 5), .int .i64 (m.u 6), .int .i64 (m.u 7), .slice xa xn xc, .slice oq ps.length cq, .slice ya yn yc]) (run_results_cell rfl rfl hL) rfl ⟨⟨xa, xn, xc⟩, ⟨oq, ps.length, cq⟩, ⟨ya, yn, yc⟩, rfl, qs, HMP.out, (HOX.out.keep fun b hb => hk9 b (by have := (HOX.out.lt b hb).1; omega)).lower (by omega),
     ⟨(HAC.out.row.keep fun b hb => hk9 b (by have := (HAC.out.row.lt b hb).1; omega)).lower (by omega), fun q hq => ⟨((HAC.out.rem q hq).1.keep fun b hb => hk9 b (by have := ((HAC.out.rem q hq).1.lt b hb).1; omega)).lower (by omega), (HAC.out.rem q hq).2⟩⟩,
     (HOY.out.keep fun b hb => hk9 b (by have := (HOY.out.lt b hb).1; omega)).lower (by omega), HBB.out.trans ⟨rfl, rfl, rfl, by simp [World.setRow], fun k hk => setRow_other wr (w.heap.size + 1) k _ (by omega)⟩⟩
end Go.Proofs.YtenkfnhcdfmkaaaGreat
