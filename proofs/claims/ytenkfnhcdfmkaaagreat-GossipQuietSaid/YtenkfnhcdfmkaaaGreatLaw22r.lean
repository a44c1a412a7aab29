/-
  The law GossipQuiet walked: it returns true, and turns nothing that was there.
-/
import Derived.Test.YtenkfnhcdfmkaaaGreatLaw22q
import Derived.Test.YtenkfnhcdfmkaaaGreatOpenEv
import Derived.Test.YtenkfnhcdfmkaaaGreatAll07
namespace Go.Proofs.YtenkfnhcdfmkaaaGreat
open Go.Shelf Go.RowKit Go.Lib Go.Sort
set_option linter.unusedVariables false
set_option linter.unusedSimpArgs false
set_option maxRecDepth 100000 in
set_option maxHeartbeats 8000000 in
theorem lawQuiet22 (oa : Option Addr) (cap : Nat) (ps : List PEv) (mtu : Int) (w : World) (h : EvsAt w (.slice oa ps.length cap) ps) (hl : ps.length ≤ 1099511627776) (hf : ∀ p ∈ ps, p.2.fits) :
  Calls Tryz.prog 5 #[.slice oa ps.length cap, .int .i64 mtu] w fun e w' => e = .returned (.bool true) ∧ RowKit.Below w.heap.size w w' := by
 have hp : Tryz.prog.follows .mixedOrders = true := by kernel_rfl
 have hp2 : Tryz.prog.follows .lateStores = true := by kernel_rfl
 have AL := Lib.hid (alive22_any w)
 have HGR := Lib.hid (fun W (hE : EvsAt W (.slice oa ps.length cap) ps) => great_any oa cap ps W hE hl (fun p hp => (hf p hp).2.2.2.2.2.2.2))
 have HE := Lib.hid h
 clear h hf
 go_enter Tryz.func5, Tryz.ntmps5
 go_wp2_with fail
 refine AL.out.mono ?_
 rintro e w1 ⟨rfl, hb1⟩
 have HB1 := Lib.hid hb1
 clear hb1 AL
 by_cases h60 : (60 : Int) < (ps.length : Int)
 ·go_wp2_with fail
  go_ret
  exact ⟨rfl, HB1.out⟩
 have HGR1 := Lib.hid (HGR.out w1 (HE.out.below HB1.out (Nat.le_refl _)))
 clear HGR
 go_wp2_with fail
 refine HGR1.out.mono ?_
 rintro e w2 ⟨rfl, hb2⟩
 have HB2 := Lib.hid (HB1.out.trans (hb2.mono HB1.out.size))
 clear hb2 HB1 HGR1
 by_cases hbk : 3000 < bulk (ps.map (·.2))
 ·rw [decide_eq_true hbk]
  go_wp2_with fail
  go_ret
  exact ⟨rfl, HB2.out⟩
 rw [decide_eq_false hbk]
 have HREM : Hid (∀ p ∈ ps, p.2.rem.length ≤ 1000000) := fun p hp => by
  have := bulk_mem (ps.map (·.2)) p.2 (List.mem_map.2 ⟨p, hp, rfl⟩)
  omega
 clear hbk
 by_cases hgood : 512 ≤ mtu ∧ mtu ≤ 4096
 ·obtain ⟨mt, rfl⟩ : ∃ mt : Nat, mtu = (mt : Int) := ⟨mtu.toNat, by omega⟩
  have hmt : 512 ≤ mt ∧ mt ≤ 4096 := by omega
  have HNW := Lib.hid (gnew_good 0 mt 1 (by decide) hmt w2)
  go_wp2_with fail
  refine HNW.out.mono ?_
  rintro e w4 ⟨M, rfl, hg4, hb4, hlg, hown⟩
  have HG4 := Lib.hid hg4
  have HB4 := Lib.hid (HB2.out.trans (hb4.mono HB2.out.size))
  have HOW : Hid (∀ k, M.own k → w.heap.size ≤ k) := fun k hk => Nat.le_trans HB2.out.size (hown k hk)
  have HOK : Hid (Gsp.Ok ⟨0, mt, 1, BookS.new⟩) := ⟨⟨Int.le_refl 0, by show (0 : Int) ≤ 7; decide⟩, hmt, fine_new⟩
  clear hg4 hb4 hown HNW HB2 hlg hgood
  go_wp2_with fail
  go_loopg [40] ps.length (fun gk s40 wr => ∃ (i : Nat) (x : Gsp), s40 = .int .i64 i ∧ i ≤ ps.length ∧ ps.length - i ≤ gk ∧ Hid (x.Ok) ∧ x.self = 0 ∧ Hid (GAt wr M x) ∧ Hid (RowKit.Below w.heap.size w wr))
  case atStart => exact ⟨0, _, rfl, Nat.zero_le _, Nat.le_refl _, HOK.out, rfl, HG4.out, HB4.out⟩
  case round =>
   obtain ⟨i, x, rfl, hi, hgk, HXO, hxs, HGA, HB⟩ := hrel
   by_cases hlt2 : i < ps.length
   ·as_aux_lemma =>
    have hltz : (i : Int) < (ps.length : Int) := by omega
    have hsl := (HE.out.below HB.out (Nat.le_refl _)).1
    obtain ⟨bo, off, hbo⟩ := hsl.plain pcells_len (by decide) (by intro e; rw [e] at hlt2; exact absurd hlt2 (by simp))
    subst hbo
    have hmem : ps[i] ∈ ps := List.getElem_mem hlt2
    have hld : Sem.run Tryz.prog (loadCellsFrom ⟨bo, off + i * 14, none⟩ 0 14 #[]) wr = .ok (pcells ps[i]).toArray wr := by
     refine run_loadCellsFrom_list Tryz.prog wr ⟨bo, off + i * 14, none⟩ (pcells ps[i]) 14 (pcells_len _) fun z v hv => ?_
     rw [Addr.add_lit]
     have hz : z < 14 := by have := (List.getElem?_eq_some_iff.1 hv).1; rwa [pcells_len] at this
     have := hsl.cell pcells_len (i := i) (c := z) hlt2 hz
     rw [show off + i * 14 + z = off + (i * 14 + z) by omega, this, hv]
    have hrm := HE.out.2 _ hmem
    have hrr := HREM.out _ hmem
    generalize ps[i] = p at *
    obtain ⟨⟨ra, rn, rc⟩, ev⟩ := p
    dsimp only at hrm hrr
    replace hld : Sem.run Tryz.prog (loadCellsFrom ⟨bo, off + i * 14, none⟩ 0 14 #[]) wr = .ok #[.int .i64 ev.dot.node, .int .i64 ev.dot.seq, .int .i64 ev.time, .int .i64 ev.kind, .int .i64 ev.work, .int .i64 ev.value, .int .i64 ev.pol.mn, .int .i64 ev.pol.mx, .int .i64 ev.pol.goal, .int .i64 ev.pol.slack, .int .i64 ev.pol.up, .int .i64 ev.pol.down, .int .i64 ev.pol.cool, .slice ra rn rc] wr := hld
    obtain ⟨wb, hwb⟩ : ∃ wb, wr.alloc (.cells #[.int .i64 ev.dot.node, .int .i64 ev.dot.seq, .int .i64 ev.time, .int .i64 ev.kind, .int .i64 ev.work, .int .i64 ev.value, .int .i64 ev.pol.mn, .int .i64 ev.pol.mx, .int .i64 ev.pol.goal, .int .i64 ev.pol.slack, .int .i64 ev.pol.up, .int .i64 ev.pol.down, .int .i64 ev.pol.cool, .slice ra rn rc] 44) = wb := ⟨_, rfl⟩
    have hb1 : RowKit.Below wr.heap.size wr wb := by rw [← hwb]; exact (Below.refl _ _).alloc (Nat.le_refl _) _
    have hre : wb.heap[wr.heap.size]? = some (.cells #[.int .i64 ev.dot.node, .int .i64 ev.dot.seq, .int .i64 ev.time, .int .i64 ev.kind, .int .i64 ev.work, .int .i64 ev.value, .int .i64 ev.pol.mn, .int .i64 ev.pol.mx, .int .i64 ev.pol.goal, .int .i64 ev.pol.slack, .int .i64 ev.pol.up, .int .i64 ev.pol.down, .int .i64 ev.pol.cool, .slice ra rn rc] 44) := by rw [← hwb]; exact heap_alloc_new wr _
    have hle : wr.heap.size < wb.heap.size := (Array.getElem?_eq_some_iff.1 hre).1
    have hgb := HGA.out.below hb1 (Nat.le_refl _)
    have HBB := Lib.hid (HB.out.trans (hb1.mono HB.out.size))
    have HOL := Lib.hid (fun k hk => HGA.out.own_lt (k := k) hk)
    have HBK := Lib.hid (fun W (hW : RowKit.Below wb.heap.size wb W) => gbook_any W M x (hgb.below hW (Nat.le_refl _)))
    have HADD := Lib.hid (fun W (hW : RowKit.Below wb.heap.size wb W) => bookAdd_any M.bb M.ms M.mh M.B x.S ⟨ra, rn, rc⟩ ev W (hgb.below hW (Nat.le_refl _)).book (hrm.below Dot.cells_len (by decide) (HBB.out.trans (hW.mono HBB.out.size)) (Nat.le_refl _)) hrr (by
     by_cases hl0 : ev.rem = []
     ·exact .inl hl0
     ·refine .inr fun b hb => ?_
      have h1 := hrm.lt Dot.cells_len (by decide) hl0 b hb
      have h2 := HOW.out _ (.inr (.inl rfl))
      have h3 := HOW.out _ (.inr (.inr (.inl rfl)))
      have h4 := HOW.out _ (.inr (.inr (.inr rfl)))
      omega) (by have := HXO.out.fine.t0; have := HXO.out.fine.t1; omega))
    have HKR : Hid (∀ be, be = wr.heap.size → ∀ w' : World, w'.heap[be]? = some (.cells #[.int .i64 ev.dot.node, .int .i64 ev.dot.seq, .int .i64 ev.time, .int .i64 ev.kind, .int .i64 ev.work, .int .i64 ev.value, .int .i64 ev.pol.mn, .int .i64 ev.pol.mx, .int .i64 ev.pol.goal, .int .i64 ev.pol.slack, .int .i64 ev.pol.up, .int .i64 ev.pol.down, .int .i64 ev.pol.cool, .slice ra rn rc] 44) → w'.cell? ⟨be, 0, none⟩ = some (.int .i64 ev.dot.node) ∧ w'.cell? ⟨be, 1, none⟩ = some (.int .i64 ev.dot.seq) ∧ w'.cell? ⟨be, 2, none⟩ = some (.int .i64 ev.time) ∧ w'.cell? ⟨be, 3, none⟩ = some (.int .i64 ev.kind) ∧ w'.cell? ⟨be, 4, none⟩ = some (.int .i64 ev.work) ∧ w'.cell? ⟨be, 5, none⟩ = some (.int .i64 ev.value) ∧ w'.cell? ⟨be, 6, none⟩ = some (.int .i64 ev.pol.mn) ∧ w'.cell? ⟨be, 7, none⟩ = some (.int .i64 ev.pol.mx) ∧ w'.cell? ⟨be, 8, none⟩ = some (.int .i64 ev.pol.goal) ∧ w'.cell? ⟨be, 9, none⟩ = some (.int .i64 ev.pol.slack) ∧ w'.cell? ⟨be, 10, none⟩ = some (.int .i64 ev.pol.up) ∧ w'.cell? ⟨be, 11, none⟩ = some (.int .i64 ev.pol.down) ∧ w'.cell? ⟨be, 12, none⟩ = some (.int .i64 ev.pol.cool) ∧ w'.cell? ⟨be, 13, none⟩ = some (.slice ra rn rc)) := fun be hbe W hr => ⟨cell_of_row W be 0 _ _ _ hr, cell_of_row W be 1 _ _ _ hr, cell_of_row W be 2 _ _ _ hr, cell_of_row W be 3 _ _ _ hr, cell_of_row W be 4 _ _ _ hr, cell_of_row W be 5 _ _ _ hr, cell_of_row W be 6 _ _ _ hr, cell_of_row W be 7 _ _ _ hr, cell_of_row W be 8 _ _ _ hr, cell_of_row W be 9 _ _ _ hr, cell_of_row W be 10 _ _ _ hr, cell_of_row W be 11 _ _ _ hr, cell_of_row W be 12 _ _ _ hr, cell_of_row W be 13 _ _ _ hr⟩
    have HLD := Lib.hid hld
    have HWB := Lib.hid hwb
    have HGB := Lib.hid hgb
    have HRE := Lib.hid hre
    have hms : ps.length - (i + 1) < gk := by omega
    have hil : i + 1 ≤ ps.length := hlt2
    clear hsl hmem hld hrm hrr hwb hb1 hgb HGA HB
    go_upto_region 11 with (refine wpList_loadAgg _ rfl 44 _ rfl 14 (by kernel_rfl) (by kernel_rfl) ⟨bo, off + i * 14, none⟩ rfl _ HLD.out ?_)
    rw [HWB.out]
    clear HLD HWB
    obtain ⟨be, hbe⟩ : ∃ be, be = wr.heap.size := ⟨_, rfl⟩
    have HKP := Lib.hid (HKR.out be hbe)
    have HRP : Hid (wb.heap[be]? = some (.cells #[.int .i64 ev.dot.node, .int .i64 ev.dot.seq, .int .i64 ev.time, .int .i64 ev.kind, .int .i64 ev.work, .int .i64 ev.value, .int .i64 ev.pol.mn, .int .i64 ev.pol.mx, .int .i64 ev.pol.goal, .int .i64 ev.pol.slack, .int .i64 ev.pol.up, .int .i64 ev.pol.down, .int .i64 ev.pol.cool, .slice ra rn rc] 44)) := by show _ = _; rw [hbe]; exact hre
    have HLP := Lib.hid (show be < wb.heap.size by rw [hbe]; exact hle)
    have HOP : Hid (∀ k, M.own k → k < be) := by rw [hbe]; exact HOL.out
    rw [← hbe]
    clear HKR hbe hre hle HRE HOL
    go_region_held (fun w' => w'.cell? ⟨be, 0, none⟩ = some (.int .i64 ev.dot.node) ∧ w'.cell? ⟨be, 1, none⟩ = some (.int .i64 ev.dot.seq) ∧ w'.cell? ⟨be, 2, none⟩ = some (.int .i64 ev.time) ∧ w'.cell? ⟨be, 3, none⟩ = some (.int .i64 ev.kind) ∧ w'.cell? ⟨be, 4, none⟩ = some (.int .i64 ev.work) ∧ w'.cell? ⟨be, 5, none⟩ = some (.int .i64 ev.value) ∧ w'.cell? ⟨be, 6, none⟩ = some (.int .i64 ev.pol.mn) ∧ w'.cell? ⟨be, 7, none⟩ = some (.int .i64 ev.pol.mx) ∧ w'.cell? ⟨be, 8, none⟩ = some (.int .i64 ev.pol.goal) ∧ w'.cell? ⟨be, 9, none⟩ = some (.int .i64 ev.pol.slack) ∧ w'.cell? ⟨be, 10, none⟩ = some (.int .i64 ev.pol.up) ∧ w'.cell? ⟨be, 11, none⟩ = some (.int .i64 ev.pol.down) ∧ w'.cell? ⟨be, 12, none⟩ = some (.int .i64 ev.pol.cool) ∧ w'.cell? ⟨be, 13, none⟩ = some (.slice ra rn rc)) (first | exact HKP.out _ HQR.out | exact HKP.out wb.drew HRP.out)
     (first
      | (go_at_call 9; refine (HBK.out _ (below_drew (Below.refl _ _))).mono ?_; rintro e wq ⟨rfl, rfl⟩)
      | (go_at_call 15; refine (HADD.out _ (below_drew (Below.refl _ _))).mono ?_; rintro e wq ⟨rfl, hbk, ht⟩; have HQR := Lib.hid (row_turnsQ ht HRP.out HLP.out HOP.out); have HX := Lib.hid (add_stepQ HXO.out HGB.out hbk ht); clear hbk ht HADD))
    all_goals
     obtain ⟨y, hyo, hys, hgy, hty⟩ := HX.out
     have HYO := Lib.hid hyo
     have HGY := Lib.hid hgy
     have hys2 : y.self = 0 := hys.trans hxs
     have HBZ := Lib.hid (HBB.out.trans (hty.below HBB.out.size HOW.out))
     clear HX hyo hys hgy hty HBK HKP
     go_wp2_with fail
     go_roundg (ps.length - (i + 1))
     case measure => exact hms
     case rel => exact ⟨i + 1, y, by go_num, hil, Nat.le_refl _, HYO.out, hys2, HGY.out, HBZ.out⟩
   ·have hltz : ¬ (i : Int) < (ps.length : Int) := by omega
    have HBK := Lib.hid (gbook_any wr M x HGA.out)
    have HSE := Lib.hid (seen_any M.bb M.ms M.mh M.B x.S HXO.out.fine.ok wr HGA.out.book)
    go_wp2_with fail
    refine HBK.out.mono ?_
    rintro e w5 ⟨rfl, rfl⟩
    go_wp2_with fail
    refine HSE.out.mono ?_
    rintro e w7 ⟨⟨o5, n5, q5⟩, t5, rfl, hcl5, hown5, hb5⟩
    obtain ⟨_, _, hv5⟩ := slAt_slice hown5.at
    simp only [Hdr.val, Value.slice.injEq] at hv5
    obtain ⟨rfl, rfl, rfl⟩ := hv5
    rw [show (qcells (⟨o5, t5.more.length, q5⟩, t5)).toArray = #[.int .i64 (t5.u 0), .int .i64 (t5.u 1), .int .i64 (t5.u 2), .int .i64 (t5.u 3), .int .i64 (t5.u 4), .int .i64 (t5.u 5), .int .i64 (t5.u 6), .int .i64 (t5.u 7), .slice o5 t5.more.length q5] from rfl]
    obtain ⟨w6, hw6⟩ : ∃ w6, w7.alloc (.cells #[.int .i64 (t5.u 0), .int .i64 (t5.u 1), .int .i64 (t5.u 2), .int .i64 (t5.u 3), .int .i64 (t5.u 4), .int .i64 (t5.u 5), .int .i64 (t5.u 6), .int .i64 (t5.u 7), .slice o5 t5.more.length q5] 48) = w6 := ⟨_, rfl⟩
    have hb6 : RowKit.Below w7.heap.size w7 w6 := by rw [← hw6]; exact (Below.refl _ _).alloc (Nat.le_refl _) _
    have hr6 : SetRow w6 w7.heap.size ⟨o5, t5.more.length, q5⟩ t5 := by rw [← hw6]; exact heap_alloc_new w7 _
    obtain ⟨d0, d1, d2, d3, d4, d5, d6, d7, d8⟩ := hr6.cells
    simp only [Hdr.val] at d8
    have hb56 := hb5.trans (hb6.mono hb5.size)
    have hon := gon_any M x HXO.out ⟨4, 1, 0, 0, 0, t5.u, t5.more, [], [], ⟨o5, t5.more.length, q5⟩, ⟨none, 0, 0⟩, ⟨none, 0, 0⟩⟩ ⟨by show t5.more.length ≤ 1000; have := (hcl5.right HXO.out.fine.ok).2.1; omega, Nat.zero_le _, Nat.zero_le _, (fun p hp => by cases hp)⟩ w6 (HGA.out.below hb56 (Nat.le_refl _)) ⟨(hown5.below hb6 (Nat.le_refl _)).at, (Acc.nil 0 44 40 w6).evs, SlAt.nil _ _⟩ ⟨.inl rfl, (fun p hp => by cases hp)⟩
    simp only [Hdr.val] at hon
    have HON := Lib.hid hon
    have HW6 := Lib.hid hw6
    have HCL := Lib.hid hcl5
    have HB6 := Lib.hid (HB.out.trans (hb56.mono HB.out.size))
    have HG6 := Lib.hid (HGA.out.below hb56 (Nat.le_refl _))
    clear hcl5 hown5 hb5 hb6 hr6 hb56 hw6 hon HBK HSE HB HGA
    go_upto_region 14 with fail
    rw [HW6.out]
    go_wp2_with fail
    refine HON.out.mono ?_
    rintro e w8 hon8
    have hdg : IsDigest x.S 1 0 0 (⟨4, 1, 0, 0, 0, t5.u, t5.more, [], [], ⟨o5, t5.more.length, q5⟩, ⟨none, 0, 0⟩, ⟨none, 0, 0⟩⟩ : Msg) := ⟨rfl, rfl, rfl, rfl, rfl, rfl, rfl, HCL.out⟩
    have hbad : badG x (⟨4, 1, 0, 0, 0, t5.u, t5.more, [], [], ⟨o5, t5.more.length, q5⟩, ⟨none, 0, 0⟩, ⟨none, 0, 0⟩⟩ : Msg) = false := by
     unfold badG
     rw [Msg.rightB_true (hdg.right HXO.out.fine.ok (by decide) (by decide) (by decide) (by decide)), hxs]
     rfl
    obtain ⟨v, ds, tail, rfl, hmr, htold, hb8⟩ := hon8.told hbad rfl
    obtain ⟨rfl, rfl⟩ := told_quiet HXO.out.fine (hdg.set.grid HXO.out.fine.ok) htold
    obtain ⟨ov, cv, hv⟩ := slAt_slice hmr.row.at
    simp only [List.append_nil, List.length_nil] at hv
    subst hv
    have HG8 := Lib.hid (HG6.out.below hb8 (Nat.le_refl _))
    have HB8 := Lib.hid (HB6.out.trans (hb8.mono HB6.out.size))
    clear hon8 hdg hbad hmr htold hb8 HON HG6 HB6 HCL HW6
    go_wp2_with fail
    have hon2 := gon_any M x HXO.out (⟨4, 1, 0, 0, 0, fun _ => 0, [], [], [], ⟨none, 0, 0⟩, ⟨none, 0, 0⟩, ⟨none, 0, 0⟩⟩ : Msg) ⟨Nat.zero_le _, Nat.zero_le _, Nat.zero_le _, (fun p hp => by cases hp)⟩ w8 HG8.out ⟨SlAt.nil _ _, (Acc.nil 0 44 40 w8).evs, SlAt.nil _ _⟩ ⟨.inl rfl, (fun p hp => by cases hp)⟩
    simp only [Hdr.val] at hon2
    refine hon2.mono ?_
    rintro e w9 hon9
    have hdg : IsDigest BookS.new 1 0 0 (⟨4, 1, 0, 0, 0, fun _ => 0, [], [], [], ⟨none, 0, 0⟩, ⟨none, 0, 0⟩, ⟨none, 0, 0⟩⟩ : Msg) := ⟨rfl, rfl, rfl, rfl, rfl, rfl, rfl, closes_none⟩
    have hbad : badG x (⟨4, 1, 0, 0, 0, fun _ => 0, [], [], [], ⟨none, 0, 0⟩, ⟨none, 0, 0⟩, ⟨none, 0, 0⟩⟩ : Msg) = false := by
     unfold badG
     rw [Msg.rightB_true (hdg.right fine_new.ok (by decide) (by decide) (by decide) (by decide)), hxs]
     rfl
    obtain ⟨v2, ds, tail, rfl, hmr, htold, hb9⟩ := hon9.told hbad rfl
    obtain ⟨hall, rfl⟩ := told_all HXO.out.fine HG8.out.book.may (hdg.set.grid fine_new.ok) htold
    rw [List.append_nil] at hmr
    obtain ⟨ov2, cv2, hv2⟩ := slAt_slice hmr.row.at
    subst hv2
    have HDL := Lib.hid htold.deltas
    have HALL := Lib.hid hall
    have HMR := Lib.hid hmr
    have HG9 := Lib.hid (HG8.out.below hb9 (Nat.le_refl _))
    have HB9 := Lib.hid (HB8.out.trans (hb9.mono HB8.out.size))
    have hds := hmr.row.len
    clear hon2 hon9 hdg hbad hmr htold hall hb9 HG8 HB8
    have HHL := Lib.hid (held_len HXO.out.fine.by' HG9.out.book.may)
    have HRR : Hid (∀ e ∈ x.S.holds, e.rem.length ≤ 1000000) := fun e he => by
     have h1 : RightEv e := HXO.out.fine.right e he
     have := h1.2.2.2.1
     omega
    go_wp2_with fail
    go_loopg [13, 84] ds.length (fun gk s13 s84 wr => ∃ (o : Option Addr) (c : Nat) (qs : List PEv) (i : Nat), s13 = .slice o qs.length c ∧ s84 = .int .i64 i ∧ i ≤ ds.length ∧ ds.length - i ≤ gk ∧ Hid (Owns pcells 14 w9.heap.size 44 wr (.slice o qs.length c) qs) ∧ Hid (qs.map (·.2) = ((ds.take i).map fun d => d.evs.map (·.2)).flatten) ∧ Hid (∀ q ∈ qs, SlAt Dot.cells w9 q.1.val q.2.rem) ∧ Hid (RowKit.Below w9.heap.size w9 wr))
    case atStart => exact ⟨none, 0, [], 0, rfl, rfl, Nat.zero_le _, Nat.le_refl _, Owns.nil _ _ _ _ _, by show _ = _; rw [List.take_zero]; rfl, (fun q hq => by cases hq), Below.refl _ _⟩
    case round =>
     obtain ⟨oq, cq, qs, k, rfl, rfl, hk, hgk2, HOQ, HQM, HQR, HBR⟩ := hrel
     by_cases hltk : k < ds.length
     ·as_aux_lemma =>
      have hltkz : (k : Int) < (ds.length : Int) := by omega
      have hmrq := HMR.out.below HBR.out (Nat.le_refl _)
      obtain ⟨bm, offm, hbm⟩ := hmrq.row.at.plain Msg.cells_len (by decide) (by intro e; rw [e] at hltk; exact absurd hltk (by simp))
      subst hbm
      have hldm := msgRow_load hmrq.row.at hltk
      have hmem : ds[k] ∈ ds := List.getElem_mem hltk
      have hmin := hmrq.get hmem
      have hmin9 := HMR.out.get hmem
      have hdk := (HDL.out _ hmem).1
      have hdt := (HDL.out _ hmem).2.2.1
      obtain ⟨hft, hfl⟩ := pieces_take (fun d : Msg => d.evs.map (·.2)) ds k hltk
      rw [HALL.out] at hfl
      rw [← HQM.out, List.length_map] at hfl
      rw [← HQM.out] at hft
      generalize ds[k] = d at *
      rw [List.length_map] at hfl
      have hlen := HHL.out
      obtain ⟨wm, hwm⟩ : ∃ wm, wr.alloc (.cells #[.int .i64 d.kind, .int .i64 d.frm, .int .i64 d.to_, .int .i64 d.seq, .int .i64 d.node, .int .i64 (d.u 0), .int .i64 (d.u 1), .int .i64 (d.u 2), .int .i64 (d.u 3), .int .i64 (d.u 4), .int .i64 (d.u 5), .int .i64 (d.u 6), .int .i64 (d.u 7), .slice d.hm.a d.hm.n d.hm.c, .slice d.he.a d.he.n d.he.c, .slice d.hs.a d.hs.n d.hs.c] 38) = wm := ⟨_, rfl⟩
      have hbm2 : RowKit.Below wr.heap.size wr wm := by rw [← hwm]; exact (Below.refl _ _).alloc (Nat.le_refl _) _
      have hrm : wm.heap[wr.heap.size]? = some (.cells #[.int .i64 d.kind, .int .i64 d.frm, .int .i64 d.to_, .int .i64 d.seq, .int .i64 d.node, .int .i64 (d.u 0), .int .i64 (d.u 1), .int .i64 (d.u 2), .int .i64 (d.u 3), .int .i64 (d.u 4), .int .i64 (d.u 5), .int .i64 (d.u 6), .int .i64 (d.u 7), .slice d.hm.a d.hm.n d.hm.c, .slice d.he.a d.he.n d.he.c, .slice d.hs.a d.hs.n d.hs.c] 38) := by rw [← hwm]; exact heap_alloc_new wr _
      have hbq := HBR.out.trans (hbm2.mono HBR.out.size)
      obtain ⟨m0, m1, m2, m3, m4, m5, m6, m7, m8, m9, m10, m11, m12, m13, m14, m15⟩ := msg_cells hrm
      have HLDM := Lib.hid (show Sem.run Tryz.prog (loadCellsFrom ⟨bm, offm + k * 16, none⟩ 0 16 #[]) wr = .ok #[.int .i64 d.kind, .int .i64 d.frm, .int .i64 d.to_, .int .i64 d.seq, .int .i64 d.node, .int .i64 (d.u 0), .int .i64 (d.u 1), .int .i64 (d.u 2), .int .i64 (d.u 3), .int .i64 (d.u 4), .int .i64 (d.u 5), .int .i64 (d.u 6), .int .i64 (d.u 7), .slice d.hm.a d.hm.n d.hm.c, .slice d.he.a d.he.n d.he.c, .slice d.hs.a d.hs.n d.hs.c] wr from hldm)
      have HWM := Lib.hid hwm
      have HOM := Lib.hid (HOQ.out.below hbm2 (Nat.le_refl _))
      have HEM : Hid (SlAt pcells wm (.slice d.he.a d.he.n d.he.c) d.evs) := (hmin.below hbm2 (Nat.le_refl _)).evs.1
      have HE9 := Lib.hid hmin9.evs.2
      have HBQ := Lib.hid hbq
      have HFT := Lib.hid hft
      have ht0 : (d.kind != 5) = false := by simp [hdk]
      have ht2 : (d.to_ != 1) = false := by simp [hdt]
      have hms2 : ds.length - (k + 1) < gk := by omega
      have hkl : k + 1 ≤ ds.length := hltk
      have hl3 : qs.length + d.evs.length ≤ 768 := by omega
      have hsz9 : w9.heap.size ≤ wm.heap.size := hbq.size
      clear hmrq hldm hmem hmin hmin9 hdk hdt hft hfl hlen hwm hbm2 hrm hbq HOQ HQM HBR m1 m3 m4 m5 m6 m7 m8 m9 m10 m11 m12 m13 m15
      go_upto_region 22 with (refine wpList_loadAgg _ rfl 38 _ rfl 16 (by kernel_rfl) (by kernel_rfl) ⟨bm, offm + k * 16, none⟩ rfl _ HLDM.out ?_)
      rw [HWM.out]
      clear HLDM HWM
      go_wp2_with (at_builtin; refine wpList_app pcells 14 pcells_len (by decide) pcells_one _ rfl _ _ 35 rfl w9.heap.size 44 _ 128 Tryz.underlying35 infoEv rfl _ qs rfl ?h1 _ d.evs rfl ?h2 ?h3 ?h4 ?h5 ?_)
      case h1 => exact HOM.out
      case h2 => exact HEM.out
      case h3 => omega
      case h4 => omega
      intro v' w' hown2 hg2' hv2
      obtain ⟨o', c', hv'⟩ := slAt_slice hown2.at
      subst hv'
      have HO2 := Lib.hid hown2
      have HB2 := Lib.hid (HBQ.out.grown hg2' hsz9 fun b hb => (HOM.out.lt b hb).1)
      have HM2 : Hid ((qs ++ d.evs).map (·.2) = ((ds.take (k + 1)).map fun d => d.evs.map (·.2)).flatten) := by show _ = _; rw [HFT.out, List.map_append]
      have HQ2 : Hid (∀ q ∈ qs ++ d.evs, SlAt Dot.cells w9 q.1.val q.2.rem) := fun q hq => by
       rcases List.mem_append.1 hq with h | h
       ·exact HQR.out q h
       ·exact HE9.out q h
      clear hown2 hg2' hv2 HOM HEM HE9 HBQ HFT HQR
      go_wp2_with fail
      go_roundg (ds.length - (k + 1))
      case measure => exact hms2
      case rel => exact ⟨o', c', qs ++ d.evs, k + 1, by rw [List.length_append], by go_num, hkl, Nat.le_refl _, HO2.out, HM2.out, HQ2.out, HB2.out⟩
     ·as_aux_lemma =>
      have hltkz : ¬ (k : Int) < (ds.length : Int) := by omega
      have hkk : k = ds.length := by omega
      have hqm := HQM.out
      rw [hkk, List.take_length, HALL.out] at hqm
      have HQM2 := Lib.hid hqm
      have HG10 := Lib.hid (HG9.out.below HBR.out (Nat.le_refl _))
      have HB10 := Lib.hid (HB9.out.trans (HBR.out.mono HB9.out.size))
      have HBK := Lib.hid (gbook_any wr M x HG10.out)
      have HEV := Lib.hid (events_any M.bb M.ms M.mh M.B x.S wr HG10.out.book HXO.out.fine.by' HRR.out)
      have HE10 : Hid (EvsAt wr (.slice oq qs.length cq) qs) := ⟨HOQ.out.at, fun q hq => (HQR.out q hq).below Dot.cells_len (by decide) HBR.out (Nat.le_refl _)⟩
      have hql : qs.length ≤ 768 := by
       have h1 := congrArg List.length hqm
       rw [List.length_map] at h1
       rw [h1]
       exact HHL.out
      clear hqm hkk HQM HG9 HB9 HBR HOQ HQR HMR HDL HALL
      go_wp2_with fail
      refine HBK.out.mono ?_
      rintro e w10 ⟨rfl, rfl⟩
      go_wp2_with fail
      refine HEV.out.mono ?_
      rintro e w11 ⟨⟨o11, n11, c11⟩, ps11, rfl, hpm, hacc, hb11⟩
      obtain ⟨_, _, hv11⟩ := slAt_slice hacc.row.at
      simp only [Hdr.val, Value.slice.injEq] at hv11
      obtain ⟨rfl, rfl, rfl⟩ := hv11
      have hlen11 : ps11.length = qs.length := by
       have h1 := congrArg List.length (hpm.trans HQM2.out.symm)
       simpa using h1
      have hev11 : EvsAt w11 (.slice o11 qs.length c11) ps11 := by rw [← hlen11]; exact hacc.evs
      have hall := all_any oq o11 cq c11 qs ps11 w11 (HE10.out.below hb11 (Nat.le_refl _)) hev11 (HQM2.out.trans hpm.symm) (by omega) (fun p hp => HRR.out p.2 (by rw [← HQM2.out]; exact List.mem_map.2 ⟨p, hp, rfl⟩))
      have HALL := Lib.hid hall
      have HB11 := Lib.hid (HB10.out.trans (hb11.mono HB10.out.size))
      simp only [Hdr.val]
      rw [hlen11]
      clear hlen11 hev11
      clear hpm hacc hb11 hall HBK HEV HE10 HQM2 HRR HB10
      go_wp2_with fail
      refine HALL.out.mono ?_
      rintro e w12 ⟨rfl, hg12⟩
      have HBZ := Lib.hid (HB11.out.trans (hg12.below.mono HB11.out.size))
      clear hg12 HALL HB11
      go_wp2_with fail
      go_ret
      exact ⟨rfl, HBZ.out⟩
 ·have HNW := Lib.hid (gnew_bad 0 mtu 1 (fun h => hgood h.2) w2)
  by_cases h512 : mtu < 512
  ·clear hgood
   go_wp2_with fail
   refine HNW.out.mono ?_
   rintro e w4 ⟨rfl, rfl⟩
   go_wp2_with fail
   go_ret
   exact ⟨rfl, HB2.out⟩
  ·have h4096 : 4096 < mtu := by omega
   clear hgood
   go_wp2_with fail
   refine HNW.out.mono ?_
   rintro e w4 ⟨rfl, rfl⟩
   go_wp2_with fail
   go_ret
   exact ⟨rfl, HB2.out⟩
end Go.Proofs.YtenkfnhcdfmkaaaGreat
