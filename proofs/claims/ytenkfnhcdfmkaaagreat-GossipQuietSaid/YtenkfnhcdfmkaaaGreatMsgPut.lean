/-
  A Delta's frame: msg.Put, msg.Size.
-/
import Derived.Test.YtenkfnhcdfmkaaaGreatPutAll
import Derived.Test.YtenkfnhcdfmkaaaGreatMMsgC
namespace Go.Proofs.YtenkfnhcdfmkaaaGreat
open Go.RowKit Go.Lib
set_option linter.unusedVariables false
set_option linter.unusedSimpArgs false
theorem framePut_long (oa : Option Addr) (cap : Nat) (l : List Int) (w : World) (hl : 4096 < l.length) :
  Calls Tryz.prog 174 #[.slice oa l.length cap] w fun e w' => e = .returned (.tuple #[.slice none 0 0, .int .i64 6]) ∧ w' = w := by
 have hlz : (4096 : Int) < (l.length : Int) := by omega
 go_enter Tryz.func174, Tryz.ntmps174
 go_wp2_with fail
 go_ret2
 exact ⟨rfl, rfl⟩
theorem must_true (x : Int) (w : World) : Calls Tryz.prog 170 #[.bool true, .int .i64 x] w fun e w' => e = .returned (.tuple #[]) ∧ w' = w := by
 go_enter Tryz.func170, Tryz.ntmps170
 go_wp2_with fail
 go_end0
 exact ⟨rfl, rfl⟩
def bodyLen (evs : List PEv) : Nat := 4 + (vl evs.length + evsLen evs)
set_option maxRecDepth 100000 in
set_option maxHeartbeats 2000000 in
theorem msgPut_any (m : Msg) (hs : m.small) (hr : m.right) (h5 : m.kind = 5) (h0 : m.ms = []) (w : World) (h : MsgIn w m) :
  Calls Tryz.prog 157 #[.agg #[.int .i64 m.kind, .int .i64 m.frm, .int .i64 m.to_, .int .i64 m.seq, .int .i64 m.node, .int .i64 (m.u 0), .int .i64 (m.u 1), .int .i64 (m.u 2), .int .i64 (m.u 3), .int .i64 (m.u 4), .int .i64 (m.u 5), .int .i64 (m.u 6), .int .i64 (m.u 7), m.hm.val, m.he.val, m.hs.val]] w fun e w' => ∃ o n c er, e = .returned (.tuple #[.slice o n c, .int .i64 er]) ∧ (bodyLen m.evs ≤ 4096 → er = 0 ∧ n = flen (bodyLen m.evs)) ∧ (4096 < bodyLen m.evs → er = 6) ∧ Below w.heap.size w w' := by
 have hri := fun W hW => msgRight_any m W (h.below hW (Nat.le_refl _)) hs
 rw [Msg.rightB_true hr] at hri
 obtain ⟨hMo, hEv, hMs⟩ := h
 have hevr : (∀ p ∈ m.evs, RightEv p.2) ∧ m.evs.length ≤ 768 := by
  have h := hr.evs
  unfold Msg.evsOk at h
  rw [if_pos h5] at h
  exact h
 have HEVR := Lib.hid hevr
 rw [h5] at hri ⊢
 have hms0 : m.hs.val = .slice m.hs.a 0 m.hs.c := by
  obtain ⟨oa, cap, hv, _⟩ := hMs.slice_of
  rw [h0] at hv
  simp only [Hdr.val, Value.slice.injEq] at hv
  obtain ⟨_, hn, _⟩ := hv
  simp only [Hdr.val, hn]
  rfl
 have hes : m.he.val = .slice m.he.a m.evs.length m.he.c := by
  obtain ⟨oa, cap, hv, _⟩ := hEv.1.slice_of
  simp only [Hdr.val, Value.slice.injEq] at hv
  obtain ⟨_, hn, _⟩ := hv
  simp only [Hdr.val, hn]
 obtain ⟨g0, g1, hb, hsz⟩ := alloc2 w (.cells #[.int .i64 5, .int .i64 m.frm, .int .i64 m.to_, .int .i64 m.seq, .int .i64 m.node, .int .i64 (m.u 0), .int .i64 (m.u 1), .int .i64 (m.u 2), .int .i64 (m.u 3), .int .i64 (m.u 4), .int .i64 (m.u 5), .int .i64 (m.u 6), .int .i64 (m.u 7), m.hm.val, m.he.val, m.hs.val] 38) (.cells #[.int .i64 0] 29)
 obtain ⟨w1, hw1⟩ : ∃ w1, (w.alloc (.cells #[.int .i64 5, .int .i64 m.frm, .int .i64 m.to_, .int .i64 m.seq, .int .i64 m.node, .int .i64 (m.u 0), .int .i64 (m.u 1), .int .i64 (m.u 2), .int .i64 (m.u 3), .int .i64 (m.u 4), .int .i64 (m.u 5), .int .i64 (m.u 6), .int .i64 (m.u 7), m.hm.val, m.he.val, m.hs.val] 38)).alloc (.cells #[.int .i64 0] 29) = w1 := ⟨_, rfl⟩
 rw [hw1] at g0 g1 hb hsz
 have hlw := load_whole g0 rfl
 have HRI := Lib.hid (hri w1 hb)
 have HW1 := Lib.hid hw1
 have HB1 := Lib.hid hb
 have HG0 := Lib.hid g0
 have HG1 := Lib.hid g1
 have HSZ := Lib.hid hsz
 have HLW := Lib.hid hlw
 have HEV := Lib.hid hEv
 have HM0 := Lib.hid hms0
 have HE0 := Lib.hid hes
 have HRR := Lib.hid hr
 clear hri hw1 hb g0 g1 hsz hlw hEv hms0 hes hMo hMs hr h5 hevr
 go_enter_defers Tryz.func157, Tryz.ntmps157
 go_upto_region 2 with fail
 rw [HW1.out]
 go_wp2_with (refine wpList_loadAgg _ rfl 38 _ rfl 16 (by kernel_rfl) (by kernel_rfl) ⟨w.heap.size, 0, none⟩ rfl _ HLW.out ?_)
 refine HRI.out.mono ?_
 rintro e w2 ⟨rfl, hb2⟩
 have HB2 := Lib.hid (HB1.out.trans (hb2.mono HB1.out.size))
 have hr0 := (hb2.block w.heap.size (by have := HSZ.out; omega)).trans HG0.out
 have hr1 := (hb2.block (w.heap.size + 1) (by have := HSZ.out; omega)).trans HG1.out
 have hz2 : w.heap.size + 2 ≤ w2.heap.size := by have := hb2.size; have := HSZ.out; omega
 have HR0 := Lib.hid hr0
 have HR1 := Lib.hid hr1
 have p0 : w2.cell? ⟨w.heap.size, 0, none⟩ = some (.int .i64 5) := cell_of_row w2 _ 0 _ _ _ hr0
 clear hb2 hr0 hr1 HRI HLW HW1 HB1 HG0 HG1 HSZ
 have HMU := Lib.hid (must_true 2 w2)
 go_wp2_with fail
 refine HMU.out.mono ?_
 rintro e w3 ⟨rfl, rfl⟩
 clear HMU
 have HHA := Lib.hid (has_any 5 (by omega) w3)
 go_wp2_with fail
 refine HHA.out.mono ?_
 rintro e w4 ⟨rfl, hb4⟩
 rw [show partsV 5 = #[.bool false, .bool false, .bool false, .bool true] by kernel_rfl]
 have hr0 := (hb4.block w.heap.size (by omega)).trans HR0.out
 have hr1 := (hb4.block (w.heap.size + 1) (by omega)).trans HR1.out
 obtain ⟨a0, a1, ha, has⟩ := alloc2 w4 (.cells #[.bool false, .bool false, .bool false, .bool true] 105) (.cells #[.int .i64 5, .int .i64 m.frm, .int .i64 m.to_, .int .i64 0] 3)
 obtain ⟨w6, hw6⟩ : ∃ w6, (w4.alloc (.cells #[.bool false, .bool false, .bool false, .bool true] 105)).alloc (.cells #[.int .i64 5, .int .i64 m.frm, .int .i64 m.to_, .int .i64 0] 3) = w6 := ⟨_, rfl⟩
 rw [hw6] at a0 a1 ha has
 have p0 : w4.cell? ⟨w.heap.size, 0, none⟩ = some (.int .i64 5) := cell_of_row w4 _ 0 _ _ _ hr0
 have p1 : w4.cell? ⟨w.heap.size, 1, none⟩ = some (.int .i64 m.frm) := cell_of_row w4 _ 1 _ _ _ hr0
 have p2 : w4.cell? ⟨w.heap.size, 2, none⟩ = some (.int .i64 m.to_) := cell_of_row w4 _ 2 _ _ _ hr0
 have p15 : w4.cell? ⟨w.heap.size, 15, none⟩ = some (.slice m.hs.a 0 m.hs.c) := (cell_of_row w4 _ 15 _ _ _ hr0).trans (congrArg some HM0.out)
 have hz4 : w.heap.size + 2 ≤ w4.heap.size := by have := hb4.size; omega
 have h04 : w.heap.size < w4.heap.size := by omega
 have hB6 := HB2.out.trans ((hb4.trans (ha.mono hb4.size)).mono HB2.out.size)
 have hm6 := (ha.block w.heap.size (by omega)).trans hr0
 have he6 := (ha.block (w.heap.size + 1) (by omega)).trans hr1
 have q15 : w6.cell? ⟨w.heap.size, 15, none⟩ = some (.slice m.hs.a 0 m.hs.c) := (cell_of_row w6 _ 15 _ _ _ hm6).trans (congrArg some HM0.out)
 have HW6 := Lib.hid hw6
 have HB6 := Lib.hid hB6
 have HM6 := Lib.hid hm6
 have HE6 := Lib.hid he6
 have HP6 := Lib.hid a0
 have HL6 := Lib.hid a1
 have hz6 : w6.heap.size = w4.heap.size + 2 := has
 clear hr0 hr1 a0 a1 ha has hw6 hB6 hm6 he6 hb4 HHA HR0 HR1 HB2
 go_upto_region 5 with fail
 rw [HW6.out]
 clear p0 p1 p2 p15
 go_wp2_with fail
 go_loopg [5, 7, 31] 0 (fun gk s5 s7 s31 wr => s5 = .slice (some ⟨w4.heap.size + 1, 0, none⟩) 4 4 ∧ s31 = .int .i64 0 ∧ wr = w6)
 case atStart => exact ⟨rfl, rfl, rfl⟩
 case round =>
  obtain ⟨rfl, rfl, rfl⟩ := hrel
  generalize wr = wq at *
  have pp0 : wq.cell? ⟨w4.heap.size, 0, none⟩ = some (.bool false) := cell_of_row wq _ 0 _ _ _ HP6.out
  have pp1 : wq.cell? ⟨w4.heap.size, 1, none⟩ = some (.bool false) := cell_of_row wq _ 1 _ _ _ HP6.out
  go_wp2_with fail
  go_loopg [8, 10, 61] 4 (fun gk s8 s10 s61 wx => ∃ (i : Nat) (o : Option Addr) (c : Nat) (bs : List Int), s61 = .int .i64 i ∧ s8 = .slice o bs.length c ∧ i ≤ 4 ∧ 4 - i ≤ gk ∧ Hid (bs.length = i) ∧ Hid (Owns ycells 1 (w.heap.size + 2) 5 wx (.slice o bs.length c) bs) ∧ Hid (Touch (fun k => k = w.heap.size + 1) wq wx) ∧ Hid (wx.heap[w.heap.size + 1]? = some (.cells #[.int .i64 0] 29)))
  case atStart => exact ⟨0, none, 0, [], rfl, rfl, Nat.zero_le _, Nat.le_refl _, rfl, Owns.nil _ _ _ _ _, Touch.refl _ _, HE6.out⟩
  case round =>
   obtain ⟨i, o, c, bs, rfl, rfl, hi, hgk, hbl, HO, HT, HE⟩ := hrel
   by_cases hlt : i < 4
   ·have hltz : (i : Int) < 4 := by omega
    have hrl := (HT.out.block (w4.heap.size + 1) (by omega) (by omega)).trans HL6.out
    obtain ⟨n, hn, hn0, hn1⟩ : ∃ n : Int, wr.cell? ⟨w4.heap.size + 1, i, none⟩ = some (.int .i64 n) ∧ 0 ≤ n ∧ n < 128 := by
     have f1 := HRR.out.frm
     have f2 := HRR.out.to_
     rcases (show i = 0 ∨ i = 1 ∨ i = 2 ∨ i = 3 by omega) with rfl | rfl | rfl | rfl
     ·exact ⟨5, cell_of_row wr _ 0 _ _ _ hrl, by omega, by omega⟩
     ·exact ⟨m.frm, cell_of_row wr _ 1 _ _ _ hrl, by omega, by omega⟩
     ·exact ⟨m.to_, cell_of_row wr _ 2 _ _ _ hrl, by omega, by omega⟩
     ·exact ⟨0, cell_of_row wr _ 3 _ _ _ hrl, by omega, by omega⟩
    have hel : w.heap.size + 1 < wr.heap.size := (Array.getElem?_eq_some_iff.1 HE.out).1
    have hvp := vintPut_any o c bs n hn0 (by omega) wr HO.out.at (by have := hbl.out; omega)
    have HVP := Lib.hid hvp
    clear hvp hrl
    go_wp2_with fail
    refine HVP.out.mono ?_
    rintro e w7 ⟨o7, c7, b7, hb7, rfl, hown7, hB7⟩
    have hb71 : b7.length = 1 := by rw [hb7]; exact vlen_one (by omega)
    have he7 := (hB7.block (w.heap.size + 1) hel).trans HE.out
    have x7 : w7.cell? ⟨w.heap.size + 1, 0, none⟩ = some (.int .i64 0) := cell_of_row w7 _ 0 _ _ _ he7
    have z7 : w7.frozen? ⟨w.heap.size + 1, 0, none⟩ = false := by unfold World.frozen?; rw [he7]; simp
    have hO7 : Owns ycells 1 (w.heap.size + 2) 5 w7 (.slice o7 (bs ++ b7).length c7) (bs ++ b7) := by rw [List.length_append]; exact hown7.lower (by omega)
    have hT7 := HT.out.trans (Touch.of_below (L := fun k => k = w.heap.size + 1) hB7 (Nat.le_refl _)) fun _ _ h => h
    have hlen : (bs ++ b7).length = i + 1 := by rw [List.length_append, hbl.out, hb71]
    have HLEN := Lib.hid hlen
    have hTS := hT7.trans (touch_set (fun k => k = w.heap.size + 1) w7 ⟨w.heap.size + 1, 0, none⟩ (.int .i64 0) rfl) fun _ _ h => h
    have hES : (w7.setCell ⟨w.heap.size + 1, 0, none⟩ (.int .i64 0)).heap[w.heap.size + 1]? = some (.cells #[.int .i64 0] 29) := heap_cellSame w7 (w.heap.size + 1) 0 _ _ _ he7
    have hOS := hO7.keep (w' := w7.setCell ⟨w.heap.size + 1, 0, none⟩ (.int .i64 0)) fun b hb => Below.heap_setCell w7 ⟨w.heap.size + 1, 0, none⟩ _ b (by have := (hO7.lt b hb).1; show b ≠ w.heap.size + 1; omega)
    have HTS := Lib.hid hTS
    have HES := Lib.hid hES
    have HOS := Lib.hid hOS
    rw [show bs.length + b7.length = (bs ++ b7).length from List.length_append.symm]
    clear hTS hES hOS hT7 hO7 he7 hown7 hB7 hb7 hb71 HVP HO HT HE hlen hbl
    generalize bs ++ b7 = b8 at *
    go_upto_region 19 with fail
    generalize w7.setCell ⟨w.heap.size + 1, 0, none⟩ (.int .i64 0) = w8 at *
    have y8 : w8.cell? ⟨w.heap.size + 1, 0, none⟩ = some (.int .i64 0) := cell_of_row w8 _ 0 _ _ _ HES.out
    have HMU := Lib.hid (must_true 0 w8)
    clear x7 z7 hn
    go_wp2_with fail
    refine HMU.out.mono ?_
    rintro e w9 ⟨rfl, rfl⟩
    go_wp2_with fail
    go_roundg (4 - (i + 1))
    case measure => omega
    case rel => exact ⟨i + 1, o7, c7, b8, by go_num, rfl, by omega, Nat.le_refl _, HLEN.out, HOS.out, HTS.out, HES.out⟩
   ·have hltz : ¬ (i : Int) < 4 := by omega
    obtain rfl : i = 4 := by omega
    have hrm := (HT.out.block w.heap.size (by omega) (by omega)).trans HM6.out
    have hrp := (HT.out.block w4.heap.size (by omega) (by omega)).trans HP6.out
    have t14 : wr.cell? ⟨w.heap.size, 14, none⟩ = some (.slice m.he.a m.evs.length m.he.c) := (cell_of_row wr _ 14 _ _ _ hrm).trans (congrArg some HE0.out)
    have pp2 : wr.cell? ⟨w4.heap.size, 2, none⟩ = some (.bool false) := cell_of_row wr _ 2 _ _ _ hrp
    have pp3 : wr.cell? ⟨w4.heap.size, 3, none⟩ = some (.bool true) := cell_of_row wr _ 3 _ _ _ hrp
    have hel : w.heap.size + 1 < wr.heap.size := (Array.getElem?_eq_some_iff.1 HE.out).1
    have hBr : Below w.heap.size w wr := HB6.out.trans (HT.out.below (by omega) fun n hn => by omega)
    have hev := HEV.out.below hBr (Nat.le_refl _)
    rw [HE0.out] at hev
    have hpa := putAll_any m.he.a m.he.c m.evs wr hev HEVR.out.2 HEVR.out.1
    have HPA := Lib.hid hpa
    have HBR := Lib.hid hBr
    clear hrm hrp hpa hev hBr HM6 HP6 HL6 HE6 HB6 HW6 pp0 pp1 HT
    go_wp2_with fail
    refine HPA.out.mono ?_
    rintro e w7 ⟨o7, c7, b7, hb7, rfl, hown7, hB7⟩
    have he7 := (hB7.block (w.heap.size + 1) hel).trans HE.out
    have x7 : w7.cell? ⟨w.heap.size + 1, 0, none⟩ = some (.int .i64 0) := cell_of_row w7 _ 0 _ _ _ he7
    have z7 : w7.frozen? ⟨w.heap.size + 1, 0, none⟩ = false := by unfold World.frozen?; rw [he7]; simp
    have hse : w.heap.size + 2 ≤ wr.heap.size := by omega
    have hkp : ∀ b, w.heap.size + 2 ≤ b → (w7.setCell ⟨w.heap.size + 1, 0, none⟩ (.int .i64 0)).heap[b]? = w7.heap[b]? := fun b hb => Below.heap_setCell w7 ⟨w.heap.size + 1, 0, none⟩ _ b (by show b ≠ w.heap.size + 1; omega)
    have HO8 := Lib.hid ((HO.out.below hB7 (Nat.le_refl _)).keep (w' := w7.setCell ⟨w.heap.size + 1, 0, none⟩ (.int .i64 0)) fun b hb => hkp b ((HO.out.lt b hb).1))
    have HR8 := Lib.hid (hown7.keep (w' := w7.setCell ⟨w.heap.size + 1, 0, none⟩ (.int .i64 0)) fun b hb => hkp b (by have := (hown7.lt b hb).1; omega))
    have HE8 : Hid ((w7.setCell ⟨w.heap.size + 1, 0, none⟩ (.int .i64 0)).heap[w.heap.size + 1]? = some (.cells #[.int .i64 0] 29)) := heap_cellSame w7 (w.heap.size + 1) 0 _ _ _ he7
    have HB8 := Lib.hid ((HBR.out.trans (hB7.mono HBR.out.size)).setCell (p := ⟨w.heap.size + 1, 0, none⟩) (Nat.le_succ _) (.int .i64 0))
    have HL7 := Lib.hid hb7
    clear hb7 hown7 hB7 he7 hkp HPA HO HE t14 pp2 pp3 HBR
    go_upto_region 26 with fail
    generalize w7.setCell ⟨w.heap.size + 1, 0, none⟩ (.int .i64 0) = w8 at *
    have y8 : w8.cell? ⟨w.heap.size + 1, 0, none⟩ = some (.int .i64 0) := cell_of_row w8 _ 0 _ _ _ HE8.out
    have HMU := Lib.hid (must_true 0 w8)
    clear x7 z7
    go_wp2_with fail
    refine HMU.out.mono ?_
    rintro e w9 ⟨rfl, rfl⟩
    have hel9 : w.heap.size + 1 < w9.heap.size := (Array.getElem?_eq_some_iff.1 HE8.out).1
    have hsum := evsLen_le m.evs HEVR.out.1
    have hv6 := vl_le (m.evs.length : Int)
    go_wp2_with (at_builtin; refine wpList_app ycells 1 ycells_len (by decide) ycells_one _ rfl _ _ 174 rfl (w.heap.size + 2) 5 _ 1 Tryz.underlying174 infoByte rfl _ bs rfl ?h1 _ b7 rfl ?h2 ?h3 ?h4 ?h5 ?_)
    case h1 => exact HO8.out
    case h2 => exact HR8.out.at
    case h3 => have := hbl.out; have := HL7.out; have := HEVR.out.2; omega
    case h4 => have := hbl.out; have := HL7.out; have := HEVR.out.2; omega
    case h5 => omega
    intro v2 w2 hown2 hg2 hv2
    have hbd : (bs ++ b7).length = bodyLen m.evs := by unfold bodyLen; rw [List.length_append, hbl.out, HL7.out]
    obtain ⟨o2, c2, hx⟩ := slAt_slice hown2.at
    subst hx
    have hB2 := HB8.out.grown hg2 HB8.out.size fun b hb => by have := (HO8.out.lt b hb).1; omega
    have he2 := (hg2.block (w.heap.size + 1) hel9 (fun e => by have := (HO8.out.lt _ e.symm).1; omega)).trans HE8.out
    have HE2 := Lib.hid he2
    have HB2 := Lib.hid hB2
    have HO2 := Lib.hid hown2
    have HBD := Lib.hid hbd
    have hel2 : w.heap.size + 1 < w2.heap.size := (Array.getElem?_eq_some_iff.1 he2).1
    clear hown2 hg2 hv2 hB2 he2 hbd HO8 HR8 HE8 HB8 HL7 y8 HMU hbl
    generalize bs ++ b7 = l9 at *
    by_cases hbo : bodyLen m.evs ≤ 4096
    ·have hfp := framePut_any o2 c2 l9 w2 HO2.out.at (by have := HBD.out; omega)
     have HFP := Lib.hid hfp
     clear hfp
     go_wp2_with fail
     refine HFP.out.mono ?_
     rintro e w5 ⟨o5, c5, b5, hb5, rfl, hown5, hB5⟩
     have he5 := (hB5.block (w.heap.size + 1) hel2).trans HE2.out
     have x5 : w5.cell? ⟨w.heap.size + 1, 0, none⟩ = some (.int .i64 0) := cell_of_row w5 _ 0 _ _ _ he5
     have z5 : w5.frozen? ⟨w.heap.size + 1, 0, none⟩ = false := by unfold World.frozen?; rw [he5]; simp
     have xs : (w5.setCell ⟨w.heap.size + 1, 0, none⟩ (.int .i64 0)).cell? ⟨w.heap.size + 1, 0, none⟩ = some (.int .i64 0) := by rw [cell_set, if_pos ⟨rfl, rfl⟩, x5]; rfl
     have HBX := Lib.hid ((HB2.out.trans (hB5.mono HB2.out.size)).setCell (p := ⟨w.heap.size + 1, 0, none⟩) (Nat.le_succ _) (.int .i64 0))
     have HH5 := Lib.hid hb5
     clear he5 hown5 hB5 hb5 HFP
     go_wp2_with fail
     refine leaves_cons (f := 169) (args := #[.pointer (some ⟨w.heap.size + 1, 0, none⟩)]) (by simp) (by simp [go_sem]) ?_
     refine (msgCaught_idle _ _).mono ?_
     rintro e u' w'' ⟨rfl, rfl, rfl⟩
     exact ⟨.tuple #[.slice o5 b5.length c5, .int .i64 0], by simp [results, Tryz.results157, go_sem, xs], o5, b5.length, c5, 0, rfl, fun _ => ⟨rfl, by rw [HH5.out, HBD.out]⟩, fun h => by omega, HBX.out⟩
    ·have hfp := framePut_long o2 c2 l9 w2 (by have := HBD.out; omega)
     have HFP := Lib.hid hfp
     clear hfp
     go_wp2_with fail
     refine HFP.out.mono ?_
     rintro e w5 ⟨rfl, rfl⟩
     have x5 : w5.cell? ⟨w.heap.size + 1, 0, none⟩ = some (.int .i64 0) := cell_of_row w5 _ 0 _ _ _ HE2.out
     have z5 : w5.frozen? ⟨w.heap.size + 1, 0, none⟩ = false := by unfold World.frozen?; rw [HE2.out]; simp
     have xs : (w5.setCell ⟨w.heap.size + 1, 0, none⟩ (.int .i64 6)).cell? ⟨w.heap.size + 1, 0, none⟩ = some (.int .i64 6) := by rw [cell_set, if_pos ⟨rfl, rfl⟩, x5]; rfl
     have HBX := Lib.hid (HB2.out.setCell (p := ⟨w.heap.size + 1, 0, none⟩) (Nat.le_succ _) (.int .i64 6))
     clear HFP
     go_wp2_with fail
     refine leaves_cons (f := 169) (args := #[.pointer (some ⟨w.heap.size + 1, 0, none⟩)]) (by simp) (by simp [go_sem]) ?_
     refine (msgCaught_idle _ _).mono ?_
     rintro e u' w'' ⟨rfl, rfl, rfl⟩
     exact ⟨.tuple #[.slice none 0 0, .int .i64 6], by simp [results, Tryz.results157, go_sem, xs], none, 0, 0, 6, rfl, fun h => absurd h hbo, fun _ => rfl, HBX.out⟩
end Go.Proofs.YtenkfnhcdfmkaaaGreat
