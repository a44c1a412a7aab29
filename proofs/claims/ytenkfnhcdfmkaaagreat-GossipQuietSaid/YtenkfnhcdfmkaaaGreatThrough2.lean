/-
  An event's numbers, one behind the other: all of an event.
-/
import Derived.Test.YtenkfnhcdfmkaaaGreatThrough
import Derived.Test.YtenkfnhcdfmkaaaGreatMSat
namespace Go.Proofs.YtenkfnhcdfmkaaaGreat
open Go.RowKit Go.Lib
set_option linter.unusedVariables false
set_option linter.unusedSimpArgs false
def hdTo (e : Ev) : Nat → Nat
 | 0 => 0
 | 1 => vl e.dot.node
 | 2 => vl e.dot.node + vl e.dot.seq
 | 3 => vl e.dot.node + vl e.dot.seq + vl e.time
 | _ => vl e.dot.node + vl e.dot.seq + vl e.time + vl e.kind
theorem remLen_app (l : List Dot) (d : Dot) : remLen (l ++ [d]) = remLen l + (vl d.node + vl d.seq) := by
 induction l with
 | nil => simp [remLen]
 | cons x l ih => show vl x.node + vl x.seq + remLen (l ++ [d]) = vl x.node + vl x.seq + remLen l + _; rw [ih]; omega
theorem remLen_le (l : List Dot) : remLen l ≤ 12 * l.length := by
 induction l with
 | nil => exact Nat.le_refl _
 | cons x l ih =>
  have h1 := vl_le x.node
  have h2 := vl_le x.seq
  show vl x.node + vl x.seq + remLen l ≤ 12 * (l.length + 1)
  omega
theorem hdTo_le (e : Ev) (i : Nat) : hdTo e i ≤ 24 := by
 have h1 := vl_le e.dot.node
 have h2 := vl_le e.dot.seq
 have h3 := vl_le e.time
 have h4 := vl_le e.kind
 unfold hdTo
 split <;> omega
set_option maxRecDepth 100000 in
set_option maxHeartbeats 8000000 in
theorem through_any (eb wb : Nat) (hd : Hdr) (ev : Ev) (l : List Int) (W : World) (hW : WAt W wb l) (hE : W.heap[eb]? = some (.cells (pcells (hd, ev)).toArray 44)) (hne : eb ≠ wb) (hs : SlAt Dot.cells W hd.val ev.rem) (ha : ev.rem = [] ∨ hd.val.ownBlock ≠ some wb) (hr : RightEv ev) (hl : l.length ≤ 700000) :
  Calls Tryz.prog 187 #[.pointer (some ⟨eb, 0, none⟩), .iface 233 (.pointer (some ⟨wb, 0, none⟩))] W fun e w' => e = .returned (.tuple #[]) ∧ ∃ bs, bs.length = evLen ev ∧ WAt w' wb (l ++ bs) ∧ Touch (fun k => k = wb) W w' := by
 have hp : Tryz.prog.follows .mixedOrders = true := by kernel_rfl
 obtain ⟨hd1, hti, hwo, hrl, hrr, hk⟩ := hr
 obtain ⟨nd, sq⟩ : (0 ≤ ev.dot.node ∧ ev.dot.node ≤ 7) ∧ (1 ≤ ev.dot.seq ∧ ev.dot.seq ≤ 96) := by unfold May at hd1; omega
 have hkk : 1 ≤ ev.kind ∧ ev.kind ≤ 3 := by rcases hk with h | h | h <;> omega
 have hgl : eb < W.heap.size := (Array.getElem?_eq_some_iff.1 hE).1
 have HCE : Hid (∀ W' : World, Touch (fun k => k = wb) W W' → W'.heap[eb]? = some (.cells (pcells (hd, ev)).toArray 44)) := fun W' hT => (hT.block eb hgl hne).trans hE
 have HSR : Hid (∀ W' : World, Touch (fun k => k = wb) W W' → SlAt Dot.cells W' hd.val ev.rem) := fun W' hT => hs.touch Dot.cells_len (by decide) hT (ha.imp id fun h b hb hL => h (by rw [hb, show b = wb from hL]))
 have HWA := Lib.hid hW
 have HK := Lib.hid hk
 have HRR := Lib.hid hrr
 clear hW hE hs hk hrr
 go_enter Tryz.func187, Tryz.ntmps187
 go_wp2_with fail
 go_cut [26, 27] (fun s26 s27 wx => s26 = .agg #[.pointer (some ⟨eb, 0, none⟩), .pointer (some ⟨eb, 1, none⟩), .pointer (some ⟨eb, 2, none⟩), .pointer (some ⟨eb, 3, none⟩)] ∧ s27 = .int .i64 0 ∧ Hid (∃ n, wx = W.drewN n))
 case first =>
  go_big_quiet (fail)
  go_wp2_with fail
  go_meet
  exact ⟨rfl, rfl, ⟨nq, rfl⟩⟩
 obtain ⟨rfl, rfl, HN⟩ := hcut
 obtain ⟨nq, hnq⟩ := HN.out
 have HT1 : Hid (Touch (fun k => k = wb) W wc) := by rw [hnq]; exact Touch.of_below (below_drewN W nq) (Nat.le_refl _)
 have HW1 : Hid (WAt wc wb l) := by rw [hnq]; exact HWA.out
 clear hnq HN HWA
 go_wp2_with fail
 go_loopg [6, 27] 4 (fun gk s6 s27 wr => ∃ (i : Nat) (bs : List Int), s27 = .int .i64 i ∧ i ≤ 4 ∧ 4 - i ≤ gk ∧ bs.length = hdTo ev i ∧ Hid (WAt wr wb (l ++ bs)) ∧ Hid (Touch (fun k => k = wb) W wr))
 case atStart => exact ⟨0, [], rfl, Nat.zero_le _, Nat.le_refl _, rfl, by rw [List.append_nil]; exact HW1.out, HT1.out⟩
 case round =>
  obtain ⟨i, bs, rfl, hi, hgk, hbs, HW, HT⟩ := hrel
  clear HW1 HT1
  have h24 := hdTo_le ev i
  by_cases hlt : i < 4
  ·have hr0 := HCE.out wr HT.out
   obtain ⟨j, n, hj, hn0, hn1, hjn, hix⟩ : ∃ (j : Nat) (n : Int), (wr.cell? ⟨eb, j, none⟩ = some (.int .i64 n)) ∧ 0 ≤ n ∧ n ≤ 1099511627776 ∧ bs.length + vl n = hdTo ev (i + 1) ∧ (Instr.index 246 (.agg #[.pointer (some ⟨eb, 0, none⟩), .pointer (some ⟨eb, 1, none⟩), .pointer (some ⟨eb, 2, none⟩), .pointer (some ⟨eb, 3, none⟩)]) (.int .i64 i)).run Tryz.prog wr = .ok (.pointer (some ⟨eb, j, none⟩)) wr := by
    rcases (show i = 0 ∨ i = 1 ∨ i = 2 ∨ i = 3 by omega) with rfl | rfl | rfl | rfl
    ·exact ⟨0, ev.dot.node, cell_of_row wr _ 0 _ _ _ hr0, by omega, by omega, by rw [hbs]; simp [hdTo], rfl⟩
    ·exact ⟨1, ev.dot.seq, cell_of_row wr _ 1 _ _ _ hr0, by omega, by omega, by rw [hbs]; simp [hdTo], rfl⟩
    ·exact ⟨2, ev.time, cell_of_row wr _ 2 _ _ _ hr0, by omega, by omega, by rw [hbs]; simp [hdTo], rfl⟩
    ·exact ⟨3, ev.kind, cell_of_row wr _ 3 _ _ _ hr0, by omega, by omega, by rw [hbs]; simp [hdTo], rfl⟩
   have hltz : (i : Int) < 4 := by omega
   have hnu := number_any wb (l ++ bs) ⟨eb, j, none⟩ n wr HW.out hj hn0 hn1 (by rw [List.length_append]; omega) (Array.getElem?_eq_some_iff.1 hr0).1
   have HNU := Lib.hid hnu
   have HJN := Lib.hid hjn
   clear hnu hr0 hjn hbs
   go_wp2_with fail
   refine HNU.out.mono ?_
   rintro e w2 ⟨rfl, b2, hb2, hW2, hT2⟩
   have HW2 : Hid (WAt w2 wb (l ++ (bs ++ b2))) := by rw [← List.append_assoc]; exact hW2
   have HT2 := Lib.hid (HT.out.trans hT2 fun _ _ h => h)
   have HB2 : Hid ((bs ++ b2).length = hdTo ev (i + 1)) := by
    show (bs ++ b2).length = _
    rw [List.length_append, hb2]
    exact HJN.out
   clear hW2 hT2 hb2 HNU HJN hix hj
   generalize bs ++ b2 = b3 at *
   go_wp2_with fail
   go_roundg (4 - (i + 1))
   case measure => omega
   case rel => exact ⟨i + 1, b3, by go_num, by omega, Nat.le_refl _, HB2.out, HW2.out, HT2.out⟩
  ·have hltz : ¬ (i : Int) < 4 := by omega
   obtain rfl : i = 4 := by omega
   have hr0 := HCE.out wr HT.out
   have k3 : wr.cell? ⟨eb, 3, none⟩ = some (.int .i64 ev.kind) := cell_of_row wr _ 3 _ _ _ hr0
   have k4 : wr.cell? ⟨eb, 4, none⟩ = some (.int .i64 ev.work) := cell_of_row wr _ 4 _ _ _ hr0
   have hwi := evWithin_inB ev.kind 1 3 (by decide) wr
   have hin : inB ev.kind 1 3 = true := by unfold inB; exact decide_eq_true hkk
   rw [hin] at hwi
   have HWI := Lib.hid hwi
   have HB4 := Lib.hid hbs
   have hel : eb < wr.heap.size := Nat.lt_of_lt_of_le hgl HT.out.size
   clear hwi hin hr0 hbs
   go_wp2_with fail
   refine HWI.out.mono ?_
   rintro e wr ⟨rfl, rfl⟩
   clear HWI
   have hnu := number_any wb (l ++ bs) ⟨eb, 4, none⟩ ev.work wr HW.out k4 (by omega) (by omega) (by have := HB4.out; rw [List.length_append]; omega) hel
   have HNU := Lib.hid hnu
   clear hnu
   go_wp2_with fail
   refine HNU.out.mono ?_
   rintro e w5 ⟨rfl, cw5, hcw5, hWw5, hTw5⟩
   have HWw5 : Hid (WAt w5 wb (l ++ (bs ++ cw5))) := by rw [← List.append_assoc]; exact hWw5
   have HTw5 := Lib.hid (HT.out.trans hTw5 fun _ _ h => h)
   have HLw5 : Hid ((bs ++ cw5).length = bs.length + vl ev.work) := by show (bs ++ cw5).length = _; rw [List.length_append, hcw5]; rfl
   clear hWw5 hTw5 hcw5 HNU
   generalize bs ++ cw5 = b5 at *
   by_cases k1 : ev.kind = 1
   ·--SAMPLE
    have hr1 := HCE.out w5 HTw5.out
    have k3 : w5.cell? ⟨eb, 3, none⟩ = some (.int .i64 1) := by rw [← k1]; exact cell_of_row w5 _ 3 _ _ _ hr1
    have k5 : w5.cell? ⟨eb, 5, none⟩ = some (.int .i64 ev.value) := cell_of_row w5 _ 5 _ _ _ hr1
    have hvv : 0 ≤ ev.value ∧ ev.value ≤ 1099511627776 := by rcases HK.out with h | h | h <;> omega
    have hel5 : eb < w5.heap.size := Nat.lt_of_lt_of_le hgl HTw5.out.size
    clear hr1 k4
    have hnu := number_any wb (l ++ b5) ⟨eb, 5, none⟩ ev.value w5 HWw5.out k5 hvv.1 hvv.2 (by have := HB4.out; have := HLw5.out; have := vl_le ev.work; rw [List.length_append]; omega) hel5
    have HNU := Lib.hid hnu
    clear hnu
    go_wp2_with fail
    refine HNU.out.mono ?_
    rintro e w6 ⟨rfl, cw6, hcw6, hWw6, hTw6⟩
    have HWw6 : Hid (WAt w6 wb (l ++ (b5 ++ cw6))) := by rw [← List.append_assoc]; exact hWw6
    have HTw6 := Lib.hid (HTw5.out.trans hTw6 fun _ _ h => h)
    have HLw6 : Hid ((b5 ++ cw6).length = b5.length + vl ev.value) := by show (b5 ++ cw6).length = _; rw [List.length_append, hcw6]; rfl
    clear hWw6 hTw6 hcw6 HNU
    generalize b5 ++ cw6 = b6 at *
    have hfin : b6.length = evLen ev := by
     have e1 := HLw6.out
     have e2 := HLw5.out
     have e3 := HB4.out
     have e4 : hdTo ev 4 = vl ev.dot.node + vl ev.dot.seq + vl ev.time + vl ev.kind := rfl
     unfold evLen
     rw [if_pos k1]
     omega
    have HFIN := Lib.hid hfin
    clear hfin
    go_wp2_with fail
    (try simp only [Exit.inBlock, Exit.then])
    exact bodyPost_ret (v := .tuple #[]) (by simp [results, Tryz.results187, go_sem]) rfl ⟨rfl, b6, HFIN.out, HWw6.out, HTw6.out⟩
   ·by_cases k2 : ev.kind = 2
    ·--SET
     have hpr : PolRight ev.pol := by rcases HK.out with h | h | h <;> first | exact h.2.1 | omega
     have hr1 := HCE.out w5 HTw5.out
     have k3 : w5.cell? ⟨eb, 3, none⟩ = some (.int .i64 2) := by rw [← k2]; exact cell_of_row w5 _ 3 _ _ _ hr1
     have hl5 : b5.length ≤ 30 := by have := HB4.out; have := HLw5.out; have := vl_le ev.work; omega
     have hpo := policy_any eb wb hd ev (l ++ b5) w5 HWw5.out hr1 hne hpr (by rw [List.length_append]; omega)
     have HPO := Lib.hid hpo
     clear hpo hr1 k4
     go_wp2_with fail
     refine HPO.out.mono ?_
     rintro e w6 ⟨rfl, c6, hc6, hW6, hT6⟩
     have HWw6 : Hid (WAt w6 wb (l ++ (b5 ++ c6))) := by rw [← List.append_assoc]; exact hW6
     have HTw6 := Lib.hid (HTw5.out.trans hT6 fun _ _ h => h)
     have HLw6 : Hid ((b5 ++ c6).length = b5.length + polLen ev.pol) := by show (b5 ++ c6).length = _; rw [List.length_append, hc6]
     have hp42 := polTo_le ev.pol 7
     have hp43 : polTo ev.pol 7 = polLen ev.pol := rfl
     have hb6l : (b5 ++ c6).length ≤ 80 := by have := HLw6.out; omega
     clear hW6 hT6 hc6 HPO k3
     generalize b5 ++ c6 = b6 at *
     obtain ⟨roa, rcap, hrv, hrcap⟩ := (HSR.out w6 HTw6.out).slice_of
     have hsr := HSR.out
     rw [hrv] at hsr
     have HSX := Lib.hid hsr
     have HRV : Hid (hd.val = .slice roa ev.rem.length rcap) := hrv
     have r13 : w6.cell? ⟨eb, 13, none⟩ = some (.slice roa ev.rem.length rcap) := (cell_of_row w6 _ 13 _ _ _ (HCE.out w6 HTw6.out)).trans (congrArg some hrv)
     obtain ⟨wa, hwa⟩ : ∃ wa, w6.alloc (.cells #[.int .i64 (ev.rem.length : Int)] 3) = wa := ⟨_, rfl⟩
     have hbA : Below w6.heap.size w6 wa := by rw [← hwa]; exact (Below.refl _ _).alloc (Nat.le_refl _) _
     have hnA : wa.heap[w6.heap.size]? = some (.cells #[.int .i64 (ev.rem.length : Int)] 3) := by rw [← hwa]; exact heap_alloc_new w6 _
     have hTA := HTw6.out.trans (Touch.of_below (L := fun k => k = wb) hbA (Nat.le_refl _)) fun _ _ h => h
     have hWA : WAt wa wb (l ++ b6) := by
      obtain ⟨o, c, h1, h2⟩ := HWw6.out
      exact ⟨o, c, (hbA.block wb HWw6.out.lt).trans h1, h2.below hbA (Nat.le_refl _)⟩
     have hnwb : w6.heap.size ≠ wb := fun e => by have := HWw6.out.lt; omega
     have HWWA := Lib.hid hwa
     have HTA := Lib.hid hTA
     have HWA := Lib.hid hWA
     have HNA := Lib.hid hnA
     have hgn : w6.heap.size < wa.heap.size := (Array.getElem?_eq_some_iff.1 hnA).1
     clear hsr hrv hwa hbA hTA hWA hnA
     go_upto_region 15 with fail
     rw [HWWA.out]
     generalize hnb : w6.heap.size = nb at *
     have na : wa.cell? ⟨nb, 0, none⟩ = some (.int .i64 (ev.rem.length : Int)) := cell_of_row wa _ 0 _ _ _ HNA.out
     have hnu := number_any wb (l ++ b6) ⟨nb, 0, none⟩ (ev.rem.length : Int) wa HWA.out na (by omega) (by omega) (by rw [List.length_append]; omega) hgn
     have HNU := Lib.hid hnu
     clear hnu HWWA r13
     go_wp2_with fail
     refine HNU.out.mono ?_
     rintro e wn ⟨rfl, cn, hcn, hWn, hTn⟩
     have hrn := (hTn.block nb hgn hnwb).trans HNA.out
     have nn : wn.cell? ⟨nb, 0, none⟩ = some (.int .i64 (ev.rem.length : Int)) := cell_of_row wn _ 0 _ _ _ hrn
     have HWn : Hid (WAt wn wb (l ++ (b6 ++ cn))) := by rw [← List.append_assoc]; exact hWn
     have HTn := Lib.hid (HTA.out.trans hTn fun _ _ h => h)
     have HLn : Hid ((b6 ++ cn).length = b6.length + vl (ev.rem.length : Int)) := by show (b6 ++ cn).length = _; rw [List.length_append, hcn]; rfl
     have rn13 : wn.cell? ⟨eb, 13, none⟩ = some (.slice roa ev.rem.length rcap) := by
      obtain ⟨oo, cc, hv2, _⟩ := (HSX.out wn HTn.out).slice_of
      have h3 := cell_of_row wn _ 13 _ _ _ (HCE.out wn HTn.out)
      exact h3.trans (congrArg some HRV.out)
     clear hWn hTn hcn HNU na hrn
     generalize b6 ++ cn = bn at *
     have h96 : ¬ (96 : Int) < (ev.rem.length : Int) := by omega
     go_upto_region 18 with fail
     go_cut [82] (fun s82 wx => s82 = .bool false ∧ Hid (∃ n, wx = wn.drewN n))
     case first =>
      go_big_quiet (fail)
      go_wp2_with fail
      go_meet
      exact ⟨rfl, ⟨nq, rfl⟩⟩
     obtain ⟨rfl, HN2⟩ := hcut
     obtain ⟨nq2, hnq2⟩ := HN2.out
     have HWd : Hid (WAt wc wb (l ++ bn)) := by rw [hnq2]; exact HWn.out
     have HTd : Hid (Touch (fun k => k = wb) W wc) := by rw [hnq2]; exact HTn.out.trans (Touch.of_below (below_drewN wn nq2) (Nat.le_refl _)) fun _ _ h => h
     have rd13 : wc.cell? ⟨eb, 13, none⟩ = some (.slice roa ev.rem.length rcap) := by rw [hnq2]; exact rn13
     clear hnq2 HN2 HWn HTn rn13 nn HWA HTA HNA
     go_wp2_with fail
     go_loopg [8, 93] ev.rem.length (fun gk s8 s93 wr => ∃ (i : Nat) (bz : List Int), s93 = .int .i64 i ∧ i ≤ ev.rem.length ∧ ev.rem.length - i ≤ gk ∧ Hid (bz.length = bn.length + remLen (ev.rem.take i)) ∧ Hid (WAt wr wb (l ++ bz)) ∧ Hid (Touch (fun k => k = wb) W wr))
     case atStart => exact ⟨0, bn, rfl, Nat.zero_le _, Nat.le_refl _, rfl, HWd.out, HTd.out⟩
     case round =>
      obtain ⟨i, bz, rfl, hi, hgk2, HLZ, HWZ, HTZ⟩ := hrel
      clear HWd HTd rd13
      by_cases hlt2 : i < ev.rem.length
      ·have hltz2 : (i : Int) < (ev.rem.length : Int) := by omega
       have hsl := HSX.out wr HTZ.out
       obtain ⟨rb, roff, hrb⟩ := hsl.plain Dot.cells_len (by decide) (by intro e; rw [e] at hlt2; exact absurd hlt2 (by simp))
       subst hrb
       have hdd := fun (W' : World) (hT : Touch (fun k => k = wb) W W') => HSX.out W' hT
       have rz13 : ∀ W' : World, Touch (fun k => k = wb) W W' → W'.cell? ⟨eb, 13, none⟩ = some (.slice (some ⟨rb, roff, none⟩) ev.rem.length rcap) := fun W' hT => (cell_of_row W' _ 13 _ _ _ (HCE.out W' hT)).trans (congrArg some HRV.out)
       have hc0 : ∀ W' : World, Touch (fun k => k = wb) W W' → W'.cell? ⟨rb, roff + i * 2, none⟩ = some (.int .i64 ev.rem[i].node) := fun W' hT => (HSX.out W' hT).cell Dot.cells_len (i := i) (c := 0) hlt2 (by decide)
       have hc1 : ∀ W' : World, Touch (fun k => k = wb) W W' → W'.cell? ⟨rb, roff + i * 2 + 1, none⟩ = some (.int .i64 ev.rem[i].seq) := fun W' hT => (HSX.out W' hT).cell Dot.cells_len (i := i) (c := 1) hlt2 (by decide)
       have hrbl : ∀ W' : World, Touch (fun k => k = wb) W W' → rb < W'.heap.size := fun W' hT => (HSX.out W' hT).lt Dot.cells_len (by decide) (by intro e; rw [e] at hlt2; exact absurd hlt2 (by simp)) rb rfl
       have hmy : May ev.rem[i] := (HRR.out.1 _ (List.getElem_mem hlt2)).1
       have hdm : (0 ≤ ev.rem[i].node ∧ ev.rem[i].node ≤ 7) ∧ (1 ≤ ev.rem[i].seq ∧ ev.rem[i].seq ≤ 96) := by unfold May at hmy; omega
       have htk : remLen (ev.rem.take (i + 1)) = remLen (ev.rem.take i) + (vl ev.rem[i].node + vl ev.rem[i].seq) := by rw [List.take_succ_eq_append_getElem hlt2]; exact remLen_app _ _
       have hrem := remLen_le (ev.rem.take i)
       rw [List.length_take] at hrem
       generalize ev.rem[i] = d at *
       have HTK := Lib.hid htk
       have HC1 := Lib.hid hc1
       have HZ13 := Lib.hid rz13
       have HRL := Lib.hid hrbl
       have z13 := rz13 wr HTZ.out
       have z0 := hc0 wr HTZ.out
       have hlb : (l ++ bz).length ≤ 850000 := by have := HLZ.out; have := HLn.out; have := vl_le (ev.rem.length : Int); rw [List.length_append]; omega
       have hnu := number_any wb (l ++ bz) ⟨rb, roff + i * 2, none⟩ d.node wr HWZ.out z0 (by omega) (by omega) (by omega) (hrbl wr HTZ.out)
       have HNU := Lib.hid hnu
       clear hnu htk hc1 rz13 hrbl hc0 hdd hsl hmy
       go_wp2_with fail
       refine HNU.out.mono ?_
       rintro e w7 ⟨rfl, c7, hc7, hW7, hT7⟩
       have hTT := HTZ.out.trans hT7 fun _ _ h => h
       have y13 := HZ13.out w7 hTT
       have y1 := HC1.out w7 hTT
       have hnu2 := number_any wb (l ++ bz ++ c7) ⟨rb, roff + i * 2 + 1, none⟩ d.seq w7 hW7 y1 (by omega) (by omega) (by have := vl_le d.node; have e : c7.length = vl d.node := hc7; rw [List.length_append]; omega) (HRL.out w7 hTT)
       have HNU2 := Lib.hid hnu2
       have HTT := Lib.hid hTT
       have HC7 := Lib.hid hc7
       clear hnu2 hTT hc7 hW7 hT7 HNU z13 z0 HC1 HZ13 HRL
       go_wp2_with fail
       refine HNU2.out.mono ?_
       rintro e w8 ⟨rfl, c8, hc8, hW8, hT8⟩
       have HW8 : Hid (WAt w8 wb (l ++ (bz ++ (c7 ++ c8)))) := by rw [← List.append_assoc, ← List.append_assoc]; exact hW8
       have HT8 := Lib.hid (HTT.out.trans hT8 fun _ _ h => h)
       have HL8 : Hid ((bz ++ (c7 ++ c8)).length = bn.length + remLen (ev.rem.take (i + 1))) := by
        show (bz ++ (c7 ++ c8)).length = _
        have e1 : c7.length = vl d.node := HC7.out
        have e2 : c8.length = vl d.seq := hc8
        have e3 := HLZ.out
        have e4 := HTK.out
        simp only [List.length_append]
        omega
       clear hc8 hW8 hT8 HNU2 HTT HC7 y13 y1
       generalize bz ++ (c7 ++ c8) = b8 at *
       go_wp2_with fail
       go_roundg (ev.rem.length - (i + 1))
       case measure => omega
       case rel => exact ⟨i + 1, b8, by go_num, by omega, Nat.le_refl _, HL8.out, HW8.out, HT8.out⟩
      ·have hltz2 : ¬ (i : Int) < (ev.rem.length : Int) := by omega
       obtain rfl : i = ev.rem.length := by omega
       rw [List.take_length] at HLZ
       have hfin : bz.length = evLen ev := by
        have e1 := HLZ.out
        have e2 := HLn.out
        have e3 := HLw6.out
        have e4 := HLw5.out
        have e5 := HB4.out
        have e6 : hdTo ev 4 = vl ev.dot.node + vl ev.dot.seq + vl ev.time + vl ev.kind := rfl
        unfold evLen
        rw [if_neg k1, if_pos k2]
        omega
       have HFIN := Lib.hid hfin
       clear hfin
       go_wp2_with fail
       go_end0
       exact ⟨rfl, bz, HFIN.out, HWZ.out, HTZ.out⟩
    ·--DEL
     have k3' : ev.kind = 3 := by omega
     have hr1 := HCE.out w5 HTw5.out
     have k3 : w5.cell? ⟨eb, 3, none⟩ = some (.int .i64 3) := by rw [← k3']; exact cell_of_row w5 _ 3 _ _ _ hr1
     have hl5 : b5.length ≤ 30 := by have := HB4.out; have := HLw5.out; have := vl_le ev.work; omega
     clear hr1 k4
     obtain ⟨roa, rcap, hrv, hrcap⟩ := (HSR.out w5 HTw5.out).slice_of
     have hsr := HSR.out
     rw [hrv] at hsr
     have HSX := Lib.hid hsr
     have HRV : Hid (hd.val = .slice roa ev.rem.length rcap) := hrv
     have r13 : w5.cell? ⟨eb, 13, none⟩ = some (.slice roa ev.rem.length rcap) := (cell_of_row w5 _ 13 _ _ _ (HCE.out w5 HTw5.out)).trans (congrArg some hrv)
     obtain ⟨wa, hwa⟩ : ∃ wa, w5.alloc (.cells #[.int .i64 (ev.rem.length : Int)] 3) = wa := ⟨_, rfl⟩
     have hbA : Below w5.heap.size w5 wa := by rw [← hwa]; exact (Below.refl _ _).alloc (Nat.le_refl _) _
     have hnA : wa.heap[w5.heap.size]? = some (.cells #[.int .i64 (ev.rem.length : Int)] 3) := by rw [← hwa]; exact heap_alloc_new w5 _
     have hTA := HTw5.out.trans (Touch.of_below (L := fun k => k = wb) hbA (Nat.le_refl _)) fun _ _ h => h
     have hWA : WAt wa wb (l ++ b5) := by
      obtain ⟨o, c, h1, h2⟩ := HWw5.out
      exact ⟨o, c, (hbA.block wb HWw5.out.lt).trans h1, h2.below hbA (Nat.le_refl _)⟩
     have hnwb : w5.heap.size ≠ wb := fun e => by have := HWw5.out.lt; omega
     have HWWA := Lib.hid hwa
     have HTA := Lib.hid hTA
     have HWA := Lib.hid hWA
     have HNA := Lib.hid hnA
     have hgn : w5.heap.size < wa.heap.size := (Array.getElem?_eq_some_iff.1 hnA).1
     clear hsr hrv hwa hbA hTA hWA hnA
     go_upto_region 15 with fail
     rw [HWWA.out]
     generalize hnb : w5.heap.size = nb at *
     have na : wa.cell? ⟨nb, 0, none⟩ = some (.int .i64 (ev.rem.length : Int)) := cell_of_row wa _ 0 _ _ _ HNA.out
     have hnu := number_any wb (l ++ b5) ⟨nb, 0, none⟩ (ev.rem.length : Int) wa HWA.out na (by omega) (by omega) (by rw [List.length_append]; omega) hgn
     have HNU := Lib.hid hnu
     clear hnu HWWA r13
     go_wp2_with fail
     refine HNU.out.mono ?_
     rintro e wn ⟨rfl, cn, hcn, hWn, hTn⟩
     have hrn := (hTn.block nb hgn hnwb).trans HNA.out
     have nn : wn.cell? ⟨nb, 0, none⟩ = some (.int .i64 (ev.rem.length : Int)) := cell_of_row wn _ 0 _ _ _ hrn
     have HWn : Hid (WAt wn wb (l ++ (b5 ++ cn))) := by rw [← List.append_assoc]; exact hWn
     have HTn := Lib.hid (HTA.out.trans hTn fun _ _ h => h)
     have HLn : Hid ((b5 ++ cn).length = b5.length + vl (ev.rem.length : Int)) := by show (b5 ++ cn).length = _; rw [List.length_append, hcn]; rfl
     have rn13 : wn.cell? ⟨eb, 13, none⟩ = some (.slice roa ev.rem.length rcap) := by
      obtain ⟨oo, cc, hv2, _⟩ := (HSX.out wn HTn.out).slice_of
      have h3 := cell_of_row wn _ 13 _ _ _ (HCE.out wn HTn.out)
      exact h3.trans (congrArg some HRV.out)
     clear hWn hTn hcn HNU na hrn
     generalize b5 ++ cn = bn at *
     have h96 : ¬ (96 : Int) < (ev.rem.length : Int) := by omega
     go_upto_region 18 with fail
     go_cut [82] (fun s82 wx => s82 = .bool false ∧ Hid (∃ n, wx = wn.drewN n))
     case first =>
      go_big_quiet (fail)
      go_wp2_with fail
      go_meet
      exact ⟨rfl, ⟨nq, rfl⟩⟩
     obtain ⟨rfl, HN2⟩ := hcut
     obtain ⟨nq2, hnq2⟩ := HN2.out
     have HWd : Hid (WAt wc wb (l ++ bn)) := by rw [hnq2]; exact HWn.out
     have HTd : Hid (Touch (fun k => k = wb) W wc) := by rw [hnq2]; exact HTn.out.trans (Touch.of_below (below_drewN wn nq2) (Nat.le_refl _)) fun _ _ h => h
     have rd13 : wc.cell? ⟨eb, 13, none⟩ = some (.slice roa ev.rem.length rcap) := by rw [hnq2]; exact rn13
     clear hnq2 HN2 HWn HTn rn13 nn HWA HTA HNA
     go_wp2_with fail
     go_loopg [8, 93] ev.rem.length (fun gk s8 s93 wr => ∃ (i : Nat) (bz : List Int), s93 = .int .i64 i ∧ i ≤ ev.rem.length ∧ ev.rem.length - i ≤ gk ∧ Hid (bz.length = bn.length + remLen (ev.rem.take i)) ∧ Hid (WAt wr wb (l ++ bz)) ∧ Hid (Touch (fun k => k = wb) W wr))
     case atStart => exact ⟨0, bn, rfl, Nat.zero_le _, Nat.le_refl _, rfl, HWd.out, HTd.out⟩
     case round =>
      obtain ⟨i, bz, rfl, hi, hgk2, HLZ, HWZ, HTZ⟩ := hrel
      clear HWd HTd rd13
      by_cases hlt2 : i < ev.rem.length
      ·have hltz2 : (i : Int) < (ev.rem.length : Int) := by omega
       have hsl := HSX.out wr HTZ.out
       obtain ⟨rb, roff, hrb⟩ := hsl.plain Dot.cells_len (by decide) (by intro e; rw [e] at hlt2; exact absurd hlt2 (by simp))
       subst hrb
       have hdd := fun (W' : World) (hT : Touch (fun k => k = wb) W W') => HSX.out W' hT
       have rz13 : ∀ W' : World, Touch (fun k => k = wb) W W' → W'.cell? ⟨eb, 13, none⟩ = some (.slice (some ⟨rb, roff, none⟩) ev.rem.length rcap) := fun W' hT => (cell_of_row W' _ 13 _ _ _ (HCE.out W' hT)).trans (congrArg some HRV.out)
       have hc0 : ∀ W' : World, Touch (fun k => k = wb) W W' → W'.cell? ⟨rb, roff + i * 2, none⟩ = some (.int .i64 ev.rem[i].node) := fun W' hT => (HSX.out W' hT).cell Dot.cells_len (i := i) (c := 0) hlt2 (by decide)
       have hc1 : ∀ W' : World, Touch (fun k => k = wb) W W' → W'.cell? ⟨rb, roff + i * 2 + 1, none⟩ = some (.int .i64 ev.rem[i].seq) := fun W' hT => (HSX.out W' hT).cell Dot.cells_len (i := i) (c := 1) hlt2 (by decide)
       have hrbl : ∀ W' : World, Touch (fun k => k = wb) W W' → rb < W'.heap.size := fun W' hT => (HSX.out W' hT).lt Dot.cells_len (by decide) (by intro e; rw [e] at hlt2; exact absurd hlt2 (by simp)) rb rfl
       have hmy : May ev.rem[i] := (HRR.out.1 _ (List.getElem_mem hlt2)).1
       have hdm : (0 ≤ ev.rem[i].node ∧ ev.rem[i].node ≤ 7) ∧ (1 ≤ ev.rem[i].seq ∧ ev.rem[i].seq ≤ 96) := by unfold May at hmy; omega
       have htk : remLen (ev.rem.take (i + 1)) = remLen (ev.rem.take i) + (vl ev.rem[i].node + vl ev.rem[i].seq) := by rw [List.take_succ_eq_append_getElem hlt2]; exact remLen_app _ _
       have hrem := remLen_le (ev.rem.take i)
       rw [List.length_take] at hrem
       generalize ev.rem[i] = d at *
       have HTK := Lib.hid htk
       have HC1 := Lib.hid hc1
       have HZ13 := Lib.hid rz13
       have HRL := Lib.hid hrbl
       have z13 := rz13 wr HTZ.out
       have z0 := hc0 wr HTZ.out
       have hlb : (l ++ bz).length ≤ 850000 := by have := HLZ.out; have := HLn.out; have := vl_le (ev.rem.length : Int); rw [List.length_append]; omega
       have hnu := number_any wb (l ++ bz) ⟨rb, roff + i * 2, none⟩ d.node wr HWZ.out z0 (by omega) (by omega) (by omega) (hrbl wr HTZ.out)
       have HNU := Lib.hid hnu
       clear hnu htk hc1 rz13 hrbl hc0 hdd hsl hmy
       go_wp2_with fail
       refine HNU.out.mono ?_
       rintro e w7 ⟨rfl, c7, hc7, hW7, hT7⟩
       have hTT := HTZ.out.trans hT7 fun _ _ h => h
       have y13 := HZ13.out w7 hTT
       have y1 := HC1.out w7 hTT
       have hnu2 := number_any wb (l ++ bz ++ c7) ⟨rb, roff + i * 2 + 1, none⟩ d.seq w7 hW7 y1 (by omega) (by omega) (by have := vl_le d.node; have e : c7.length = vl d.node := hc7; rw [List.length_append]; omega) (HRL.out w7 hTT)
       have HNU2 := Lib.hid hnu2
       have HTT := Lib.hid hTT
       have HC7 := Lib.hid hc7
       clear hnu2 hTT hc7 hW7 hT7 HNU z13 z0 HC1 HZ13 HRL
       go_wp2_with fail
       refine HNU2.out.mono ?_
       rintro e w8 ⟨rfl, c8, hc8, hW8, hT8⟩
       have HW8 : Hid (WAt w8 wb (l ++ (bz ++ (c7 ++ c8)))) := by rw [← List.append_assoc, ← List.append_assoc]; exact hW8
       have HT8 := Lib.hid (HTT.out.trans hT8 fun _ _ h => h)
       have HL8 : Hid ((bz ++ (c7 ++ c8)).length = bn.length + remLen (ev.rem.take (i + 1))) := by
        show (bz ++ (c7 ++ c8)).length = _
        have e1 : c7.length = vl d.node := HC7.out
        have e2 : c8.length = vl d.seq := hc8
        have e3 := HLZ.out
        have e4 := HTK.out
        simp only [List.length_append]
        omega
       clear hc8 hW8 hT8 HNU2 HTT HC7 y13 y1
       generalize bz ++ (c7 ++ c8) = b8 at *
       go_wp2_with fail
       go_roundg (ev.rem.length - (i + 1))
       case measure => omega
       case rel => exact ⟨i + 1, b8, by go_num, by omega, Nat.le_refl _, HL8.out, HW8.out, HT8.out⟩
      ·have hltz2 : ¬ (i : Int) < (ev.rem.length : Int) := by omega
       obtain rfl : i = ev.rem.length := by omega
       rw [List.take_length] at HLZ
       have hfin : bz.length = evLen ev := by
        have e1 := HLZ.out
        have e2 := HLn.out
        have e4 := HLw5.out
        have e5 := HB4.out
        have e6 : hdTo ev 4 = vl ev.dot.node + vl ev.dot.seq + vl ev.time + vl ev.kind := rfl
        unfold evLen
        rw [if_neg k1, if_neg k2]
        omega
       have HFIN := Lib.hid hfin
       clear hfin
       go_wp2_with fail
       go_end0
       exact ⟨rfl, bz, HFIN.out, HWZ.out, HTZ.out⟩
end Go.Proofs.YtenkfnhcdfmkaaaGreat
