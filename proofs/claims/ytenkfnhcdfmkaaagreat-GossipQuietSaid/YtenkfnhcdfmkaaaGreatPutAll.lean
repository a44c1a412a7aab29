/-
  Many events' bytes: event.PutAll. Nothing is given up by, where all are right.
-/
import Derived.Test.YtenkfnhcdfmkaaaGreatThrough2
import Derived.Test.YtenkfnhcdfmkaaaGreatMEvRight
import Derived.Test.YtenkfnhcdfmkaaaGreatMAcc
namespace Go.Proofs.YtenkfnhcdfmkaaaGreat
open Go.RowKit Go.Lib
set_option linter.unusedVariables false
set_option linter.unusedSimpArgs false
theorem rightEvB_true {e : Ev} (h : RightEv e) : rightEvB e = true := decide_eq_true h
set_option maxRecDepth 100000 in
set_option maxHeartbeats 4000000 in
theorem evPut_any (wb : Nat) (hd : Hdr) (ev : Ev) (l : List Int) (W : World) (hW : WAt W wb l) (hs : SlAt Dot.cells W hd.val ev.rem) (ha : ev.rem = [] ∨ hd.val.ownBlock ≠ some wb) (hr : RightEv ev) (hl : l.length ≤ 700000) :
  Calls Tryz.prog 183 #[.pointer (some ⟨wb, 0, none⟩), .agg #[.int .i64 ev.dot.node, .int .i64 ev.dot.seq, .int .i64 ev.time, .int .i64 ev.kind, .int .i64 ev.work, .int .i64 ev.value, .int .i64 ev.pol.mn, .int .i64 ev.pol.mx, .int .i64 ev.pol.goal, .int .i64 ev.pol.slack, .int .i64 ev.pol.up, .int .i64 ev.pol.down, .int .i64 ev.pol.cool, hd.val]] W fun e w' => e = .returned (.tuple #[]) ∧ ∃ bs, bs.length = evLen ev ∧ WAt w' wb (l ++ bs) ∧ Touch (fun k => k = wb) W w' := by
 obtain ⟨w1, hw1⟩ : ∃ w1, W.alloc (.cells #[.int .i64 ev.dot.node, .int .i64 ev.dot.seq, .int .i64 ev.time, .int .i64 ev.kind, .int .i64 ev.work, .int .i64 ev.value, .int .i64 ev.pol.mn, .int .i64 ev.pol.mx, .int .i64 ev.pol.goal, .int .i64 ev.pol.slack, .int .i64 ev.pol.up, .int .i64 ev.pol.down, .int .i64 ev.pol.cool, hd.val] 44) = w1 := ⟨_, rfl⟩
 have hb1 : Below W.heap.size W w1 := by rw [← hw1]; exact (Below.refl _ _).alloc (Nat.le_refl _) _
 have hr1 : w1.heap[W.heap.size]? = some (.cells (pcells (hd, ev)).toArray 44) := by rw [← hw1]; exact heap_alloc_new W _
 have hwl := hW.lt
 have hri := evRight_any hd ev w1 (hs.below Dot.cells_len (by decide) hb1 (Nat.le_refl _)) (by have := hr.2.2.2.1; omega)
 rw [rightEvB_true hr] at hri
 have hwl1 := load_whole hr1 rfl
 have HRI := Lib.hid hri
 have HW1 := Lib.hid hw1
 have HB1 := Lib.hid hb1
 have HR1 := Lib.hid hr1
 have HLW := Lib.hid hwl1
 have HSS := Lib.hid hs
 have HWA := Lib.hid hW
 have HRT := Lib.hid hr
 clear hri hw1 hb1 hr1 hs hW hr hwl1
 go_enter Tryz.func183, Tryz.ntmps183
 go_upto_region 1 with fail
 rw [HW1.out]
 go_wp2_with (refine wpList_loadAgg _ rfl 44 _ rfl 14 (by kernel_rfl) (by kernel_rfl) ⟨W.heap.size, 0, none⟩ rfl _ HLW.out ?_)
 refine HRI.out.mono ?_
 rintro e w2 ⟨rfl, hb2⟩
 have hB2 := HB1.out.trans (hb2.mono HB1.out.size)
 have hr2 := (hb2.block W.heap.size (Array.getElem?_eq_some_iff.1 HR1.out).1).trans HR1.out
 have hW2 : WAt w2 wb l := by
  obtain ⟨o, c, h1, h2⟩ := HWA.out
  exact ⟨o, c, (hB2.block wb hwl).trans h1, h2.below hB2 (Nat.le_refl _)⟩
 have hth := through_any W.heap.size wb hd ev l w2 hW2 hr2 (by omega) (HSS.out.below Dot.cells_len (by decide) hB2 (Nat.le_refl _)) ha HRT.out hl
 have HTH := Lib.hid hth
 have HB2 := Lib.hid hB2
 clear hth hB2 hr2 hW2 hb2 HRI HLW HW1
 go_wp2_with fail
 refine HTH.out.mono ?_
 rintro e w3 ⟨rfl, bs, hbs, hW3, hT3⟩
 have hT := (Touch.of_below (L := fun k => k = wb) HB2.out (Nat.le_refl _)).trans hT3 fun _ _ h => h
 have HT := Lib.hid hT
 have HW3 := Lib.hid hW3
 have HBS := Lib.hid hbs
 clear hT hT3 hW3 hbs HTH
 go_wp2_with fail
 go_end0
 exact ⟨rfl, bs, HBS.out, HW3.out, HT.out⟩
def evsLen : List PEv → Nat
 | [] => 0
 | p :: l => evLen p.2 + evsLen l
theorem evsLen_app (l : List PEv) (p : PEv) : evsLen (l ++ [p]) = evsLen l + evLen p.2 := by
 induction l with
 | nil => simp [evsLen]
 | cons x l ih => show evLen x.2 + evsLen (l ++ [p]) = evLen x.2 + evsLen l + _; rw [ih]; omega
theorem vl_1 {n : Int} (h : n < 128) : vl n = 1 := vlen_one (by omega)
theorem vl_2 {n : Int} (h : n < 16384) : vl n ≤ 2 := by unfold vl vlen; split <;> (try split) <;> omega
theorem vl_5 {n : Int} (h : n < 34359738368) : vl n ≤ 5 := by
 unfold vl vlen
 repeat' split
 all_goals omega
theorem remLen_may (l : List Dot) (h : ∀ d ∈ l, May d) : remLen l = 2 * l.length := by
 induction l with
 | nil => rfl
 | cons x l ih =>
  have h1 := h x (by simp)
  unfold May at h1
  show vl x.node + vl x.seq + remLen l = 2 * (l.length + 1)
  rw [ih fun d hd => h d (by simp [hd]), vl_1 (by omega), vl_1 (by omega)]
  omega
theorem evLen_le (e : Ev) (h : RightEv e) : evLen e ≤ 219 := by
 obtain ⟨h1, h2, h3, h4, h5, h6⟩ := h
 unfold May at h1
 have a1 : vl e.dot.node = 1 := vl_1 (by omega)
 have a2 : vl e.dot.seq = 1 := vl_1 (by omega)
 have a3 := vl_le e.time
 have a4 : vl e.work = 1 := vl_1 (by omega)
 have a5 := vl_le e.value
 have a6 : vl (e.rem.length : Int) = 1 := vl_1 (by omega)
 have a7 := remLen_may e.rem fun d hd => (h5.1 d hd).1
 have a8 : vl e.kind = 1 := vl_1 (by rcases h6 with h | h | h <;> omega)
 unfold evLen
 split
 ·omega
 ·split
  ·rename_i k1 k2
   have hp : PolRight e.pol := by rcases h6 with h | h | h <;> first | exact h.2.1 | omega
   obtain ⟨q1, q2, q3, q4, q5, q6⟩ := hp
   have b1 := vl_2 (n := e.pol.mn) (by omega)
   have b2 := vl_2 (n := e.pol.mx) (by omega)
   have b3 := vl_5 (n := e.pol.goal) (by omega)
   have b4 : vl e.pol.slack = 1 := vl_1 (by omega)
   have b5 := vl_2 (n := e.pol.up) (by omega)
   have b6 := vl_2 (n := e.pol.down) (by omega)
   have b7 := vl_2 (n := e.pol.cool) (by omega)
   unfold polLen
   omega
  ·omega
theorem evsLen_le (l : List PEv) (h : ∀ p ∈ l, RightEv p.2) : evsLen l ≤ 219 * l.length := by
 induction l with
 | nil => exact Nat.le_refl _
 | cons x l ih =>
  have h1 := evLen_le x.2 (h x (by simp))
  have h2 := ih fun p hp => h p (by simp [hp])
  show evLen x.2 + evsLen l ≤ 219 * (l.length + 1)
  omega
set_option maxRecDepth 100000 in
set_option maxHeartbeats 8000000 in
theorem putAll_any (oa : Option Addr) (cap : Nat) (ps : List PEv) (w : World) (h : EvsAt w (.slice oa ps.length cap) ps) (hl : ps.length ≤ 768) (hr : ∀ p ∈ ps, RightEv p.2) :
  Calls Tryz.prog 173 #[.slice oa ps.length cap] w fun e w' => ∃ o c bs, bs.length = vl ps.length + evsLen ps ∧ e = .returned (.tuple #[.slice o bs.length c, .int .i64 0]) ∧ Owns ycells 1 w.heap.size 5 w' (.slice o bs.length c) bs ∧ Below w.heap.size w w' := by
 obtain ⟨h0, h1, h2, hb, hs⟩ := alloc3 w (.cells #[.int .i64 0] 29) (.cells #[.slice none 0 0] 235) (.cells #[.int .i64 (ps.length : Int)] 3)
 obtain ⟨w1, hw1⟩ : ∃ w1, ((w.alloc (.cells #[.int .i64 0] 29)).alloc (.cells #[.slice none 0 0] 235)).alloc (.cells #[.int .i64 (ps.length : Int)] 3) = w1 := ⟨_, rfl⟩
 rw [hw1] at h0 h1 h2 hb hs
 have hlz : ¬ (768 : Int) < (ps.length : Int) := by omega
 have hW1 : WAt w1 (w.heap.size + 1) [] := ⟨none, 0, h1, Owns.nil _ _ _ _ _⟩
 have n0 : w1.cell? ⟨w.heap.size + 2, 0, none⟩ = some (.int .i64 (ps.length : Int)) := cell_of_row w1 _ 0 _ _ _ h2
 have hnu := number_any (w.heap.size + 1) [] ⟨w.heap.size + 2, 0, none⟩ (ps.length : Int) w1 hW1 n0 (by omega) (by omega) (by simp) (by show w.heap.size + 2 < w1.heap.size; omega)
 have HNU := Lib.hid hnu
 have HW1 := Lib.hid hw1
 have HB1 := Lib.hid hb
 have HR0 := Lib.hid h0
 have HS1 := Lib.hid hs
 have HE := Lib.hid h
 have HRT := Lib.hid hr
 clear hnu hw1 hb h0 h1 h2 hs h hr hW1
 go_enter_defers Tryz.func173, Tryz.ntmps173
 go_upto_region 6 with fail
 rw [HW1.out]
 go_wp2_with fail
 refine HNU.out.mono ?_
 rintro e w2 ⟨rfl, b2, hb2, hW2, hT2⟩
 have HT2 := Lib.hid hT2
 have HW2 : Hid (WAt w2 (w.heap.size + 1) b2) := hW2
 have HL2 := Lib.hid hb2
 clear hb2 hW2 hT2 HNU n0
 go_wp2_with fail
 go_loopg [7, 18] ps.length (fun gk s7 s18 wr => ∃ (i : Nat) (bz : List Int), s18 = .int .i64 i ∧ i ≤ ps.length ∧ ps.length - i ≤ gk ∧ Hid (bz.length = b2.length + evsLen (ps.take i)) ∧ Hid (WAt wr (w.heap.size + 1) bz) ∧ Hid (Touch (fun k => k = w.heap.size + 1) w1 wr))
 case atStart => exact ⟨0, b2, rfl, Nat.zero_le _, Nat.le_refl _, rfl, HW2.out, HT2.out⟩
 case round =>
  obtain ⟨i, bz, rfl, hi, hgk, HLZ, HWZ, HTZ⟩ := hrel
  clear HW2 HT2
  have hBz : Below w.heap.size w wr := HB1.out.trans (HTZ.out.below (by have := HS1.out; omega) fun n hn => by omega)
  by_cases hlt : i < ps.length
  ·have hltz : (i : Int) < (ps.length : Int) := by omega
   have hev := HE.out.below hBz (Nat.le_refl _)
   have hsl := hev.1
   obtain ⟨b, off, hbo⟩ := hsl.plain pcells_len (by decide) (by intro e; rw [e] at hlt; exact absurd hlt (by simp))
   subst hbo
   have hmem : ps[i] ∈ ps := List.getElem_mem hlt
   have hld : Sem.run Tryz.prog (loadCellsFrom ⟨b, off + i * 14, none⟩ 0 14 #[]) wr = .ok (pcells ps[i]).toArray wr := by
    refine run_loadCellsFrom_list Tryz.prog wr ⟨b, off + i * 14, none⟩ (pcells ps[i]) 14 (pcells_len _) fun j v hv => ?_
    rw [Addr.add_lit]
    have hj : j < 14 := by have := (List.getElem?_eq_some_iff.1 hv).1; rwa [pcells_len] at this
    have := hsl.cell pcells_len (i := i) (c := j) hlt hj
    rw [show off + i * 14 + j = off + (i * 14 + j) by omega, this, hv]
   have hrm := hev.2 _ hmem
   have hrt := HRT.out _ hmem
   have hal : ps[i].2.rem = [] ∨ ps[i].1.val.ownBlock ≠ some (w.heap.size + 1) := by
    by_cases e : ps[i].2.rem = []
    ·exact .inl e
    ·exact .inr fun hk => by have := (HE.out.2 _ hmem).lt Dot.cells_len (by decide) e _ hk; omega
   have htk : evsLen (ps.take (i + 1)) = evsLen (ps.take i) + evLen ps[i].2 := by rw [List.take_succ_eq_append_getElem hlt]; exact evsLen_app _ _
   have hsm := evsLen_le (ps.take i) fun p hp => HRT.out p (List.mem_of_mem_take hp)
   rw [List.length_take] at hsm
   generalize ps[i] = p at *
   obtain ⟨⟨ra, rn, rc⟩, ev⟩ := p
   dsimp only at hrm hrt hal htk
   replace hld : Sem.run Tryz.prog (loadCellsFrom ⟨b, off + i * 14, none⟩ 0 14 #[]) wr = .ok #[.int .i64 ev.dot.node, .int .i64 ev.dot.seq, .int .i64 ev.time, .int .i64 ev.kind, .int .i64 ev.work, .int .i64 ev.value, .int .i64 ev.pol.mn, .int .i64 ev.pol.mx, .int .i64 ev.pol.goal, .int .i64 ev.pol.slack, .int .i64 ev.pol.up, .int .i64 ev.pol.down, .int .i64 ev.pol.cool, .slice ra rn rc] wr := hld
   obtain ⟨wa, hwa⟩ : ∃ wa, wr.alloc (.cells #[.int .i64 ev.dot.node, .int .i64 ev.dot.seq, .int .i64 ev.time, .int .i64 ev.kind, .int .i64 ev.work, .int .i64 ev.value, .int .i64 ev.pol.mn, .int .i64 ev.pol.mx, .int .i64 ev.pol.goal, .int .i64 ev.pol.slack, .int .i64 ev.pol.up, .int .i64 ev.pol.down, .int .i64 ev.pol.cool, .slice ra rn rc] 44) = wa := ⟨_, rfl⟩
   have hbA : Below wr.heap.size wr wa := by rw [← hwa]; exact (Below.refl _ _).alloc (Nat.le_refl _) _
   have hrA : wa.heap[wr.heap.size]? = some (.cells #[.int .i64 ev.dot.node, .int .i64 ev.dot.seq, .int .i64 ev.time, .int .i64 ev.kind, .int .i64 ev.work, .int .i64 ev.value, .int .i64 ev.pol.mn, .int .i64 ev.pol.mx, .int .i64 ev.pol.goal, .int .i64 ev.pol.slack, .int .i64 ev.pol.up, .int .i64 ev.pol.down, .int .i64 ev.pol.cool, .slice ra rn rc] 44) := by rw [← hwa]; exact heap_alloc_new wr _
   have hlA := load_whole hrA rfl
   have hWA : WAt wa (w.heap.size + 1) bz := by
    obtain ⟨o, c, h1, h2⟩ := HWZ.out
    exact ⟨o, c, (hbA.block _ HWZ.out.lt).trans h1, h2.below hbA (Nat.le_refl _)⟩
   have hv2 := vl_le (ps.length : Int)
   have hpu := evPut_any (w.heap.size + 1) ⟨ra, rn, rc⟩ ev bz wa hWA (hrm.below Dot.cells_len (by decide) hbA (Nat.le_refl _)) hal hrt (by have := HLZ.out; have := HL2.out; have e : b2.length = vl (ps.length : Int) := HL2.out; omega)
   have hTA := HTZ.out.trans (Touch.of_below (L := fun k => k = w.heap.size + 1) hbA (Nat.le_refl _)) fun _ _ h => h
   have HPU := Lib.hid hpu
   have HLD := Lib.hid hld
   have HWWA := Lib.hid hwa
   have HLA := Lib.hid hlA
   have HTA := Lib.hid hTA
   have HTK := Lib.hid htk
   clear hpu hld hwa hbA hrA hlA hWA hTA htk hev hsl hmem hrm hrt hal hBz HWZ HTZ
   simp only [Hdr.val] at HPU
   go_wp2_with (first | (refine wpList_loadAgg _ rfl 44 _ rfl 14 (by kernel_rfl) (by kernel_rfl) ⟨b, off + i * 14, none⟩ rfl _ HLD.out ?_) | (rw [HWWA.out]) | (refine wpList_loadAgg _ rfl 44 _ rfl 14 (by kernel_rfl) (by kernel_rfl) ⟨wr.heap.size, 0, none⟩ rfl _ HLA.out ?_))
   refine HPU.out.mono ?_
   rintro e w5 ⟨rfl, c5, hc5, hW5, hT5⟩
   have HW5 := Lib.hid hW5
   have HT5 := Lib.hid (HTA.out.trans hT5 fun _ _ h => h)
   have HL5 : Hid ((bz ++ c5).length = b2.length + evsLen (ps.take (i + 1))) := by
    show (bz ++ c5).length = _
    have e1 := HLZ.out
    have e2 := HTK.out
    rw [List.length_append, hc5]
    omega
   clear hc5 hW5 hT5 HPU HLD HWWA HLA HTA HTK
   generalize bz ++ c5 = b5 at *
   go_wp2_with fail
   go_roundg (ps.length - (i + 1))
   case measure => omega
   case rel => exact ⟨i + 1, b5, by go_num, by omega, Nat.le_refl _, HL5.out, HW5.out, HT5.out⟩
  ·have hltz : ¬ (i : Int) < (ps.length : Int) := by omega
   obtain rfl : i = ps.length := by omega
   rw [List.take_length] at HLZ
   obtain ⟨o, c, hrw, how⟩ := HWZ.out
   have kw : wr.cell? ⟨w.heap.size + 1, 0, none⟩ = some (.slice o bz.length c) := cell_of_row wr _ 0 _ _ _ hrw
   have hr0 := (HTZ.out.block w.heap.size (by have := HS1.out; omega) (by omega)).trans HR0.out
   have x0 : wr.cell? ⟨w.heap.size, 0, none⟩ = some (.int .i64 0) := cell_of_row wr _ 0 _ _ _ hr0
   have z0 : wr.frozen? ⟨w.heap.size, 0, none⟩ = false := by unfold World.frozen?; rw [hr0]; simp
   have HHW := Lib.hid how
   have HBZ := Lib.hid hBz
   clear hrw how hr0 hBz
   have hX : wr.heap.size ≤ (wr.setCell ⟨w.heap.size, 0, none⟩ (.int .i64 0)).heap.size := by simp [World.setCell]
   have HOX : Hid (Owns ycells 1 w.heap.size 5 (wr.setCell ⟨w.heap.size, 0, none⟩ (.int .i64 0)) (.slice o bz.length c) bz) := (HHW.out.keep fun b hb => Below.heap_setCell wr ⟨w.heap.size, 0, none⟩ _ b (by have := (HHW.out.lt b hb).1; show b ≠ w.heap.size; omega)).lower (by omega)
   have HBX := Lib.hid (HBZ.out.setCell (p := ⟨w.heap.size, 0, none⟩) (Nat.le_refl _) (.int .i64 0))
   have xw : (wr.setCell ⟨w.heap.size, 0, none⟩ (.int .i64 0)).cell? ⟨w.heap.size, 0, none⟩ = some (.int .i64 0) := by rw [cell_set, if_pos ⟨rfl, rfl⟩, x0]; rfl
   go_wp2_with fail
   refine leaves_cons (f := 181) (args := #[.pointer (some ⟨w.heap.size, 0, none⟩)]) (by simp) (by simp [go_sem]) ?_
   refine (eventCaught_idle _ _).mono ?_
   rintro e u' w'' ⟨rfl, rfl, rfl⟩
   refine ⟨.tuple #[.slice o bz.length c, .int .i64 0], by simp [results, Tryz.results173, go_sem, xw], o, c, bz, ?_, rfl, HOX.out, HBX.out⟩
   have e1 := HLZ.out
   have e2 : b2.length = vl (ps.length : Int) := HL2.out
   omega
end Go.Proofs.YtenkfnhcdfmkaaaGreat
