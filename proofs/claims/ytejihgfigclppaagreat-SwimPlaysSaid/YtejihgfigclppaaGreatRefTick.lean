/-
  Time that goes by: what the reference's detector makes of it.
-/
import Derived.Test.YtejihgfigclppaaGreatRefTickT
namespace Go.Proofs.YtejihgfigclppaaGreat
open Go.Shelf Go.RowKit Go.Lib Go.Sort
set_option linter.unusedVariables false
set_option linter.unusedSimpArgs false
set_option maxRecDepth 100000 in
set_option maxHeartbeats 32000000 in
theorem rtick_any (R : RM) (d : Det) (hok : DetOk d) (hso : SinceOk d) (hc : d.clock < 1000000) (hn : d.num < 1000000) (w : World) (h : RAt w R d) :
  Calls Tryz.prog 27 #[.pointer (some ⟨R.g, 0, none⟩)] w fun e w' => ∃ v, e = .returned v ∧ RStepped R d.tick.1 d.tick.2 w v w' := by
 have hp : Tryz.prog.follows .mixedOrders = true := by kernel_rfl
 have k21 : w.cell? ⟨R.g, 21, none⟩ = some (.bool d.left) := h.cell 21
 cases hl : d.left with
 | true =>
  have hx : RStepped R d.tick.1 d.tick.2 w (.slice none 0 0) w := by
   have : d.tick = (d, []) := by unfold Det.tick; rw [if_pos hl]
   rw [this]
   exact RStepped.same h (Below.refl _ _)
  rw [hl] at k21
  have HX := Lib.hid hx
  clear hx h hok hso
  go_enter Tryz.func27, Tryz.ntmps27
  go_wp2_with fail
  go_ret
  exact ⟨_, rfl, HX.out⟩
 | false =>
  rw [hl] at k21
  have k5 : w.cell? ⟨R.g, 5, none⟩ = some (.int .i64 d.clock) := h.cell 5
  have z5 := h.frozen 5
  have wk : IntKind.i64.wrap (d.clock + 1) = d.clock + 1 := by rw [IntKind.wrap_i64]; have := hok.clock; omega
  have hok1 : DetOk { d with clock := d.clock + 1 } := hok.ticks hc
  have hso1 : SinceOk { d with clock := d.clock + 1 } := hso.of_same rfl rfl rfl
  have hR1 : RAt (w.setCell ⟨R.g, 5, none⟩ (.int .i64 (d.clock + 1))) R { d with clock := d.clock + 1 } := h.scalar ⟨rfl, rfl, rfl, rfl, rfl⟩ ⟨rfl, rfl, rfl, rfl, rfl⟩ ⟨h.opn.pr, h.opn.sn⟩ (heap_cellSame _ _ _ _ _ _ h.obj) fun q hq => Below.heap_setCell w ⟨R.g, 5, none⟩ _ q hq
  have hT1 := touch_set (fun k => k ∈ R.own) w ⟨R.g, 5, none⟩ (.int .i64 (d.clock + 1)) R.mem_g
  have htk : d.tick = ((Det.bury { d with clock := d.clock + 1 }).around.1.give.begin.1, (Det.bury { d with clock := d.clock + 1 }).around.2 ++ (Det.bury { d with clock := d.clock + 1 }).around.1.give.begin.2) := by
   unfold Det.tick
   rw [if_neg (by rw [hl]; decide)]
  have hnum1 : (Det.mk d.self d.inc d.c d.tab d.s d.ws (d.clock + 1) d.num d.pr d.began d.since d.er d.left).num < 1000000 := hn
  have HTK := Lib.hid htk
  have HR1 := Lib.hid hR1
  have HT1 := Lib.hid hT1
  have HOK1 := Lib.hid hok1
  have HSO1 := Lib.hid hso1
  have HN1 := Lib.hid hnum1
  clear htk hR1 hT1 hok1 hso1 hnum1 h hok hso hl hn hc
  generalize { d with clock := d.clock + 1 } = d1 at *
  go_enter Tryz.func27, Tryz.ntmps27
  go_wp2_with fail
  generalize w.setCell ⟨R.g, 5, none⟩ (.int .i64 (d.clock + 1)) = w1 at *
  clear k21 k5 z5 wk
  go_loopg [4, 5] 8 (fun gk s4 s5 wr => ∃ (i : Nat) (f : Nat → Int), s4 = .int .i64 i ∧ i ≤ 8 ∧ 8 - i ≤ gk ∧ Hid (RAt wr { R with sn := f } (d1.buryTo i)) ∧ Hid (Touch (fun k => k ∈ R.own) w wr))
  case atStart => exact ⟨0, R.sn, rfl, Nat.zero_le _, Nat.le_refl _, HR1.out, HT1.out⟩
  case round =>
   obtain ⟨i, f, rfl, hi, hgk, HR, HT⟩ := hrel
   have HRN := Lib.hid (show RM.own { R with sn := f } = R.own from rfl)
   by_cases hlt : i < 8
   ·as_aux_lemma =>
    have hltz : (i : Int) < 8 := by omega
    have hkz0 : ¬ (i : Int) < 0 := by omega
    have hst : d1.buryTo (i + 1) = (d1.buryTo i).bury1 i := rfl
    have HOK := Lib.hid (HOK1.out.buryTo i)
    have HSO := Lib.hid (HSO1.out.buryTo i)
    have HST := Lib.hid hst
    clear hst
    generalize d1.buryTo i = e at *
    obtain ⟨nd, st, ic, hrw⟩ : ∃ a b c, rWd e.tab i = ⟨a, b, c⟩ := ⟨_, _, _, rfl⟩
    have k3 : wr.cell? ⟨R.g, 3, none⟩ = some (.pointer (some ⟨R.gt, 0, none⟩)) := HR.out.cell 3
    have t0 := HR.out.tab.c0 hlt
    have t1 := HR.out.tab.c1 hlt
    have t2 := HR.out.tab.c2 hlt
    rw [hrw] at t0 t1 t2
    dsimp only at t0 t1 t2
    obtain ⟨W, hW⟩ : ∃ W, wr.alloc (.cells #[.int .i64 nd, .int .i64 st, .int .i64 ic] 45) = W := ⟨_, rfl⟩
    have hbW : Below wr.heap.size wr W := by rw [← hW]; exact (Below.refl _ _).alloc (Nat.le_refl _) _
    have hrW : W.heap[wr.heap.size]? = some (.cells #[.int .i64 nd, .int .i64 st, .int .i64 ic] 45) := by rw [← hW]; exact heap_alloc_new wr _
    have hRW := HR.out.below hbW
    have x1 : W.cell? ⟨wr.heap.size, 1, none⟩ = some (.int .i64 st) := cell_of_row W _ 1 _ _ _ hrW
    have x2 : W.cell? ⟨wr.heap.size, 2, none⟩ = some (.int .i64 ic) := cell_of_row W _ 2 _ _ _ hrW
    have j3 : W.cell? ⟨R.g, 3, none⟩ = some (.pointer (some ⟨R.gt, 0, none⟩)) := hRW.cell 3
    have j0 : W.cell? ⟨R.gt, 0, none⟩ = some (.int .i64 e.self) := hRW.tab.self
    have j5 : W.cell? ⟨R.g, 5, none⟩ = some (.int .i64 e.clock) := hRW.cell 5
    have j2 : W.cell? ⟨R.g, 2, none⟩ = some (.int .i64 e.c.gr) := hRW.cell 2
    have js : W.cell? ⟨R.g, 12 + i, none⟩ = some (.int .i64 (f i)) := by
     refine (cell_of_row W R.g (12 + i) _ _ _ hRW.obj).trans ?_
     rcases (show i = 0 ∨ i = 1 ∨ i = 2 ∨ i = 3 ∨ i = 4 ∨ i = 5 ∨ i = 6 ∨ i = 7 by omega) with rfl | rfl | rfl | rfl | rfl | rfl | rfl | rfl <;> rfl
    have hTW := HT.out.trans (Touch.of_below (L := fun k => k ∈ R.own) hbW (Nat.le_refl _)) fun _ _ h => h
    have HRW := Lib.hid hRW
    have HTW := Lib.hid hTW
    have HWW := Lib.hid hW
    -- is it buried?
    have hby : ∃ bb : Bool, (bb = true → e.bury1 i = e.hear ⟨(i : Int), 3, ic⟩) ∧ (bb = false → e.bury1 i = e) ∧
      (((st == 2) = false ∧ bb = false) ∨ ((st == 2) = true ∧ ((i : Int) != e.self) = false ∧ bb = false) ∨ ((st == 2) = true ∧ ((i : Int) != e.self) = true ∧ IntKind.i64.wrap (e.clock - f i) = e.clock - f i ∧ decide (e.c.gr ≤ e.clock - f i) = bb)) := by
     cases hsi : e.since (i : Int) with
     | none =>
      refine ⟨false, (fun h => by cases h), (fun _ => bury1_none hsi), ?_⟩
      by_cases e2 : st = 2
      ·by_cases e1 : (i : Int) = e.self
       ·exact .inr (.inl ⟨by simpa using e2, by simpa using e1, rfl⟩)
       ·exfalso
        cases hti : e.tab i with
        | none => rw [rWd_none hti] at hrw; cases hrw; cases e2
        | some wd =>
         rw [rWd_some hti] at hrw
         cases hrw
         obtain ⟨v, hv⟩ := (HSO.out i hlt).2 ⟨e1, wd, hti, e2⟩
         rw [hsi] at hv
         cases hv
      ·exact .inl ⟨by simpa using e2, rfl⟩
     | some v =>
      obtain ⟨e1, wd, hti, e2⟩ := (HSO.out i hlt).1 ⟨v, hsi⟩
      rw [rWd_some hti] at hrw
      cases hrw
      have hfv : f i = v := HR.out.opn.sn i v hlt hsi
      have hvb := HOK.out.since _ _ hsi
      have hcb := HOK.out.clock
      have hwr : IntKind.i64.wrap (e.clock - v) = e.clock - v := by rw [IntKind.wrap_i64]; omega
      rw [hfv]
      by_cases hg : e.c.gr ≤ e.clock - v
      ·exact ⟨true, (fun _ => bury1_hear hsi hg hti), (fun h => by cases h), .inr (.inr ⟨by simpa using e2, by simpa using e1, hwr, decide_eq_true hg⟩)⟩
      ·exact ⟨false, (fun h => by cases h), (fun _ => bury1_wait hsi hg), .inr (.inr ⟨by simpa using e2, by simpa using e1, hwr, decide_eq_false hg⟩)⟩
    obtain ⟨bb, hb1, hb2, hb3⟩ := hby
    have HB1 := Lib.hid hb1
    have HB2 := Lib.hid hb2
    clear hb1 hb2 hrw hW hbW hrW hRW hTW HR HT
    go_wp2_with fail
    rw [HWW.out]
    go_cut [70] (fun s70 wx => s70 = .bool bb ∧ Hid (∃ n, wx = W.drewN n))
    case first =>
     as_aux_lemma =>
     rcases hb3 with ⟨f1, rfl⟩ | ⟨f1, f2, rfl⟩ | ⟨f1, f2, f3, f4⟩
     ·go_big_quiet (fail)
      go_wp2_with fail
      go_meet
      exact ⟨rfl, ⟨nq, rfl⟩⟩
     ·go_big_quiet (fail)
      go_wp2_with fail
      go_meet
      exact ⟨rfl, ⟨nq, rfl⟩⟩
     ·go_big_quiet (fail)
      go_wp2_with fail
      go_meet
      exact ⟨rfl, ⟨nq, rfl⟩⟩
    case rest =>
     obtain ⟨rfl, HN⟩ := hcut
     obtain ⟨nq, hnq⟩ := HN.out
     have hRN : RAt wc { R with sn := f } e := by rw [hnq]; exact HRW.out.keep fun _ _ => rfl
     have hTN : Touch (fun k => k ∈ R.own) w wc := by rw [hnq]; exact HTW.out.trans (Touch.of_below (L := fun k => k ∈ R.own) (below_drewN W nq) (Nat.le_refl _)) fun _ _ h => h
     have x2 : wc.cell? ⟨wr.heap.size, 2, none⟩ = some (.int .i64 ic) := by rw [hnq]; exact x2
     have HRN := Lib.hid hRN
     have HTN := Lib.hid hTN
     clear hRN hTN hnq HN hb3 x1 j3 j0 j5 j2 js k3 t0 t1 t2 HRW HTW HWW
     cases bb with
     | false =>
      have HE := Lib.hid (HST.out.trans (HB2.out rfl))
      clear x2 HB1 HB2
      go_wp2_with fail
      go_roundg (8 - (i + 1))
      case measure => omega
      case rel => exact ⟨i + 1, f, by go_num, by omega, Nat.le_refl _, by rw [HE.out]; exact HRN.out, HTN.out⟩
     | true =>
      have HE := Lib.hid (HST.out.trans (HB1.out rfl))
      have hhe := rdhear_any { R with sn := f } e HOK.out ⟨(i : Int), 3, ic⟩ wc HRN.out
      have HHE := Lib.hid hhe
      clear hhe HB1 HB2
      go_wp2_with fail
      refine HHE.out.mono ?_
      rintro en w7 ⟨rfl, f', hR7, hT7⟩
      have HR7 := Lib.hid hR7
      have HT7 := Lib.hid (HTN.out.trans hT7 fun n hn hL => hL.elim (fun e => by rw [e]; exact R.mem_g) fun e => by rw [e]; exact R.mem_gt)
      clear hR7 hT7 HHE HRN HTN x2
      go_wp2_with fail
      go_roundg (8 - (i + 1))
      case measure => omega
      case rel => exact ⟨i + 1, f', by go_num, by omega, Nat.le_refl _, by rw [HE.out]; exact HR7.out, HT7.out⟩
   ·have hltz : ¬ (i : Int) < 8 := by omega
    obtain rfl : i = 8 := by omega
    have htk := HTK.out
    rw [show d1.bury = d1.buryTo 8 from rfl] at htk
    have hok2 := HOK1.out.buryTo 8
    have hso2 := HSO1.out.buryTo 8
    have hn2 : (d1.buryTo 8).num < 1000000 := by rw [(same_buryTo d1 8).num]; exact HN1.out
    have HTK2 := Lib.hid htk
    have HOK2 := Lib.hid hok2
    have HSO2 := Lib.hid hso2
    have HN2 := Lib.hid hn2
    clear htk hok2 hso2 hn2 HTK HOK1 HSO1 HN1 HR1 HT1 hi hgk hlt hltz HRN
    generalize d1.buryTo 8 = e1 at *
    have k7 : wr.cell? ⟨R.g, 7, none⟩ = some (.bool e1.pr.isSome) := HR.out.cell 7
    have k5 : wr.cell? ⟨R.g, 5, none⟩ = some (.int .i64 e1.clock) := HR.out.cell 5
    have k10 : wr.cell? ⟨R.g, 10, none⟩ = some (.int .i64 R.beg) := HR.out.cell 10
    have k0 : wr.cell? ⟨R.g, 0, none⟩ = some (.int .i64 e1.c.tout) := HR.out.cell 0
    have hby : ∃ bb : Bool, (bb = true → ∃ p, e1.pr = some p ∧ R.seq = p.1 ∧ R.tgt = p.2 ∧ e1.around = ({ e1 with s := (shufL e1.s (onceL (e1.aroundL p.2))).1 }, (someL e1.s (e1.aroundL p.2) e1.c.ind).map fun n => e1.send 3 n p.1 p.2)) ∧ (bb = false → e1.around = (e1, [])) ∧
      ((e1.pr.isSome = false ∧ bb = false) ∨ (e1.pr.isSome = true ∧ IntKind.i64.wrap (e1.clock - R.beg) = e1.clock - R.beg ∧ (e1.clock - R.beg == e1.c.tout) = bb)) := by
     cases hpr : e1.pr with
     | none => exact ⟨false, (fun h => by cases h), (fun _ => by unfold Det.around; rw [hpr]), .inl ⟨rfl, rfl⟩⟩
     | some p =>
      obtain ⟨q1, q2, q3⟩ := HR.out.opn.pr p hpr
      replace q1 : R.seq = p.1 := q1
      replace q2 : R.tgt = p.2 := q2
      replace q3 : R.beg = e1.began := q3
      have hb1 := HOK2.out.began
      have hb2 := HOK2.out.clock
      have hwr : IntKind.i64.wrap (e1.clock - R.beg) = e1.clock - R.beg := by rw [IntKind.wrap_i64]; omega
      by_cases hq : e1.clock - e1.began = e1.c.tout
      ·refine ⟨true, (fun _ => ⟨p, rfl, q1, q2, ?_⟩), (fun h => by cases h), .inr ⟨rfl, hwr, by rw [q3]; simpa using hq⟩⟩
       unfold Det.around
       rw [hpr]
       exact if_pos hq
      ·refine ⟨false, (fun h => by cases h), (fun _ => ?_), .inr ⟨rfl, hwr, by rw [q3]; simpa using hq⟩⟩
       unfold Det.around
       rw [hpr]
       exact if_neg hq
    obtain ⟨bb, hb1, hb2, hb3⟩ := hby
    have HB1 := Lib.hid hb1
    have HB2 := Lib.hid hb2
    clear hb1 hb2
    go_wp2_with fail
    go_cut [97] (fun s97 wx => s97 = .bool bb ∧ Hid (∃ n, wx = wr.drewN n))
    case first =>
     as_aux_lemma =>
     rcases hb3 with ⟨f1, rfl⟩ | ⟨f1, f2, f3⟩
     ·rw [f1] at k7
      go_big_quiet (fail)
      go_wp2_with fail
      go_meet
      exact ⟨rfl, ⟨nq, rfl⟩⟩
     ·rw [f1] at k7
      go_big_quiet (fail)
      go_wp2_with fail
      go_meet
      exact ⟨rfl, ⟨nq, rfl⟩⟩
    obtain ⟨rfl, HN⟩ := hcut
    obtain ⟨nq, hnq⟩ := HN.out
    have hRN : RAt wc { R with sn := f } e1 := by rw [hnq]; exact HR.out.keep fun _ _ => rfl
    have hTN : Touch (fun k => k ∈ R.own) w wc := by rw [hnq]; exact HT.out.trans (Touch.of_below (L := fun k => k ∈ R.own) (below_drewN wr nq) (Nat.le_refl _)) fun _ _ h => h
    have HRN := Lib.hid hRN
    have HTN := Lib.hid hTN
    clear hRN hTN hnq HN hb3 k7 k5 k10 k0 HR HT
    go_step
    go_cut [3] (fun s3 wx => Hid (RMid R e1.around.1 e1.around.2 w s3 wx))
    case first =>
     cases bb with
     | false =>
      have hr : RMid R e1.around.1 e1.around.2 w (.slice none 0 0) wc := by
       rw [HB2.out rfl]
       exact ⟨{ R with sn := f }, [], HRN.out, MsgsAt.none _ _, rfl, Aside.none _, ⟨rfl, rfl, rfl, fun k hk => .inl hk⟩, HTN.out⟩
      have HRR := Lib.hid hr
      clear hr
      go_wp2_with fail
      go_meet
      exact HRR.out
     | true =>
      obtain ⟨⟨num, t⟩, hpr, hsq, htg, har⟩ := HB1.out rfl
      dsimp only at hsq htg har
      have HAR := Lib.hid har
      have hot := rothers_any R.gt e1.self e1.tab HOK2.out.tab wc HRN.out.tab
      have k3 : wc.cell? ⟨R.g, 3, none⟩ = some (.pointer (some ⟨R.gt, 0, none⟩)) := HRN.out.cell 3
      have hgc : R.g < wc.heap.size := HRN.out.lt
      have HOT := Lib.hid hot
      have hl8 := othersT_len e1.self e1.tab
      have haL : e1.aroundL t = (othersT e1.self e1.tab).filter fun n => !decide (n = t) := rfl
      have HAL := Lib.hid haL
      generalize othersT e1.self e1.tab = L at *
      clear hot har hpr haL HB1 HB2
      go_wp2_with fail
      refine HOT.out.mono ?_
      rintro e w3 ⟨o3, c3, rfl, ho3, hb3⟩
      have HO3 := Lib.hid ho3
      have HB3 := Lib.hid hb3
      have hg3 : R.g < w3.heap.size := Nat.lt_of_lt_of_le hgc hb3.size
      have hk8 : w3.cell? ⟨R.g, 8, none⟩ = some (.int .i64 t) := by rw [← htg]; exact (hb3.cell (p := ⟨R.g, 8, none⟩) hgc).trans (HRN.out.cell 8)
      have HK8 := Lib.hid hk8
      clear ho3 hb3 HOT hk8 k3
      go_wp2_with fail
      go_loopg [6, 8, 104] L.length (fun gk s6 s8 s104 wr => ∃ (i : Nat) (oq : Option Addr) (cq : Nat), s104 = .int .i64 i ∧ s6 = .slice oq ((L.take i).filter fun n => !decide (n = t)).length cq ∧ i ≤ L.length ∧ L.length - i ≤ gk ∧ Hid (Owns icells 1 w3.heap.size 3 wr (.slice oq ((L.take i).filter fun n => !decide (n = t)).length cq) ((L.take i).filter fun n => !decide (n = t))) ∧ Hid (Below w3.heap.size w3 wr))
      case atStart => exact ⟨0, none, 0, rfl, rfl, Nat.zero_le _, Nat.le_refl _, Owns.nil _ _ _ _ _, Below.refl _ _⟩
      case round =>
       obtain ⟨i, oq, cq, rfl, rfl, hi, hgk, HQ, HBR⟩ := hrel
       have hsz := HBR.out.size
       by_cases hlt2 : i < L.length
       ·as_aux_lemma =>
        have hltz : (i : Int) < (L.length : Int) := by omega
        have hsl := HO3.out.at.below icells_len (by decide) HBR.out (Nat.le_refl _)
        obtain ⟨g, off, rfl⟩ := hsl.plain icells_len (by decide) (by intro e; rw [e] at hlt2; exact absurd hlt2 (by simp))
        have c0 := hsl.cell icells_len (i := i) (c := 0) hlt2 (by decide)
        simp only [icells, Nat.mul_one, Nat.add_zero, List.getElem?_cons_zero] at c0
        have k8 : wr.cell? ⟨R.g, 8, none⟩ = some (.int .i64 t) := (HBR.out.cell (p := ⟨R.g, 8, none⟩) hg3).trans HK8.out
        have htk : L.take (i + 1) = L.take i ++ [L[i]] := by rw [List.take_add_one, List.getElem?_eq_getElem hlt2]; rfl
        have hfl : ((L.take i).filter fun n => !decide (n = t)).length ≤ 8 := Nat.le_trans (List.length_filter_le _ _) (by rw [List.length_take]; omega)
        have HTK := Lib.hid htk
        clear hsl htk
        generalize L[i] = x at *
        generalize hfq : (L.take i).filter (fun n => !decide (n = t)) = fq at *
        have HFQ := Lib.hid hfq
        clear hfq
        by_cases hx : x = t
        ·have hnx : (L.take (i + 1)).filter (fun n => !decide (n = t)) = fq := by rw [HTK.out, List.filter_append, HFQ.out]; simp [hx]
         have HNX := Lib.hid hnx
         have f1 : (x != t) = false := by simpa using hx
         clear hnx hx
         go_wp2_with fail
         go_roundg (L.length - (i + 1))
         case measure => omega
         case rel => exact ⟨i + 1, oq, cq, by go_num, by rw [HNX.out], by omega, Nat.le_refl _, by rw [HNX.out]; exact HQ.out, HBR.out⟩
        ·have hnx : (L.take (i + 1)).filter (fun n => !decide (n = t)) = fq ++ [x] := by rw [HTK.out, List.filter_append, HFQ.out]; simp [hx]
         have HNX := Lib.hid hnx
         have f1 : (x != t) = true := by simpa using hx
         clear hnx hx
         go_wp2_with (at_builtin; refine wpList_app icells 1 icells_len (by decide) icells_one _ rfl _ _ 50 rfl w3.heap.size 3 _ 8 Tryz.underlying50 infoInt rfl _ fq rfl ?h1 _ [x] rfl ?h2 ?h3 ?h4 ?h5 ?_)
         case h1 => exact HQ.out.below ((Below.refl _ _).alloc (Nat.le_refl _) _) (Nat.le_refl _)
         case h2 => exact slAt_new (enc := icells) wr #[.int .i64 x] 3 1 1 (0, 0) [x] rfl rfl (by decide)
         case h3 => simp only [List.length_singleton]; omega
         case h4 => simp only [List.length_singleton]; omega
         case h5 => rw [World.size_alloc]; omega
         intro v' w' hown2 hg2 hv2
         obtain ⟨o5, c5, hvv⟩ := slAt_slice hown2.at
         subst hvv
         have hbw := (HBR.out.alloc hsz (.cells #[.int .i64 x] 3)).grown hg2 (by rw [World.size_alloc]; omega) (fun k hk => (HQ.out.lt k hk).1)
         have HOWN2 := Lib.hid hown2
         have HBW := Lib.hid hbw
         clear hown2 hg2 hv2 hbw
         go_wp2_with fail
         go_roundg (L.length - (i + 1))
         case measure => omega
         case rel => exact ⟨i + 1, o5, c5, by go_num, by rw [HNX.out], by omega, Nat.le_refl _, by rw [HNX.out]; exact HOWN2.out, HBW.out⟩
       ·have hltz : ¬ (i : Int) < (L.length : Int) := by omega
        obtain rfl : i = L.length := by omega
        rw [List.take_length] at HQ
        rw [List.take_length]
        rw [← HAL.out] at HQ
        rw [← HAL.out]
        have hB3r := HB3.out.trans (HBR.out.mono HB3.out.size)
        have hRr := HRN.out.below hB3r
        have hTr := HTN.out.trans (Touch.of_below (L := fun k => k ∈ R.own) hB3r (Nat.le_refl _)) fun _ _ h => h
        have k4 : wr.cell? ⟨R.g, 4, none⟩ = some (.pointer (some ⟨R.go, 0, none⟩)) := hRr.cell 4
        have k1 : wr.cell? ⟨R.g, 1, none⟩ = some (.int .i64 e1.c.ind) := hRr.cell 1
        have hgr : R.g < wr.heap.size := hRr.lt
        have hfl9 : (e1.aroundL t).length ≤ 900000 := by rw [HAL.out]; exact Nat.le_trans (List.length_filter_le _ _) (by omega)
        obtain ⟨wv, q1, q2, q3, q4, q5⟩ := hRr.ord
        have hso := rsome_keep R.go wv e1.s e1.ws oq cq (e1.aroundL t) e1.c.ind wr.drew (q1.keep rfl) (q2.keep (.inr fun _ _ => rfl)) q5 (HQ.out.at.keep (.inr fun _ _ => rfl)) hfl9
        obtain ⟨n1, n2, n3, n4, n5⟩ := rnod_ne hRr.nod
        have hres : ∀ W : World, wr.drew.grownBy W (some R.go) → Ord2 R.go W (shufL e1.s (onceL (e1.aroundL t))).1 wv 117 → SlAt icells W wv e1.ws → RAt W { R with sn := f } { e1 with s := (shufL e1.s (onceL (e1.aroundL t))).1 } := fun W hW h1 h2 => by
         have hRd : RAt wr.drew { R with sn := f } e1 := hRr.keep fun _ _ => rfl
         exact hRd.turnedOrd hW ⟨wv, h1, h2, q3, fun b hb => by
          have := q4 b hb
          rw [hW.block b (hRd.ord.lt2 b hb) fun e => (n5 b hb).2.2.1 (Option.some.inj e)]
          exact this, q5⟩ fun b hb => .inl hb
        have HRES := Lib.hid hres
        have HSO := Lib.hid hso
        have HTR := Lib.hid hTr
        have hsw3 : w.heap.size ≤ wr.heap.size := hTr.size
        have hkp : ∀ W : World, wr.drew.grownBy W (some R.go) → W.cell? ⟨R.g, 4, none⟩ = some (.pointer (some ⟨R.go, 0, none⟩)) ∧ W.cell? ⟨R.g, 1, none⟩ = some (.int .i64 e1.c.ind) := fun W hW =>
         have hb := hW.block R.g hgr fun e => n2 (Option.some.inj e)
         ⟨(World.cell?_of_block (a := ⟨R.g, 4, none⟩) hb).trans k4, (World.cell?_of_block (a := ⟨R.g, 1, none⟩) hb).trans k1⟩
        have HKP := Lib.hid hkp
        clear hB3r hRr hTr q1 q2 q3 q4 q5 hso hres hkp HQ HBR HO3 HB3 HRN HTN HK8 HAL
        go_wp2_with fail
        go_cut [129, 130, 131] (fun s129 s130 s131 wx => ∃ o c, s129 = .slice o (someL e1.s (e1.aroundL t) e1.c.ind).length c ∧ s130 = .int .i64 (someL e1.s (e1.aroundL t) e1.c.ind).length ∧ s131 = .int .i64 0 ∧ Hid (Ints wr.heap.size wx (.slice o (someL e1.s (e1.aroundL t) e1.c.ind).length c) (someL e1.s (e1.aroundL t) e1.c.ind)) ∧ Hid (RAt wx { R with sn := f } { e1 with s := (shufL e1.s (onceL (e1.aroundL t))).1 }) ∧ Hid (Touch (fun k => k ∈ R.own) w wx))
        case first =>
         as_aux_lemma =>
         go_region_held (fun w' => w'.cell? ⟨R.g, 4, none⟩ = some (.pointer (some ⟨R.go, 0, none⟩)) ∧ w'.cell? ⟨R.g, 1, none⟩ = some (.int .i64 e1.c.ind)) (first | exact ⟨k4, k1⟩ | exact ⟨j4, j1⟩) (first | (go_at_call 64; refine HSO.out.mono ?_; rintro e w7 ⟨v7, rfl, ho7, h17, h27, hg7⟩; obtain ⟨o7, c7, rfl⟩ := slAt_slice ho7.at; obtain ⟨j4, j1⟩ := HKP.out w7 hg7))
         all_goals
          go_wp2_with fail
          go_meet
          exact ⟨o7, c7, rfl, rfl, rfl, ho7, HRES.out w7 hg7 h17 h27, HTR.out.trans (Touch.of_grown (L := fun k => k ∈ R.own) (w := wr) ⟨hg7.os, hg7.tape, hg7.output, hg7.size, hg7.block⟩ (fun j hj => by cases hj; exact R.mem_go)) fun _ _ h => h⟩
        obtain ⟨o4, c4, rfl, rfl, rfl, HO4, HR4, HT4⟩ := hcut
        have hL8 : (someL e1.s (e1.aroundL t) e1.c.ind).length ≤ 8 := by
         have h1 : (someL e1.s (e1.aroundL t) e1.c.ind).length ≤ (onceL (e1.aroundL t)).length := by
          unfold someL
          rw [List.length_take, shufL_len]
          exact Nat.min_le_right _ _
         have h2 := onceL_len (e1.aroundL t)
         have h3 : (e1.aroundL t).length ≤ 8 := Nat.le_trans (List.length_filter_le _ _) (othersT_len _ _)
         omega
        have har2 : e1.around = ({ e1 with s := (shufL e1.s (onceL (e1.aroundL t))).1 }, (someL e1.s (e1.aroundL t) e1.c.ind).map fun n => Det.send { e1 with s := (shufL e1.s (onceL (e1.aroundL t))).1 } 3 n num t) := HAR.out
        have hok3 : DetOk { e1 with s := (shufL e1.s (onceL (e1.aroundL t))).1 } := HOK2.out.next _ _ HOK2.out.ws
        have hse := fun (W : World) (x : Int) (hW : Below wc.heap.size wc W) => rsend_any { R with sn := f } { e1 with s := (shufL e1.s (onceL (e1.aroundL t))).1 } 3 x num t W hok3 (HR4.out.below hW)
        have HAR2 := Lib.hid har2
        have HSE5 := Lib.hid hse
        have hk9 : wc.cell? ⟨R.g, 9, none⟩ = some (.int .i64 num) := by rw [← hsq]; exact HR4.out.cell 9
        have hk8 : wc.cell? ⟨R.g, 8, none⟩ = some (.int .i64 t) := by rw [← htg]; exact HR4.out.cell 8
        have HK9 := Lib.hid hk9
        have HK8 := Lib.hid hk8
        have hgc : R.g < wc.heap.size := HR4.out.lt
        clear har2 hok3 hse hk9 hk8 HAR HSO HKP HRES HTR hsq htg hfl9 k4 k1
        generalize someL e1.s (e1.aroundL t) e1.c.ind = L at *
        generalize ({ e1 with s := (shufL e1.s (onceL (e1.aroundL t))).1 } : Det) = e2 at *
        go_wp2_with fail
        go_loopg [3, 10, 131] L.length (fun gk s3 s10 s131 wr => ∃ (i : Nat) (oq : Option Addr) (cq : Nat) (ps : List PSent), s131 = .int .i64 i ∧ s3 = .slice oq ps.length cq ∧ i ≤ L.length ∧ L.length - i ≤ gk ∧ Hid (MsgsAt wc.heap.size wr (.slice oq ps.length cq) ps) ∧ Hid (ps.map (·.2) = (L.take i).map fun n => e2.send 3 n num t) ∧ Hid (Below wc.heap.size wc wr))
        case atStart => exact ⟨0, none, 0, [], rfl, rfl, Nat.zero_le _, Nat.le_refl _, MsgsAt.none _ _, rfl, Below.refl _ _⟩
        case round =>
         obtain ⟨i, oq, cq, ps, rfl, rfl, hi, hgk, HMS, HMP, HBW⟩ := hrel
         by_cases hlt : i < L.length
         ·have hltz : (i : Int) < (L.length : Int) := by omega
          have hsl := (HO4.out.at).below icells_len (by decide) HBW.out (Nat.le_refl _)
          obtain ⟨lb, loff, rfl⟩ := hsl.plain icells_len (by decide) (by intro e; rw [e] at hlt; exact absurd hlt (by simp))
          have cx := hsl.cell icells_len (i := i) (c := 0) hlt (by decide)
          replace cx : wr.cell? ⟨lb, loff + i, none⟩ = some (.int .i64 L[i]) := by
           have e : loff + (i * 1 + 0) = loff + i := by omega
           rw [e] at cx
           exact cx
          have htk : (L.take (i + 1)).map (fun n => e2.send 3 n num t) = (L.take i).map (fun n => e2.send 3 n num t) ++ [e2.send 3 L[i] num t] := by rw [List.take_succ_eq_append_getElem hlt, List.map_append]; rfl
          have hpl : ps.length = i := by have := congrArg List.length HMP.out; simp only [List.length_map, List.length_take] at this; omega
          have HTK := Lib.hid htk
          have HMP2 := Lib.hid HMP.out
          generalize L[i] = x at *
          have k9 : wr.cell? ⟨R.g, 9, none⟩ = some (.int .i64 num) := (HBW.out.cell (p := ⟨R.g, 9, none⟩) hgc).trans HK9.out
          have k8 : wr.cell? ⟨R.g, 8, none⟩ = some (.int .i64 t) := (HBW.out.cell (p := ⟨R.g, 8, none⟩) hgc).trans HK8.out
          have hB : wc.heap.size ≤ wr.heap.size := HBW.out.size
          have hgl : R.g < wr.heap.size := by omega
          have HSE : Hid (∀ W, Below wr.heap.size wr W → Calls Tryz.prog 65 #[.pointer (some ⟨R.g, 0, none⟩), .int .i64 3, .int .i64 x, .int .i64 num, .int .i64 t] W fun e w' => ∃ o c, e = .returned (sentV (e2.send 3 x num t) o c) ∧ Owns Mb.cells 3 W.heap.size 45 w' (.slice o (allT e2.tab).length c) (allT e2.tab) ∧ Below W.heap.size W w') := fun W hW => HSE5.out W x (HBW.out.trans (hW.mono HBW.out.size))
          clear htk hsl HSE5 HMP
          go_wp2_with fail
          clear cx
          refine tell_region_app (by kernel_rfl) [(135, fun v _ => v = .slice oq ps.length cq), (136, fun v _ => v = .pointer (some ⟨R.g, 0, none⟩)), (137, fun v _ => v = .int .i64 x), (138, fun v _ => v = .pointer (some ⟨R.g, 0, none⟩)), (139, fun v _ => v = .pointer (some ⟨R.g, 0, none⟩)), (140, fun v _ => v = .pointer (some ⟨R.g, 9, none⟩)), (141, fun v _ => v = .int .i64 num), (142, fun v _ => v = .pointer (some ⟨R.g, 0, none⟩)), (143, fun v _ => v = .pointer (some ⟨R.g, 0, none⟩)), (144, fun v _ => v = .pointer (some ⟨R.g, 8, none⟩)), (145, fun v _ => v = .int .i64 t), (146, fun v W => ∃ o c, v = sentV (e2.send 3 x num t) o c ∧ Owns Mb.cells 3 wc.heap.size 45 W (.slice o (allT e2.tab).length c) (allT e2.tab)), (147, fun v W => ∃ p : PSent, SlAt scells W v [p] ∧ p.2 = (e2.send 3 x num t) ∧ Owns Mb.cells 3 wc.heap.size 45 W p.1.val p.2.ms)] 13 rfl rfl (by show ([135, 136, 137, 138, 139, 140, 141, 142, 143, 144, 145, 146, 147] : List Nat).Nodup; decide) (by show ∀ d ∈ ([135, 136, 137, 138, 139, 140, 141, 142, 143, 144, 145, 146, 147] : List Nat), d < 257; decide) (by kernel_rfl) ?hmono ?hstep ?hall ⟨_, rfl, ⟨13, .phase⟩, by simp, rfl, rfl⟩ ?hend
          case hmono =>
           intro p hp
           simp only [List.mem_cons, List.not_mem_nil, or_false] at hp
           rcases hp with rfl | rfl | rfl | rfl | rfl | rfl | rfl | rfl | rfl | rfl | rfl | rfl | rfl
           ·exact lasts_pure _
           ·exact lasts_pure _
           ·exact lasts_pure _
           ·exact lasts_pure _
           ·exact lasts_pure _
           ·exact lasts_pure _
           ·exact lasts_pure _
           ·exact lasts_pure _
           ·exact lasts_pure _
           ·exact lasts_pure _
           ·exact lasts_pure _
           ·intro v W W' hb hh
            obtain ⟨o, c, h1, h2⟩ := hh
            exact ⟨o, c, h1, h2.below hb (Nat.le_refl _)⟩
           ·intro v W W' hb hh
            obtain ⟨p, h1, h2, h3⟩ := hh
            exact ⟨p, h1.below scells_len (by decide) hb (Nat.le_refl _), h2, h3.below hb (Nat.le_refl _)⟩
          case hstep =>
           intro i hi r w' hag hbel hn
           have hi2 : i < 13 := hi
           rcases (show i = 0 ∨ i = 1 ∨ i = 2 ∨ i = 3 ∨ i = 4 ∨ i = 5 ∨ i = 6 ∨ i = 7 ∨ i = 8 ∨ i = 9 ∨ i = 10 ∨ i = 11 ∨ i = 12 by omega) with rfl | rfl | rfl | rfl | rfl | rfl | rfl | rfl | rfl | rfl | rfl | rfl | rfl
           ·skip
            have e3 : r.eval (.tmp 3) = .slice oq ps.length cq := (hag.out 3 (by simp)).trans rfl
            exact leaves_val rfl rfl rfl (v := .slice oq ps.length cq) (by generalize r.eval = ρ at e3 ⊢; go_simp) (Below.refl _ _) rfl
           ·skip
            have e0 : r.eval (.tmp 0) = .pointer (some ⟨R.g, 0, none⟩) := (hag.out 0 (by simp)).trans rfl
            exact leaves_val rfl rfl rfl (v := .pointer (some ⟨R.g, 0, none⟩)) (by generalize r.eval = ρ at e0 ⊢; go_simp) (Below.refl _ _) rfl
           ·skip
            have e10 : r.eval (.tmp 10) = .int .i64 x := (hag.out 10 (by simp)).trans rfl
            exact leaves_val rfl rfl rfl (v := .int .i64 x) (by generalize r.eval = ρ at e10 ⊢; go_simp) (Below.refl _ _) rfl
           ·skip
            have e0 : r.eval (.tmp 0) = .pointer (some ⟨R.g, 0, none⟩) := (hag.out 0 (by simp)).trans rfl
            exact leaves_val rfl rfl rfl (v := .pointer (some ⟨R.g, 0, none⟩)) (by generalize r.eval = ρ at e0 ⊢; go_simp) (Below.refl _ _) rfl
           ·skip
            have e138 : r.eval (.tmp 138) = .pointer (some ⟨R.g, 0, none⟩) := hn 3 (by simp) ⟨_, rfl, ⟨3, .data⟩, by simp, rfl, rfl⟩
            exact leaves_val rfl rfl rfl (v := .pointer (some ⟨R.g, 0, none⟩)) (by generalize r.eval = ρ at e138 ⊢; go_simp) (Below.refl _ _) rfl
           ·skip
            have e139 : r.eval (.tmp 139) = .pointer (some ⟨R.g, 0, none⟩) := hn 4 (by simp) ⟨_, rfl, ⟨4, .data⟩, by simp, rfl, rfl⟩
            exact leaves_val rfl rfl rfl (v := .pointer (some ⟨R.g, 9, none⟩)) (by generalize r.eval = ρ at e139 ⊢; go_simp) (Below.refl _ _) rfl
           ·skip
            have e140 : r.eval (.tmp 140) = .pointer (some ⟨R.g, 9, none⟩) := hn 5 (by simp) ⟨_, rfl, ⟨5, .data⟩, by simp, rfl, rfl⟩
            have c9 : w'.cell? ⟨R.g, 9, none⟩ = some (.int .i64 num) := (hbel.cell (p := ⟨R.g, 9, none⟩) hgl).trans k9
            exact leaves_val rfl rfl rfl (v := .int .i64 num) (by generalize r.eval = ρ at e140 ⊢; go_simp) (Below.refl _ _) rfl
           ·skip
            have e0 : r.eval (.tmp 0) = .pointer (some ⟨R.g, 0, none⟩) := (hag.out 0 (by simp)).trans rfl
            exact leaves_val rfl rfl rfl (v := .pointer (some ⟨R.g, 0, none⟩)) (by generalize r.eval = ρ at e0 ⊢; go_simp) (Below.refl _ _) rfl
           ·skip
            have e142 : r.eval (.tmp 142) = .pointer (some ⟨R.g, 0, none⟩) := hn 7 (by simp) ⟨_, rfl, ⟨7, .data⟩, by simp, rfl, rfl⟩
            exact leaves_val rfl rfl rfl (v := .pointer (some ⟨R.g, 0, none⟩)) (by generalize r.eval = ρ at e142 ⊢; go_simp) (Below.refl _ _) rfl
           ·skip
            have e143 : r.eval (.tmp 143) = .pointer (some ⟨R.g, 0, none⟩) := hn 8 (by simp) ⟨_, rfl, ⟨8, .data⟩, by simp, rfl, rfl⟩
            exact leaves_val rfl rfl rfl (v := .pointer (some ⟨R.g, 8, none⟩)) (by generalize r.eval = ρ at e143 ⊢; go_simp) (Below.refl _ _) rfl
           ·skip
            have e144 : r.eval (.tmp 144) = .pointer (some ⟨R.g, 8, none⟩) := hn 9 (by simp) ⟨_, rfl, ⟨9, .data⟩, by simp, rfl, rfl⟩
            have c8 : w'.cell? ⟨R.g, 8, none⟩ = some (.int .i64 t) := (hbel.cell (p := ⟨R.g, 8, none⟩) hgl).trans k8
            exact leaves_val rfl rfl rfl (v := .int .i64 t) (by generalize r.eval = ρ at e144 ⊢; go_simp) (Below.refl _ _) rfl
           ·skip
            have e136 : r.eval (.tmp 136) = .pointer (some ⟨R.g, 0, none⟩) := hn 1 (by simp) ⟨_, rfl, ⟨1, .data⟩, by simp, rfl, rfl⟩
            have e137 : r.eval (.tmp 137) = .int .i64 x := hn 2 (by simp) ⟨_, rfl, ⟨2, .data⟩, by simp, rfl, rfl⟩
            have e141 : r.eval (.tmp 141) = .int .i64 num := hn 6 (by simp) ⟨_, rfl, ⟨6, .data⟩, by simp, rfl, rfl⟩
            have e145 : r.eval (.tmp 145) = .int .i64 t := hn 10 (by simp) ⟨_, rfl, ⟨10, .data⟩, by simp, rfl, rfl⟩
            have ec0 : r.eval (.const (.int .i64 3)) = .int .i64 3 := rfl
            have e136 : r.eval (.tmp 136) = .pointer (some ⟨R.g, 0, none⟩) := hn 1 (by simp) ⟨_, rfl, ⟨1, .data⟩, by simp, rfl, rfl⟩
            have e137 : r.eval (.tmp 137) = .int .i64 x := hn 2 (by simp) ⟨_, rfl, ⟨2, .data⟩, by simp, rfl, rfl⟩
            have e141 : r.eval (.tmp 141) = .int .i64 num := hn 6 (by simp) ⟨_, rfl, ⟨6, .data⟩, by simp, rfl, rfl⟩
            have e145 : r.eval (.tmp 145) = .int .i64 t := hn 10 (by simp) ⟨_, rfl, ⟨10, .data⟩, by simp, rfl, rfl⟩
            refine leaves_call (f := 65) (args := #[.pointer (some ⟨R.g, 0, none⟩), .int .i64 3, .int .i64 x, .int .i64 num, .int .i64 t]) rfl rfl rfl (by have ef : r.eval (.func 65) = .func (.func 65) #[] #[] := rfl; have ec : r.eval (.const (.int .i64 3)) = .int .i64 3 := rfl; generalize r.eval = ρ at ef ec e136 e137 e141 e145 ⊢; go_simp) (HSE.out w' hbel) ?_
            rintro e2 w2 ⟨o, c, rfl, ho, hb⟩
            exact ⟨_, rfl, hb, o, c, rfl, ho.lower (Nat.le_trans hB hbel.size)⟩
           ·skip
            obtain ⟨o, c, e146, ho⟩ : ∃ o c, r.eval (.tmp 146) = sentV (e2.send 3 x num t) o c ∧ Owns Mb.cells 3 wc.heap.size 45 w' (.slice o (allT e2.tab).length c) (allT e2.tab) := hn 11 (by simp) ⟨_, rfl, ⟨11, .data⟩, by simp, rfl, rfl⟩
            unfold sentV Det.send at e146
            dsimp only at e146
            exact leaves_val rfl rfl rfl (v := .slice (some ⟨w'.heap.size, 0, none⟩) 1 1) (w' := w'.alloc (.cells (scells (⟨o, (allT e2.tab).length, c⟩, (e2.send 3 x num t))).toArray 42)) (by unfold scells Det.send Hdr.val; dsimp only; generalize r.eval = ρ at e146 ⊢; go_simp) ((Below.refl _ _).alloc (Nat.le_refl _) _) ⟨(⟨o, (allT e2.tab).length, c⟩, (e2.send 3 x num t)), (owns_new scells_len w' _ 42 [((⟨o, (allT e2.tab).length, c⟩ : Hdr), (e2.send 3 x num t))] (by simp) (by simp)).at, rfl, ho.below ((Below.refl _ _).alloc (Nat.le_refl _) _) (Nat.le_refl _)⟩
          case hall =>
           intro L hcl hn j hj
           have h0 : L 0 = true := hn 0 ⟨_, rfl, ⟨0, .data⟩, by simp, rfl, rfl⟩
           have h12 : L 12 = true := hn 12 ⟨_, rfl, ⟨12, .data⟩, by simp, rfl, rfl⟩
           have h11 : L 11 = true := hn 11 ⟨_, rfl, ⟨11, .chain⟩, by simp, rfl, rfl⟩
           have h1 : L 1 = true := hcl 11 1 h11 ⟨_, rfl, ⟨1, .data⟩, by simp, rfl, rfl⟩
           have h2 : L 2 = true := hcl 11 2 h11 ⟨_, rfl, ⟨2, .data⟩, by simp, rfl, rfl⟩
           have h6 : L 6 = true := hcl 11 6 h11 ⟨_, rfl, ⟨6, .data⟩, by simp, rfl, rfl⟩
           have h10 : L 10 = true := hcl 11 10 h11 ⟨_, rfl, ⟨10, .data⟩, by simp, rfl, rfl⟩
           have h5 : L 5 = true := hcl 6 5 h6 ⟨_, rfl, ⟨5, .data⟩, by simp, rfl, rfl⟩
           have h9 : L 9 = true := hcl 10 9 h10 ⟨_, rfl, ⟨9, .data⟩, by simp, rfl, rfl⟩
           have h4 : L 4 = true := hcl 5 4 h5 ⟨_, rfl, ⟨4, .data⟩, by simp, rfl, rfl⟩
           have h8 : L 8 = true := hcl 9 8 h9 ⟨_, rfl, ⟨8, .data⟩, by simp, rfl, rfl⟩
           have h3 : L 3 = true := hcl 4 3 h4 ⟨_, rfl, ⟨3, .data⟩, by simp, rfl, rfl⟩
           have h7 : L 7 = true := hcl 8 7 h8 ⟨_, rfl, ⟨7, .data⟩, by simp, rfl, rfl⟩
           rcases (show j = 0 ∨ j = 1 ∨ j = 2 ∨ j = 3 ∨ j = 4 ∨ j = 5 ∨ j = 6 ∨ j = 7 ∨ j = 8 ∨ j = 9 ∨ j = 10 ∨ j = 11 ∨ j = 12 by omega) with rfl | rfl | rfl | rfl | rfl | rfl | rfl | rfl | rfl | rfl | rfl | rfl | rfl
           ·exact h0
           ·exact h1
           ·exact h2
           ·exact h3
           ·exact h4
           ·exact h5
           ·exact h6
           ·exact h7
           ·exact h8
           ·exact h9
           ·exact h10
           ·exact h11
           ·exact h12
          case hend =>
           intro r w' hag hbel hall
           have e135 : r.eval (.tmp 135) = .slice oq ps.length cq := hall 0 (by simp)
           obtain ⟨p, hp1, hp2, hp3⟩ : ∃ p : PSent, SlAt scells w' (r.eval (.tmp 147)) [p] ∧ p.2 = (e2.send 3 x num t) ∧ Owns Mb.cells 3 wc.heap.size 45 w' p.1.val p.2.ms := hall 12 (by simp)
           refine step_app_op (d := 148) scells 16 scells_len (by decide) scells_one rfl rfl rfl (.tmp 135) (.tmp 147) 34 rfl wc.heap.size 42 _ 176 Tryz.underlying34 infoMsg rfl _ ps e135 (HMS.out.1.below hbel (Nat.le_refl _)) _ [p] rfl hp1 (by simp only [List.length_singleton]; omega) (by simp only [List.length_singleton]; omega) (Nat.le_trans hB hbel.size) ?_
           intro v2 w2 hown2 hg2 hv2
           have e148 : (r.put (some 148) v2).eval (.tmp 148) = v2 := eval_put_same v2 (by rw [hag.size]; show 148 < 257; decide)
           refine step_val (d := 3) (v := v2) (w' := w2) rfl rfl rfl (by generalize (r.put (some 148) v2).eval = ρ at e148 ⊢; go_simp) ?_
           have hfin := Ag.final _ (by show ∀ d ∈ ([135, 136, 137, 138, 139, 140, 141, 142, 143, 144, 145, 146, 147] : List Nat), d < 257; decide) hag
           simp only [List.map, List.foldl] at hfin
           generalize r.eval (.tmp 135) = y135 at hfin
           generalize r.eval (.tmp 136) = y136 at hfin
           generalize r.eval (.tmp 137) = y137 at hfin
           generalize r.eval (.tmp 138) = y138 at hfin
           generalize r.eval (.tmp 139) = y139 at hfin
           generalize r.eval (.tmp 140) = y140 at hfin
           generalize r.eval (.tmp 141) = y141 at hfin
           generalize r.eval (.tmp 142) = y142 at hfin
           generalize r.eval (.tmp 143) = y143 at hfin
           generalize r.eval (.tmp 144) = y144 at hfin
           generalize r.eval (.tmp 145) = y145 at hfin
           generalize r.eval (.tmp 146) = y146 at hfin
           generalize r.eval (.tmp 147) = y147 at hfin
           obtain ⟨oz, cz, rfl⟩ := slAt_slice hown2.at
           have hgrow : Below wc.heap.size wc w2 := ((HBW.out.trans (hbel.mono HBW.out.size))).grown hg2 (by have := hbel.size; omega) fun k hk => (HMS.out.1.lt k hk).1
           have hmm := msgs_app (ms := [p]) (⟨HMS.out.1.below hbel (Nat.le_refl _), fun q hq => (HMS.out.2 q hq).below hbel (Nat.le_refl _)⟩ : MsgsAt wc.heap.size w' (.slice oq ps.length cq) ps) (fun q hq => by rw [List.mem_singleton] at hq; subst hq; exact hp3) hown2 hg2
           have HM2 : Hid (MsgsAt wc.heap.size w2 (.slice oz (ps ++ [p]).length cz) (ps ++ [p])) := hmm
           have HP2 : Hid ((ps ++ [p]).map (·.2) = (L.take (i + 1)).map fun n => e2.send 3 n num t) := by
            show (ps ++ [p]).map (·.2) = _
            rw [List.map_append, HMP2.out, HTK.out]
            simp [hp2]
           have HBX := Lib.hid hgrow
           clear hgrow hmm hown2 hg2 hv2 hp1 hp2 hp3 e148 e135 hall hag hbel
           subst hfin
           simp only [Act.put, List.setIfInBounds_toArray, List.set_cons_succ, List.set_cons_zero]
           go_wp2_with fail
           go_roundg (L.length - (i + 1))
           case measure => omega
           case rel => exact ⟨i + 1, oz, cz, ps ++ [p], by go_num, rfl, by omega, Nat.le_refl _, HM2.out, HP2.out, HBX.out⟩
         ·have hltz : ¬ (i : Int) < (L.length : Int) := by omega
          obtain rfl : i = L.length := by omega
          rw [List.take_length] at HMP
          have hr : RMid R e1.around.1 e1.around.2 w (.slice oq ps.length cq) wr := by
           rw [HAR2.out]
           refine ⟨{ R with sn := f }, ps, HR4.out.below HBW.out, HMS.out.lower (HT4.out.size), HMP.out, fun b hb hm => ?_, ⟨rfl, rfl, rfl, fun k hk => .inl hk⟩, HT4.out.trans (Touch.of_below (L := fun k => k ∈ R.own) HBW.out (Nat.le_refl _)) fun _ _ h => h⟩
           have h1 := (HMS.out.blk b hb).1
           have h2 := HR4.out.own_lt b hm
           omega
          have HRR := Lib.hid hr
          clear hr HMS HMP HBW HAR2 HSE5 HO4 HR4 HT4 HK8 HK9
          go_wp2_with fail
          go_meet
          exact HRR.out
    case rest =>
     go_step
     exact rtick_tail R d e1 w wc HTK2 HOK2 HSO2 HN2 hcut
end Go.Proofs.YtejihgfigclppaaGreat
