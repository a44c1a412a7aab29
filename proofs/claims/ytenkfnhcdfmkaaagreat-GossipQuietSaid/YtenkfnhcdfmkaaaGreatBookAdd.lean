/-
  A book's New and Add walked.
-/
import Derived.Test.YtenkfnhcdfmkaaaGreatMBookQ
import Derived.Maps.Own
import Derived.Deep.DeepCutAuto
namespace Go.Proofs.YtenkfnhcdfmkaaaGreat
open Go.Shelf Go.RowKit Go.Lib Go.Sort
set_option linter.unusedVariables false
theorem bookNew_any (w : World) : Calls Tryz.prog 34 #[] w fun e w' => ∃ bb ms mh B, e = .returned (.pointer (some ⟨bb, 0, none⟩)) ∧ BookAt w' bb ms mh B BookS.new ∧ Below w.heap.size w w' ∧ w.heap.size ≤ bb ∧ w.heap.size ≤ ms ∧ w.heap.size ≤ mh := by
  have hmm := @run_makeMap Tryz.prog
  go_enter Tryz.func34, Tryz.ntmps34
  go_wp2_with fail
  go_ret
  obtain ⟨h0, h1, h2, hb, hsz⟩ := alloc3 w (.map #[] 0) (.map #[] 0) (.cells #[.map (some w.heap.size), .map (some (w.heap.size + 1)), .int .i64 0] 96)
  refine ⟨w.heap.size + 1 + 1, w.heap.size, w.heap.size + 1, w.heap.size + 1 + 1 + 1, rfl, ⟨by omega, by omega, by omega, by omega, by omega, by omega, by rw [hsz]; omega, h2, ⟨[], (DotMapAt.made w).keep (h0.trans (heap_alloc_new w _).symm), fun d v => ⟨(fun h => nomatch h), fun h => nomatch h.2.2⟩⟩, ⟨[], [], ?_, rfl, fun d v => ⟨(fun h => nomatch h), fun ⟨_, h, _⟩ => nomatch h⟩, fun _ h => nomatch h⟩, fun _ h => nomatch h⟩, hb, by omega, by omega, by omega⟩
  have := DotMapAt.made (w.alloc (.map #[] 0))
  rw [World.size_alloc] at this
  refine this.keep (h1.trans ?_)
  have h3 := heap_alloc_new (w.alloc (.map #[] 0)) (.map #[] 0)
  rw [World.size_alloc] at h3
  exact h3.symm
theorem slAt_turns {W W' : World} {bb ms mh : Nat} {v : Value} {l : List Dot} (h : SlAt Dot.cells W v l) (ht : Turns3 bb ms mh W W') (hne : l = [] ∨ ∀ b, v.ownBlock = some b → b ≠ bb ∧ b ≠ ms ∧ b ≠ mh) : SlAt Dot.cells W' v l := by
  refine h.keep ?_
  by_cases hl : l = []
  · exact .inl hl
  · refine .inr fun b hb => ?_
    obtain ⟨h1, h2, h3⟩ := hne.resolve_left hl b hb
    exact ht.block b (h.lt Dot.cells_len (by decide) hl b hb) h1 h2 h3
theorem seeFold_take (S : BookS) (l : List Dot) (i : Nat) (hi : i < l.length) : (l.take (i + 1)).foldl seeB S = seeB ((l.take i).foldl seeB S) l[i] := by
  rw [List.take_succ_eq_append_getElem hi, List.foldl_append]; rfl
def insP (p : PEv) : List PEv → List PEv
  | [] => [p]
  | x :: l => if Before x.2.dot p.2.dot then x :: insP p l else p :: x :: l
theorem insP_map (p : PEv) : ∀ l : List PEv, (insP p l).map (·.2) = insEv p.2 (l.map (·.2))
  | [] => rfl
  | x :: l => by
    unfold insP
    rw [List.map_cons]
    unfold insEv
    split
    · rw [List.map_cons, insP_map p l]
    · rfl
theorem mem_insP {p x : PEv} : ∀ {l : List PEv}, x ∈ insP p l ↔ x = p ∨ x ∈ l
  | [] => by simp [insP]
  | y :: l => by
    unfold insP
    split
    · rw [List.mem_cons, mem_insP (l := l), List.mem_cons]
      constructor
      · rintro (h | h | h)
        · exact .inr (.inl h)
        · exact .inl h
        · exact .inr (.inr h)
      · rintro (h | h | h)
        · exact .inr (.inl h)
        · exact .inl h
        · exact .inr (.inr h)
    · rw [List.mem_cons]
theorem BookAt.laid {W W' : World} {bb ms mh B : Nat} {S : BookS} (h : BookAt W bb ms mh B S) {hd : Hdr} {ev : Ev} (hm : May ev.dot) (hno : ∀ x ∈ S.holds, x.dot ≠ ev.dot) {Eh : List (Dot × Value)} {hs : List PEv} (h2 : hs.map (·.2) = S.holds) (h3 : ∀ d v, (d, v) ∈ Eh ↔ ∃ p, p ∈ hs ∧ d = p.2.dot ∧ v = evVal p) (h4 : ∀ p, p ∈ hs → Owns Dot.cells 2 B 40 W p.1.val p.2.rem)
    (ho : Owns Dot.cells 2 B 40 W hd.val ev.rem) (hmp : DotMapAt W' mh (putE Eh ev.dot (evVal (hd, ev)))) (hg : W.grownBy W' (some mh)) : BookAt W' bb ms mh B ⟨S.saw, insEv ev S.holds, S.time⟩ := by
  have hk : ∀ i, i < W.heap.size → i ≠ mh → W'.heap[i]? = W.heap[i]? := fun i hi hne => hg.block i hi (fun e => hne (Option.some.inj e))
  have h0 := h.size
  have hlh := h.lth
  refine ⟨h.ltb, h.lts, h.lth, h.nbs, h.nbh, h.nsh, Nat.le_trans h.size hg.size, (hk _ (by have := h.ltb; omega) h.nbh).trans h.obj, ?_, ⟨_, insP (hd, ev) hs, hmp, ?_, fun x v => ?_, fun p hp => ?_⟩, fun e he => ?_⟩
  · obtain ⟨Es, h5, h6⟩ := h.seen
    exact ⟨Es, h5.keep (hk _ (by have := h.lts; omega) h.nsh), h6⟩
  · rw [insP_map, h2]
  · rw [mem_putE, h3]
    constructor
    · rintro (⟨rfl, rfl⟩ | ⟨⟨p, hp, rfl, rfl⟩, _⟩)
      · exact ⟨(hd, ev), mem_insP.2 (.inl rfl), rfl, rfl⟩
      · exact ⟨p, mem_insP.2 (.inr hp), rfl, rfl⟩
    · rintro ⟨p, hp, rfl, rfl⟩
      rcases mem_insP.1 hp with rfl | hp
      · exact .inl ⟨rfl, rfl⟩
      · exact .inr ⟨⟨p, hp, rfl, rfl⟩, hno p.2 (by rw [← h2]; exact List.mem_map_of_mem hp)⟩
  · have key : Owns Dot.cells 2 B 40 W p.1.val p.2.rem := by
      rcases mem_insP.1 hp with rfl | hp
      · exact ho
      · exact h4 p hp
    exact key.keep fun g hg => hk g (key.lt g hg).2 (by have := (key.lt g hg).1; omega)
  · rcases mem_insEv.1 he with rfl | he
    · exact hm
    · exact h.may e he
theorem BookAt.clocked {W : World} {bb ms mh B : Nat} {S : BookS} (h : BookAt W bb ms mh B S) (t : Int) : BookAt (W.setCell ⟨bb, 2, none⟩ (.int .i64 t)) bb ms mh B ⟨S.saw, S.holds, t⟩ := by
  have hk : ∀ i, i ≠ bb → (W.setCell ⟨bb, 2, none⟩ (.int .i64 t)).heap[i]? = W.heap[i]? := fun i hne => Below.heap_setCell _ _ _ _ (by show i ≠ bb; exact hne)
  have hlb := h.ltb
  refine ⟨h.ltb, h.lts, h.lth, h.nbs, h.nbh, h.nsh, by simpa using h.size, ?_, ?_, ?_, h.may⟩
  · have := heap_setCell_same W bb 2 _ _ (.int .i64 t) h.obj
    exact this
  · obtain ⟨Es, h5, h6⟩ := h.seen
    exact ⟨Es, h5.keep (hk _ (fun e => h.nbs e.symm)), h6⟩
  · obtain ⟨Eh, hs, h1, h2, h3, h4⟩ := h.holds
    exact ⟨Eh, hs, h1.keep (hk _ (fun e => h.nbh e.symm)), h2, h3, fun p hp => (h4 p hp).keep fun g hg => hk g (by have := ((h4 p hp).lt g hg).1; omega)⟩
theorem maxI_max (a b : Int) : maxI a b = max a b := by unfold maxI; rw [Int.max_def]; split <;> split <;> omega
set_option maxHeartbeats 8000000 in
theorem bookAdd_any (bb ms mh B : Nat) (S : BookS) (hd : Hdr) (ev : Ev) (w : World) (h : BookAt w bb ms mh B S) (hs : SlAt Dot.cells w hd.val ev.rem) (hl : ev.rem.length ≤ 1000000) (hne : ev.rem = [] ∨ ∀ b, hd.val.ownBlock = some b → b ≠ bb ∧ b ≠ ms ∧ b ≠ mh) (ht : -1000000000000000 ≤ S.time ∧ S.time ≤ 1000000000000000) :
    Calls Tryz.prog 15 #[.pointer (some ⟨bb, 0, none⟩), .agg #[.int .i64 ev.dot.node, .int .i64 ev.dot.seq, .int .i64 ev.time, .int .i64 ev.kind, .int .i64 ev.work, .int .i64 ev.value, .int .i64 ev.pol.mn, .int .i64 ev.pol.mx, .int .i64 ev.pol.goal, .int .i64 ev.pol.slack, .int .i64 ev.pol.up, .int .i64 ev.pol.down, .int .i64 ev.pol.cool, hd.val]] w fun e w' => e = .returned (.int .i64 (addB S ev).1) ∧ BookAt w' bb ms mh B (addB S ev).2 ∧ Turns3 bb ms mh w w' := by
  obtain ⟨ra, rn, rc⟩ := hd
  obtain ⟨ra', rc', hv, _⟩ := hs.slice_of
  simp only [Hdr.val, Value.slice.injEq] at hv hs hne ⊢
  obtain ⟨rfl, rfl, rfl⟩ := hv
  have hb1 := (Below.refl w.heap.size w).alloc (Nat.le_refl _) (.cells #[.int .i64 ev.dot.node, .int .i64 ev.dot.seq, .int .i64 ev.time, .int .i64 ev.kind, .int .i64 ev.work, .int .i64 ev.value, .int .i64 ev.pol.mn, .int .i64 ev.pol.mx, .int .i64 ev.pol.goal, .int .i64 ev.pol.slack, .int .i64 ev.pol.up, .int .i64 ev.pol.down, .int .i64 ev.pol.cool, .slice ra ev.rem.length rc] 44)
  have hrow : (w.alloc (.cells #[.int .i64 ev.dot.node, .int .i64 ev.dot.seq, .int .i64 ev.time, .int .i64 ev.kind, .int .i64 ev.work, .int .i64 ev.value, .int .i64 ev.pol.mn, .int .i64 ev.pol.mx, .int .i64 ev.pol.goal, .int .i64 ev.pol.slack, .int .i64 ev.pol.up, .int .i64 ev.pol.down, .int .i64 ev.pol.cool, .slice ra ev.rem.length rc] 44)).heap[w.heap.size]? = some (.cells #[.int .i64 ev.dot.node, .int .i64 ev.dot.seq, .int .i64 ev.time, .int .i64 ev.kind, .int .i64 ev.work, .int .i64 ev.value, .int .i64 ev.pol.mn, .int .i64 ev.pol.mx, .int .i64 ev.pol.goal, .int .i64 ev.pol.slack, .int .i64 ev.pol.up, .int .i64 ev.pol.down, .int .i64 ev.pol.cool, .slice ra ev.rem.length rc] 44) := heap_alloc_new w _
  have hrt := evRight_any ⟨ra, ev.rem.length, rc⟩ ev _ (hs.below Dot.cells_len (by decide) hb1 (Nat.le_refl _)) hl
  simp only [Hdr.val] at hrt
  have HRT := Lib.hid hrt
  have HROW := Lib.hid hrow
  have HB1 := Lib.hid hb1
  have HS := Lib.hid hs
  have HBK := Lib.hid h
  have HNE := Lib.hid hne
  clear hrt hrow hb1 hs h hne
  go_enter Tryz.func15, Tryz.ntmps15
  go_wp2_with fail
  refine HRT.out.mono ?_
  rintro e w2 ⟨rfl, hb2⟩
  have hb12 := HB1.out.trans (hb2.mono HB1.out.size)
  have hrow2 := (hb2.block _ (by simp)).trans HROW.out
  have hbk2 := HBK.out.below hb12 (Nat.le_refl _)
  have HB2 := Lib.hid hb12
  have hszw : w.heap.size < w2.heap.size := (Array.getElem?_eq_some_iff.1 hrow2).1
  have hszB := HBK.out.size
  clear hb12 hb2 HRT HROW HB1
  by_cases hr : RightEv ev
  · have hrb : rightEvB ev = true := decide_eq_true hr
    simp only [hrb]
    have hlk := fun n => (hbk2.below (below_drewN w2 n) (Nat.le_refl _)).seenE (d := ev.dot) hr.1 93 Tryz.underlying93
    unfold dotVal at hlk
    obtain ⟨sb, hsb⟩ : ∃ sb, S.sees ev.dot = sb := ⟨_, rfl⟩
    rw [hsb] at hlk
    have c0 : w2.cell? ⟨bb, 0, none⟩ = some (.map (some ms)) := cell_of_row _ bb 0 _ _ _ hbk2.obj
    obtain ⟨e0, e1, e2, e3, e4, e5, e6, e7, e8, e9, e10, e11, e12, e13⟩ := ev_row hrow2
    cases sb with
    | true =>
      have hres : addB S ev = (9, S) := by unfold addB; rw [if_pos hr, hsb]; rfl
      have HRES := Lib.hid hres
      have HBK2 := Lib.hid hbk2
      clear hrb hr hsb hres hbk2 hrow2
      go_wp2_with fail
      go_quiet (fail)
      go_wp2_with fail
      go_ret
      rw [HRES.out]
      exact ⟨rfl, HBK2.out.below (below_drewN w2 nq) (Nat.le_refl _), (Turns3.of_below HB2.out).trans (Turns3.of_below (below_drewN w2 nq))⟩
    | false =>
      have hres : addB S ev = (0, takeB S ev) := by unfold addB; rw [if_pos hr, hsb]; rfl
      have HRES := Lib.hid hres
      have HBK2 := Lib.hid hbk2
      have HR := Lib.hid hr
      have HROW2 := Lib.hid hrow2
      clear hrb hr hsb hres hbk2 hrow2
      go_wp2_with fail
      go_quiet (fail)
      clear hlk
      go_wp2_with fail
      have eg : ∀ args w, (callFunc 54 args).run Tryz.prog w = .ok (.enter 54 args) w := enters_of Tryz.func54 (by kernel_rfl) rfl
      refine (see_any bb ms mh B S ev.dot HR.out.1 (w2.drewN nq) (HBK2.out.below (below_drewN w2 nq) (Nat.le_refl _))).mono ?_
      rintro e w3 ⟨rfl, hbk3, ht3⟩
      have hlb := hbk3.ltb
      have hls := hbk3.lts
      have hlh := hbk3.lth
      have hrow3 := (ht3.block w.heap.size hszw (by omega) (by omega) (by omega)).trans HROW2.out
      have hsl3 := slAt_turns ((HS.out.below Dot.cells_len (by decide) HB2.out (Nat.le_refl _)).below Dot.cells_len (by decide) (below_drewN w2 nq) (Nat.le_refl _)) ht3 HNE.out
      have hea := beach_any 54 #[.pointer (some ⟨bb, 0, none⟩)] #[] eg ra rc ev.rem (fun i W => BookAt W bb ms mh B ((ev.rem.take i).foldl seeB (seeB S ev.dot)) ∧ Turns3 bb ms mh w3 W)
        ⟨fun i hi W hI => (see_any bb ms mh B _ ev.rem[i] (HR.out.2.2.2.2.1.1 _ (List.getElem_mem hi)).1 W hI.1).mono fun e w' ⟨h1, h2, h3⟩ => ⟨h1, by rw [seeFold_take _ _ _ hi]; exact h2, hI.2.trans h3⟩,
         fun i W W' hI hb => ⟨hI.1.below hb (Nat.le_refl _), hI.2.trans (Turns3.of_below hb)⟩⟩
        (fun i W hI => slAt_turns hsl3 hI.2 HNE.out) hl w3 ⟨hbk3, Turns3.refl _ _ _ _⟩
      rw [List.take_length] at hea
      have HEA := Lib.hid hea
      have e13' : w3.cell? ⟨w.heap.size, 13, none⟩ = some (.slice ra ev.rem.length rc) := (ev_row hrow3).2.2.2.2.2.2.2.2.2.2.2.2.2
      have HT3 := Lib.hid ((Turns3.of_below (HB2.out.trans ((below_drewN w2 nq).mono HB2.out.size))).trans ht3)
      have HSL3 := Lib.hid hsl3
      have HROW3 := Lib.hid hrow3
      have hsz3 := ht3.size
      clear hea ht3 hbk3 hrow3 hsl3 eg c0 e0 e1 e2 e3 e4 e5 e6 e7 e8 e9 e10 e11 e12 e13 HROW2 HBK2
      go_wp2_with fail
      refine HEA.out.mono ?_
      rintro e w4 ⟨rfl, hbk4, ht4⟩
      have hrow4 := (ht4.block w.heap.size (Nat.lt_of_lt_of_le hszw hsz3) (by omega) (by omega) (by omega)).trans HROW3.out
      have hsl4 := slAt_turns HSL3.out ht4 HNE.out
      have HT4 := Lib.hid (HT3.out.trans ht4)
      have hsz4 := ht4.size
      have hT : takeB S ev = ⟨(ev.rem.foldl seeB (seeB S ev.dot)).saw, insEv ev (ev.rem.foldl seeB (seeB S ev.dot)).holds, maxI (ev.rem.foldl seeB (seeB S ev.dot)).time ev.time⟩ := rfl
      have hall := seeAll (ev.dot :: ev.rem) S (fun d hd => by
        rcases List.mem_cons.1 hd with rfl | hd
        · exact HR.out.1
        · exact (HR.out.2.2.2.2.1.1 d hd).1)
      rw [List.foldl_cons] at hall
      obtain ⟨_, hh4, htm4, _, _⟩ := hall
      have hno4 : ∀ x ∈ (ev.rem.foldl seeB (seeB S ev.dot)).holds, x.dot ≠ ev.dot := fun x hx e => ((hh4 x).1 hx).2 (by rw [e]; exact List.mem_cons_self)
      generalize ev.rem.foldl seeB (seeB S ev.dot) = S4 at *
      have htR := HR.out.2.1
      have hbk4d := hbk4.below (below_drew (Below.refl w4.heap.size w4)) (Nat.le_refl _)
      have c1 : w4.drew.cell? ⟨bb, 1, none⟩ = some (.map (some mh)) := cell_of_row _ bb 1 _ _ _ hbk4d.obj
      have hrow4d : w4.drew.heap[w.heap.size]? = _ := hrow4
      obtain ⟨e0, e1, e2, e3, e4, e5, e6, e7, e8, e9, e10, e11, e12, e13⟩ := ev_row hrow4d
      have how := own_any ⟨ra, ev.rem.length, rc⟩ ev w4.drew (hsl4.below Dot.cells_len (by decide) (below_drew (Below.refl w4.heap.size w4)) (Nat.le_refl _)) hl
      simp only [Hdr.val] at how
      have HOW := Lib.hid how
      have HROW4 := Lib.hid hrow4d
      have HBK4 := Lib.hid hbk4d
      have HNO := Lib.hid hno4
      have HTT := Lib.hid hT
      have HRES2 := Lib.hid (show addB S ev = (0, ⟨S4.saw, insEv ev S4.holds, maxI S4.time ev.time⟩) from by rw [HRES.out, hT])
      have hszw4 : w.heap.size < w4.heap.size := (Array.getElem?_eq_some_iff.1 hrow4).1
      rw [← htm4] at ht
      clear how hrow4 hrow4d hsl4 hbk4 hbk4d hno4 hT htm4 hh4 HEA HSL3 HROW3 HRES e13' ht4
      go_wp2_with fail
      go_cut [36] (fun s36 wx => Hid (BookAt wx bb ms mh B ⟨S4.saw, insEv ev S4.holds, S4.time⟩) ∧ Hid (Turns3 bb ms mh w4 wx))
      case first =>
       go_region_law (first
        | (go_simp
           refine HOW.out.mono ?_
           rintro e w5 ⟨⟨oa, on, oc⟩, rfl, hown5, hb5⟩
           have hbk5 := HBK4.out.below hb5 (Nat.le_refl _)
           have hrow5 := (hb5.block w.heap.size hszw4).trans HROW4.out
           have f1 : w5.cell? ⟨bb, 1, none⟩ = some (.map (some mh)) := cell_of_row _ bb 1 _ _ _ hbk5.obj
           obtain ⟨f0, f1', _, _, _, _, _, _, _, _, _, _, _, _⟩ := ev_row hrow5
           have hown5' := hown5.lower (base' := B) (by show B ≤ w4.heap.size; omega)
           have hlaid : ∃ w6, (Instr.mapUpdate 94 (.map (some mh)) (.agg #[.int .i64 ev.dot.node, .int .i64 ev.dot.seq]) (.agg #[.int .i64 ev.dot.node, .int .i64 ev.dot.seq, .int .i64 ev.time, .int .i64 ev.kind, .int .i64 ev.work, .int .i64 ev.value, .int .i64 ev.pol.mn, .int .i64 ev.pol.mx, .int .i64 ev.pol.goal, .int .i64 ev.pol.slack, .int .i64 ev.pol.up, .int .i64 ev.pol.down, .int .i64 ev.pol.cool, .slice oa on oc])).run Tryz.prog w5 = .ok () w6 ∧ BookAt w6 bb ms mh B ⟨S4.saw, insEv ev S4.holds, S4.time⟩ ∧ Turns3 bb ms mh w4 w6 := by
             obtain ⟨Eh, hs, k1, k2, k3, k4⟩ := hbk5.holds
             have hlen := entries_len k1 fun p hp => by obtain ⟨q, hq, h1, _⟩ := (k3 p.1 p.2).1 hp; rw [h1]; exact hbk5.may q.2 (by rw [← k2]; exact List.mem_map_of_mem hq)
             obtain ⟨w6, g1, g2, g3⟩ := k1.store Tryz.underlying94 (by omega) (may_fits HR.out.1) (evVal (⟨oa, on, oc⟩, ev))
             exact ⟨w6, g1, hbk5.laid HR.out.1 HNO.out k2 k3 k4 hown5' g2 g3, (Turns3.of_below ((below_drew (Below.refl w4.heap.size w4)).trans hb5)).trans (Turns3.of_grown g3 (.inr (.inr rfl)))⟩
           obtain ⟨w6, hrun6, hbk6, ht6⟩ := hlaid
           have HBK6 := Lib.hid hbk6
           have HT6 := Lib.hid ht6
           clear hbk5 hrow5 hown5 hown5' hb5 hbk6 ht6))
       all_goals
        go_wp2_with fail
        go_meet
        exact ⟨HBK6.out, HT6.out⟩
      case rest =>
       obtain ⟨HBK6, HT6⟩ := hcut
       have hrow6 := (HT6.out.block w.heap.size hszw4 (by omega) (by omega) (by omega)).trans HROW4.out
       have hrow6d : wc.drew.heap[w.heap.size]? = _ := hrow6
       have hob6 : wc.drew.heap[bb]? = _ := HBK6.out.obj
       have t6 : wc.drew.cell? ⟨w.heap.size, 1 + 1, none⟩ = some (.int .i64 ev.time) := (ev_row hrow6d).2.2.1
       have k6 : wc.drew.cell? ⟨bb, 2, none⟩ = some (.int .i64 S4.time) := cell_of_row _ bb 2 _ _ _ hob6
       have z6 : wc.drew.frozen? ⟨bb, 2, none⟩ = false := by unfold World.frozen?; rw [hob6]; simp
       clear hrow6 hrow6d hob6 c1 e0 e1 e2 e3 e4 e5 e6 e7 e8 e9 e10 e11 e12 e13 HOW HROW4 HTT HNO
       go_wp2_with fail
       go_region_law (fail)
       all_goals
        go_wp2_with fail
        go_ret
        rw [HRES2.out, maxI_max]
        refine ⟨rfl, (HBK6.out.clocked (max S4.time ev.time)).below (below_drew (Below.refl _ _)) (Nat.le_refl _), ?_⟩
        refine HT4.out.trans (HT6.out.trans ⟨rfl, rfl, rfl, by simp, fun i hi h1 _ _ => ?_⟩)
        exact Below.heap_setCell wc ⟨bb, 2, none⟩ _ _ (by show i ≠ bb; exact h1)
  · have hrb : rightEvB ev = false := decide_eq_false hr
    simp only [hrb]
    have hres : addB S ev = (2, S) := by unfold addB; rw [if_neg hr]
    have HRES := Lib.hid hres
    have HBK2 := Lib.hid hbk2
    clear hrb hr hres hbk2 hrow2
    go_wp2_with fail
    go_ret
    rw [HRES.out]
    exact ⟨rfl, HBK2.out, Turns3.of_below HB2.out⟩
end Go.Proofs.YtenkfnhcdfmkaaaGreat
