/-
  The function value that Newer walks with.
  (*book.Book).Events walked.
  (*book.Book).Newer walked.
-/
import Derived.Test.YtenkfnhcdfmkaaaGreatMBookEvs
import Derived.Test.YtenkfnhcdfmkaaaGreatMDotList
namespace Go.Proofs.YtenkfnhcdfmkaaaGreat
open Go.Shelf Go.RowKit Go.Lib Go.Sort
set_option linter.unusedVariables false
theorem MarksAt.look {kb km : Nat} {W : World} {ds : Dot → Prop} (h : MarksAt kb km W ds) {d : Dot} (hd : May d) (c : Bool) (hc : c = true ↔ ds d) : (Instr.lookup 93 (.map (some km)) (dotVal d) false).run Tryz.prog W = .ok (.bool c) W := by
  obtain ⟨E, h1, h2⟩ := h.map
  rw [h1.look Tryz.underlying93 (Tryz.zeroValue4 W) (may_fits hd)]
  refine congrArg (fun v => Result.ok v W) ?_
  cases c with
  | true => rw [(lookE_mem h1.nodup).2 ((h2 d (.bool true)).2 ⟨rfl, hd, hc.1 rfl⟩)]; rfl
  | false =>
    have : lookE E d = none := lookE_none.2 fun hm => by
      obtain ⟨p, hp, e⟩ := List.mem_map.1 hm
      have := (h2 p.1 p.2).1 hp
      rw [e] at this
      exact absurd (hc.2 this.2.2) (by simp)
    rw [this]; rfl
set_option maxHeartbeats 8000000 in
theorem newerFn_any (ob B mb kb km : Nat) (most : Int) (ds : Dot → Prop) (p : PEv) (W : World) (hd : Hdr) (ps : List PEv) (h : OutAt ob B W hd ps) (hp : SlAt Dot.cells W p.1.val p.2.rem) (hl : p.2.rem.length ≤ 1000000) (hn : ps.length ≤ 1000)
    (hmb : W.heap[mb]? = some (.cells #[.int .i64 most] 3)) (hk : MarksAt kb km W ds) (hmay : May p.2.dot) :
    Calls Tryz.prog 119 #[evVal p, .pointer (some ⟨ob, 0, none⟩), .pointer (some ⟨mb, 0, none⟩), .pointer (some ⟨kb, 0, none⟩)] W fun e w' => ∃ c, e = .returned (.bool c) ∧ Spares ob B W w' ∧ ∃ hd' ps', OutAt ob B w' hd' ps' ∧ ((c = false ∧ most ≤ ps.length ∧ ps' = ps) ∨ (c = true ∧ (ps.length : Int) < most ∧ ds p.2.dot ∧ ps' = ps) ∨ (c = true ∧ (ps.length : Int) < most ∧ ¬ ds p.2.dot ∧ ∃ q, q.2 = p.2 ∧ ps' = ps ++ [q])) := by
  obtain ⟨⟨ra, rn, rc⟩, ev⟩ := p
  obtain ⟨oh, n, ch⟩ := hd
  simp only at hp hl hmay ⊢
  obtain rfl : n = ps.length := by
    obtain ⟨_, _, hv, _⟩ := h.acc.row.at.slice_of
    simp only [Hdr.val, Value.slice.injEq] at hv
    exact hv.2.1
  have hb0 := (Below.refl W.heap.size W).alloc (Nat.le_refl _) (.cells #[.int .i64 ev.dot.node, .int .i64 ev.dot.seq, .int .i64 ev.time, .int .i64 ev.kind, .int .i64 ev.work, .int .i64 ev.value, .int .i64 ev.pol.mn, .int .i64 ev.pol.mx, .int .i64 ev.pol.goal, .int .i64 ev.pol.slack, .int .i64 ev.pol.up, .int .i64 ev.pol.down, .int .i64 ev.pol.cool, .slice ra rn rc] 44)
  have ho0 := h.below hb0 (Nat.le_refl _)
  have hr0 : (W.alloc (.cells #[.int .i64 ev.dot.node, .int .i64 ev.dot.seq, .int .i64 ev.time, .int .i64 ev.kind, .int .i64 ev.work, .int .i64 ev.value, .int .i64 ev.pol.mn, .int .i64 ev.pol.mx, .int .i64 ev.pol.goal, .int .i64 ev.pol.slack, .int .i64 ev.pol.up, .int .i64 ev.pol.down, .int .i64 ev.pol.cool, .slice ra rn rc] 44)).heap[W.heap.size]? = _ := heap_alloc_new W _
  obtain ⟨a0, a1, a2, a3, a4, a5, a6, a7, a8, a9, a10, a11, a12, a13⟩ := ev_row hr0
  have m0 := cell_of_row _ mb 0 _ _ _ ((hb0.block mb (Array.getElem?_eq_some_iff.1 hmb).1).trans hmb)
  have hk0 := hk.keep (hb0.block kb hk.lt.1) (hb0.block km hk.lt.2)
  have q0 := cell_of_row _ kb 0 _ _ _ hk0.obj
  have b0 := cell_of_row _ ob 0 _ _ _ ho0.obj
  simp only [Hdr.val] at b0
  have hob := h.lt
  have hsz := h.size
  obtain ⟨known, hkn⟩ : ∃ c : Bool, c = true ↔ ds ev.dot := by
    by_cases hds : ds ev.dot
    · exact ⟨true, by simp [hds]⟩
    · exact ⟨false, by simp [hds]⟩
  have hlook := hk0.look hmay known hkn
  unfold dotVal at hlook
  have hb1 := below_drew hb0
  have ho1 := h.below hb1 (Nat.le_refl _)
  have hr1 : (W.alloc (.cells #[.int .i64 ev.dot.node, .int .i64 ev.dot.seq, .int .i64 ev.time, .int .i64 ev.kind, .int .i64 ev.work, .int .i64 ev.value, .int .i64 ev.pol.mn, .int .i64 ev.pol.mx, .int .i64 ev.pol.goal, .int .i64 ev.pol.slack, .int .i64 ev.pol.up, .int .i64 ev.pol.down, .int .i64 ev.pol.cool, .slice ra rn rc] 44)).drew.heap[W.heap.size]? = _ := heap_alloc_new W _
  obtain ⟨e0, e1, e2, e3, e4, e5, e6, e7, e8, e9, e10, e11, e12, e13⟩ := ev_row hr1
  have how := own_any ⟨ra, rn, rc⟩ ev _ (hp.below Dot.cells_len (by decide) hb1 (Nat.le_refl _)) hl
  simp only [Hdr.val] at how
  have k0 := cell_of_row _ ob 0 _ _ _ ho1.obj
  simp only [Hdr.val] at k0
  have hkp : ∀ W' (hb : Below (W.alloc (.cells #[.int .i64 ev.dot.node, .int .i64 ev.dot.seq, .int .i64 ev.time, .int .i64 ev.kind, .int .i64 ev.work, .int .i64 ev.value, .int .i64 ev.pol.mn, .int .i64 ev.pol.mx, .int .i64 ev.pol.goal, .int .i64 ev.pol.slack, .int .i64 ev.pol.up, .int .i64 ev.pol.down, .int .i64 ev.pol.cool, .slice ra rn rc] 44)).drew.heap.size (W.alloc (.cells #[.int .i64 ev.dot.node, .int .i64 ev.dot.seq, .int .i64 ev.time, .int .i64 ev.kind, .int .i64 ev.work, .int .i64 ev.value, .int .i64 ev.pol.mn, .int .i64 ev.pol.mx, .int .i64 ev.pol.goal, .int .i64 ev.pol.slack, .int .i64 ev.pol.up, .int .i64 ev.pol.down, .int .i64 ev.pol.cool, .slice ra rn rc] 44)).drew W'), OutAt ob B W' ⟨oh, ps.length, ch⟩ ps := fun W' hb => ho1.below hb (Nat.le_refl _)
  have HOW := Lib.hid how
  have HKP := Lib.hid hkp
  have HB1 := Lib.hid hb1
  have HO0 := Lib.hid ho0
  have HB0 := Lib.hid hb0
  have HKN := Lib.hid hkn
  clear how hkp hb1 ho1 hr1 h hp hb0 ho0 hr0 hmb hk0 hk hkn
  unfold evVal pcells evCells
  simp only [Hdr.val]
  by_cases hge : most ≤ (ps.length : Int)
  · have hgeb : ((ps.length : Int) < most) = False := by simp; omega
    go_enter Tryz.func119, Tryz.ntmps119
    go_wp2_with fail
    go_ret
    exact ⟨false, rfl, .of_below HB0.out hsz, _, _, HO0.out, .inl ⟨rfl, hge, rfl⟩⟩
  · have hge2 : (ps.length : Int) < most := by omega
    cases known with
    | true =>
      refine Calls.mono (?_ : Calls Tryz.prog _ _ _ fun e w' => e = .returned (.bool true) ∧ Spares ob B W w' ∧ OutAt ob B w' ⟨oh, ps.length, ch⟩ ps) (by
        rintro e w' ⟨rfl, h1, h2⟩
        exact ⟨true, rfl, h1, _, _, h2, .inr (.inl ⟨rfl, hge2, HKN.out.1 rfl, rfl⟩)⟩)
      go_enter Tryz.func119, Tryz.ntmps119
      go_wp2_with fail
      go_ret
      exact ⟨rfl, .of_below HB0.out hsz, HO0.out⟩
    | false =>
      have HND := Lib.hid (show ¬ ds ev.dot from fun hd => by have := HKN.out.2 hd; cases this)
      go_enter Tryz.func119, Tryz.ntmps119
      go_wp2_with fail
      have hwa : W.heap.size + 1 = (W.alloc (.cells #[.int .i64 ev.dot.node, .int .i64 ev.dot.seq, .int .i64 ev.time, .int .i64 ev.kind, .int .i64 ev.work, .int .i64 ev.value, .int .i64 ev.pol.mn, .int .i64 ev.pol.mx, .int .i64 ev.pol.goal, .int .i64 ev.pol.slack, .int .i64 ev.pol.up, .int .i64 ev.pol.down, .int .i64 ev.pol.cool, .slice ra rn rc] 44)).heap.size := (World.size_alloc _ _).symm
      generalize W.alloc (.cells #[.int .i64 ev.dot.node, .int .i64 ev.dot.seq, .int .i64 ev.time, .int .i64 ev.kind, .int .i64 ev.work, .int .i64 ev.value, .int .i64 ev.pol.mn, .int .i64 ev.pol.mx, .int .i64 ev.pol.goal, .int .i64 ev.pol.slack, .int .i64 ev.pol.up, .int .i64 ev.pol.down, .int .i64 ev.pol.cool, .slice ra rn rc] 44) = wa at *
      clear a0 a1 a2 a3 a4 a5 a6 a7 a8 a9 a10 a11 a12 a13 m0 q0 b0 hlook HKN HO0 HB0
      go_region_law (first
        | (go_simp
           refine HOW.out.mono ?_
           rintro e w5 ⟨⟨oa, on, oc⟩, rfl, hown5, hb5⟩
           have ho5 := HKP.out w5 hb5
           have h5s : wa.heap.size ≤ w5.heap.size := hb5.size
           have ho6 := ho5.below ((Below.refl w5.heap.size w5).alloc (Nat.le_refl _) (.cells #[.int .i64 ev.dot.node, .int .i64 ev.dot.seq, .int .i64 ev.time, .int .i64 ev.kind, .int .i64 ev.work, .int .i64 ev.value, .int .i64 ev.pol.mn, .int .i64 ev.pol.mx, .int .i64 ev.pol.goal, .int .i64 ev.pol.slack, .int .i64 ev.pol.up, .int .i64 ev.pol.down, .int .i64 ev.pol.cool, .slice oa on oc] 44)) (Nat.le_refl _)
           have k5 : w5.cell? ⟨ob, 0, none⟩ = some (.slice oh ps.length ch) := cell_of_row _ ob 0 _ _ _ ho5.obj
           have k6 : (w5.alloc (.cells #[.int .i64 ev.dot.node, .int .i64 ev.dot.seq, .int .i64 ev.time, .int .i64 ev.kind, .int .i64 ev.work, .int .i64 ev.value, .int .i64 ev.pol.mn, .int .i64 ev.pol.mx, .int .i64 ev.pol.goal, .int .i64 ev.pol.slack, .int .i64 ev.pol.up, .int .i64 ev.pol.down, .int .i64 ev.pol.cool, .slice oa on oc] 44)).cell? ⟨ob, 0, none⟩ = some (.slice oh ps.length ch) := cell_of_row _ ob 0 _ _ _ ho6.obj
           have HO6 := Lib.hid ho6
           have HOWN5 := Lib.hid hown5
           have HB5 := Lib.hid hb5
           clear ho5 ho6 hown5 hb5)
        | (refine step_app pcells 14 pcells_len (by decide) pcells_one _ rfl _ _ 35 rfl B 44 _ 128 Tryz.underlying35 infoEv rfl (.slice oh ps.length ch) ps rfl HO6.out.acc.row (.slice (some ⟨w5.heap.size, 0, none⟩) 1 1) [(⟨oa, on, oc⟩, ev)] rfl (slAt_new (enc := pcells) w5 _ _ 1 1 (0, 0) [(⟨oa, on, oc⟩, ev)] rfl rfl (by decide)) (by simp only [List.length_singleton]; omega) (by simp only [List.length_singleton]; omega) HO6.out.size ?_
           intro v7 w7 h7 hg7 hv7
           have hex : ∃ h : Hdr, v7 = h.val := hdr_of_slAt h7.at
           obtain ⟨⟨o7, n7, q7⟩, hvv⟩ := hex
           simp only [Hdr.val] at hvv
           subst hvv
           have hlow : ∀ x, (Value.slice oh ps.length ch).ownBlock = some x → B ≤ x := fun x hx => (HO6.out.acc.row.lt x hx).1
           have hobj7 : w7.heap[ob]? = some (.cells #[.slice oh ps.length ch] 35) := (hg7.block ob (by have := HO6.out.size; omega) (fun e => by have := hlow ob e.symm; omega)).trans HO6.out.obj
           have c7 : w7.cell? ⟨ob, 0, none⟩ = some (.slice oh ps.length ch) := cell_of_row _ ob 0 _ _ _ hobj7
           have z7 : w7.frozen? ⟨ob, 0, none⟩ = false := by unfold World.frozen?; rw [hobj7]; simp
           have hacc7 : Acc B 44 40 w7 (.slice o7 n7 q7) (ps ++ [(⟨oa, on, oc⟩, ev)]) := HO6.out.acc.push (fun q hq => by
             obtain rfl : q = (⟨oa, on, oc⟩, ev) := by simpa using hq
             refine ⟨(HOWN5.out.below ((Below.refl w5.heap.size w5).alloc (Nat.le_refl _) _) (Nat.le_refl _)).lower (by show B ≤ wa.heap.size; omega), ?_⟩
             cases hx : (Hdr.val ⟨oa, on, oc⟩).ownBlock with
             | none => exact .inl rfl
             | some g =>
               refine .inr fun e2 => ?_
               have h1 := (HOWN5.out.lt g hx).1
               have h2 := ((HKP.out wa.drew (Below.refl _ _)).acc.row.lt g e2.symm).2
               omega) h7 hg7 hv7
           have hsp7 : Spares ob B W w7 := ((Spares.of_below HB1.out hsz).trans ((Spares.of_below HB5.out (by show B ≤ wa.heap.size; omega)).trans ((Spares.of_below ((Below.refl w5.heap.size w5).alloc (Nat.le_refl _) (.cells #[.int .i64 ev.dot.node, .int .i64 ev.dot.seq, .int .i64 ev.time, .int .i64 ev.kind, .int .i64 ev.work, .int .i64 ev.value, .int .i64 ev.pol.mn, .int .i64 ev.pol.mx, .int .i64 ev.pol.goal, .int .i64 ev.pol.slack, .int .i64 ev.pol.up, .int .i64 ev.pol.down, .int .i64 ev.pol.cool, .slice oa on oc] 44)) (by omega)).trans ⟨hg7.os, hg7.tape, hg7.output, hg7.size, fun i hi hne => hg7.block i (by have := HO6.out.size; omega) (fun e => by have := hlow i e.symm; omega)⟩)))
           have HA7 := Lib.hid hacc7
           have HS7 := Lib.hid hsp7
           have HOB7 := Lib.hid hobj7
           have hs7 : B ≤ w7.heap.size := Nat.le_trans HO6.out.size hg7.size
           clear h7 hg7 hv7 hlow hobj7 hacc7 hsp7 HO6 HOWN5 HB5))
      all_goals
        clear HOW HKP HB1
        go_wp2_with fail
        go_ret
        refine ⟨true, rfl, HS7.out.trans ⟨rfl, rfl, rfl, by simp, fun i hi hne => Below.heap_setCell w7 ⟨ob, 0, none⟩ _ _ hne⟩, ⟨o7, n7, q7⟩, ps ++ [(⟨oa, on, oc⟩, ev)], ⟨hob, by simpa using hs7, heap_setCell_same w7 ob 0 _ _ (.slice o7 n7 q7) HOB7.out, HA7.out.past fun i hi => Below.heap_setCell w7 ⟨ob, 0, none⟩ _ _ (by show i ≠ ob; omega)⟩, .inr (.inr ⟨rfl, hge2, HND.out, (⟨oa, on, oc⟩, ev), rfl, rfl⟩)⟩
end Go.Proofs.YtenkfnhcdfmkaaaGreat
namespace Go.Proofs.YtenkfnhcdfmkaaaGreat
open Go.Shelf Go.RowKit Go.Lib Go.Sort
set_option linter.unusedVariables false
def EvInv (w1 : World) (ob : Nat) (F : Nat → List Ev → Prop) (rb : Nat) (o : Obj) (i : Nat) (W : World) : Prop :=
 ∃ W0 hd ps, Below w1.heap.size w1 W0 ∧ rb < W0.heap.size ∧ rb ≠ ob ∧ W0.heap[rb]? = some o ∧ OutAt ob W0.heap.size W hd ps ∧ Spares ob W0.heap.size W0 W ∧ F i (ps.map (·.2))
theorem EvInv.same {w1 : World} {ob : Nat} {F : Nat → List Ev → Prop} {rb : Nat} {o : Obj} {i : Nat} {W : World} (h : EvInv w1 ob F rb o i W) {g : Nat} (hg : g < w1.heap.size) (hne : g ≠ ob) : W.heap[g]? = w1.heap[g]? := by
 obtain ⟨W0, hd, ps, h1, h2, h3, h4, h5, h6, h7⟩ := h
 exact (h6.block g (by have := h1.size; omega) hne).trans (h1.block g hg)
theorem EvInv.row {w1 : World} {ob : Nat} {F : Nat → List Ev → Prop} {rb : Nat} {o : Obj} {i : Nat} {W : World} (h : EvInv w1 ob F rb o i W) : W.heap[rb]? = some o := by
 obtain ⟨W0, hd, ps, h1, h2, h3, h4, h5, h6, h7⟩ := h
 exact (h6.block rb h2 h3).trans h4
theorem EvInv.mono {w1 : World} {ob : Nat} {F : Nat → List Ev → Prop} {rb : Nat} {o : Obj} {i : Nat} {W W' : World} (h : EvInv w1 ob F rb o i W) (hb : Below W.heap.size W W') : EvInv w1 ob F rb o i W' := by
 obtain ⟨W0, hd, ps, h1, h2, h3, h4, h5, h6, h7⟩ := h
 exact ⟨W0, hd, ps, h1, h2, h3, h4, h5.below hb (Nat.le_refl _), h6.trans (.of_below hb h5.size), h7⟩
theorem EvInv.start {w1 : World} {ob : Nat} {F : Nat → List Ev → Prop} (hob : w1.heap[ob]? = some (.cells #[.slice none 0 0] 35)) (hF : F 0 []) {rb : Nat} {o : Obj} {W : World} (h1 : w1.heap.size ≤ rb) (h2 : W.heap[rb]? = some o) (h3 : Below w1.heap.size w1 W) : EvInv w1 ob F rb o 0 W := by
 have hlt : ob < w1.heap.size := (Array.getElem?_eq_some_iff.1 hob).1
 exact ⟨W, ⟨none, 0, 0⟩, [], h3, (Array.getElem?_eq_some_iff.1 h2).1, by omega, h2, ⟨by have := h3.size; omega, Nat.le_refl _, (h3.block ob hlt).trans hob, Acc.nil _ _ _ _⟩, .refl _ _ _, hF⟩
theorem held_len {S : BookS} (hby : ByDot S.holds) (hm : ∀ e, e ∈ S.holds → May e.dot) : S.holds.length ≤ 768 := by
 have h1 : (S.holds.map fun e => e.dot).Nodup := by
  unfold List.Nodup
  rw [List.pairwise_map]
  exact hby.imp fun {a b} h e => by rw [e] at h; exact Before.irrefl _ h
 have := may_len h1 fun d hd => by obtain ⟨e, he, rfl⟩ := List.mem_map.1 hd; exact hm e he
 simpa using this
set_option maxHeartbeats 8000000 in
theorem events_any (bb ms mh B : Nat) (S : BookS) (w : World) (h : BookAt w bb ms mh B S) (hby : ByDot S.holds) (hrl : ∀ e ∈ S.holds, e.rem.length ≤ 1000000) :
  Calls Tryz.prog 25 #[.pointer (some ⟨bb, 0, none⟩)] w fun e w' => ∃ hd ps, e = .returned (Hdr.val hd) ∧ ps.map (·.2) = S.holds ∧ Acc w.heap.size 44 40 w' hd.val ps ∧ Below w.heap.size w w' := by
 have eg : ∀ args w, (callFunc 73 args).run Tryz.prog w = .ok (.enter 73 args) w := enters_of Tryz.func73 (by kernel_rfl) rfl
 have hsz := h.size
 have hlen := held_len hby h.may
 have hb1 := (Below.refl w.heap.size w).alloc (Nat.le_refl _) (.cells #[.slice none 0 0] 35)
 have hob : (w.alloc (.cells #[.slice none 0 0] 35)).heap[w.heap.size]? = some (.cells #[.slice none 0 0] 35) := heap_alloc_new w _
 have hsa : (w.alloc (.cells #[.slice none 0 0] 35)).heap.size = w.heap.size + 1 := World.size_alloc _ _
 obtain ⟨Eh, hs, k1, k2, k3, k4⟩ := h.holds
 have hh := h.obj
 have hmh := h.lth
 have hbb := h.ltb
 have hwk := bookWalk_any 73 #[] #[.pointer (some ⟨w.heap.size, 0, none⟩)] eg bb ms mh S.time Eh hs (by rw [k2]; exact hby) (fun p hp => h.may _ (by rw [← k2]; exact List.mem_map_of_mem hp)) k3
  (EvInv (w.alloc (.cells #[.slice none 0 0] 35)) w.heap.size fun i l => l = (hs.map (·.2)).take i)
  (fun W => ∃ hd ps, ps.map (·.2) = S.holds ∧ W.heap[w.heap.size]? = some (.cells #[Hdr.val hd] 35) ∧ Acc (w.heap.size + 1) 44 40 W hd.val ps ∧ Below w.heap.size w W)
  (w.alloc (.cells #[.slice none 0 0] 35))
  (fun rb o i W hI => ⟨⟨(hI.same (by omega) (by omega)).trans ((hb1.block bb (by omega)).trans hh), (k1.keep ((hI.same (by omega) (by omega)).trans (hb1.block mh (by omega))))⟩, hI.row⟩)
  (fun rb o i W W' hI hb => hI.mono hb)
  (fun rb o i hi W hI => by
   obtain ⟨W0, hd, ps, g1, g2, g3, g4, g5, g6, g7⟩ := id hI
   have hpl : ps.length ≤ 768 := by
    have := congrArg List.length g7
    rw [List.length_map, List.length_take, List.length_map] at this
    have h2 : hs.length = S.holds.length := by rw [← k2, List.length_map]
    omega
   have hmem : hs[i] ∈ hs := List.getElem_mem hi
   have hrem : SlAt Dot.cells W hs[i].1.val hs[i].2.rem := ((k4 _ hmem).keep fun g hg => by
    have := ((k4 _ hmem).lt g hg).2
    exact (hI.same (by omega) (by omega)).trans (hb1.block g this)).at
   refine (eventsFn_any w.heap.size W0.heap.size hs[i] W hd ps g5 hrem (hrl _ (by rw [← k2]; exact List.mem_map_of_mem hmem)) (by omega)).mono ?_
   rintro e w' ⟨rfl, hd', q, hq, ho, hsp⟩
   refine ⟨true, rfl, fun _ => ⟨W0, hd', ps ++ [q], g1, g2, g3, g4, ho, g6.trans hsp, ?_⟩, fun h => nomatch h⟩
   show (ps ++ [q]).map (·.2) = (hs.map (·.2)).take (i + 1)
   have g7' : ps.map (·.2) = (hs.map (·.2)).take i := g7
   rw [List.map_append, g7', List.map_singleton, hq, List.take_add_one, List.getElem?_map, List.getElem?_eq_getElem hi]
   rfl)
  (fun rb o W hI => by
   obtain ⟨W0, hd, ps, g1, g2, g3, g4, g5, g6, g7⟩ := id hI
   refine ⟨hd, ps, by rw [show ps.map (·.2) = (hs.map (·.2)).take hs.length from g7, ← k2]; exact List.take_of_length_le (by rw [List.length_map]; exact Nat.le_refl _), g5.obj, g5.acc.lower (by have := g1.size; omega), ?_⟩
   refine ⟨g6.os.trans (g1.os.trans hb1.os), g6.tape.trans (g1.tape.trans hb1.tape), g6.output.trans (g1.output.trans hb1.output), by have := g5.size; have := g1.size; omega, fun i hi => (hI.same (by omega) (by omega)).trans (hb1.block i hi)⟩)
  ⟨(hb1.block bb (by omega)).trans hh, k1.below hb1 (by omega)⟩
  (fun rb o W g1 g2 g3 => EvInv.start hob rfl g1 g2 g3)
 have HWK := Lib.hid hwk
 clear hwk k1 k2 k3 k4 hh hb1 hob h hrl hby
 go_enter Tryz.func25, Tryz.ntmps25
 go_wp2_with fail
 refine HWK.out.mono ?_
 rintro e w2 ⟨rfl, ⟨oa, n, cap⟩, ps, hps, hobj, hacc, hbl⟩
 have c0 := cell_of_row _ w.heap.size 0 _ _ _ hobj
 have z0 : w2.frozen? ⟨w.heap.size, 0, none⟩ = false := by unfold World.frozen?; rw [hobj]; simp
 simp only [Hdr.val] at c0
 have HACC := Lib.hid hacc
 have HBL := Lib.hid hbl
 clear HWK hobj hacc hbl
 go_wp2_with fail
 refine bodyPost_ret (v := .slice oa n cap) (by simp [results, Tryz.results25, go_sem, cell_set, c0]) rfl ⟨⟨oa, n, cap⟩, ps, rfl, hps, ?_, HBL.out.setCell (p := ⟨w.heap.size, 0, none⟩) (Nat.le_refl _) _⟩
 exact (HACC.out.past fun i hi => Below.heap_setCell w2 ⟨w.heap.size, 0, none⟩ _ _ (by show i ≠ w.heap.size; omega)).lower (by omega)
end Go.Proofs.YtenkfnhcdfmkaaaGreat
namespace Go.Proofs.YtenkfnhcdfmkaaaGreat
open Go.Shelf Go.RowKit Go.Lib Go.Sort
set_option linter.unusedVariables false
def newTo (f : Ev → Bool) (most : Int) (L : List Ev) (i : Nat) : List Ev := ((L.take i).filter f).take most.toNat
theorem newTo_full {f : Ev → Bool} {most : Int} {L : List Ev} {i : Nat} (h : most ≤ ((newTo f most L i).length : Int)) : newTo f most L i = (L.filter f).take most.toNat := by
 unfold newTo at *
 rw [List.length_take] at h
 conv => rhs; rw [← List.take_append_drop i L, List.filter_append, List.take_append_of_le_length (by omega)]
theorem newTo_all {f : Ev → Bool} {most : Int} {L : List Ev} : newTo f most L L.length = (L.filter f).take most.toNat := by
 unfold newTo
 rw [List.take_length]
theorem newTo_step {f : Ev → Bool} {most : Int} {L : List Ev} {i : Nat} (hi : i < L.length) (h : ((newTo f most L i).length : Int) < most) : newTo f most L (i + 1) = newTo f most L i ++ (if f L[i] then [L[i]] else []) := by
 unfold newTo at *
 rw [List.length_take] at h
 rw [List.take_add_one, List.getElem?_eq_getElem hi, Option.toList_some, List.filter_append]
 have h1 : ((L.take i).filter f).take most.toNat = (L.take i).filter f := List.take_of_length_le (by omega)
 rw [h1]
 cases hf : f L[i] with
 | true =>
  simp only [List.filter_cons, hf, List.filter_nil, if_true]
  exact List.take_of_length_le (by rw [List.length_append, List.length_singleton]; omega)
 | false =>
  simp only [List.filter_cons, hf, List.filter_nil, Bool.false_eq_true, if_false, List.append_nil]
  exact h1
theorem DotMapAt.empty {w : World} {b : Nat} (h : w.heap[b]? = some (.map #[] 0)) : DotMapAt w b [] := by
 obtain ⟨D, ⟨es, clock, h1, h2⟩, h3⟩ := DotMapAt.made w
 rw [heap_alloc_new] at h1
 simp only [Option.some.injEq, Obj.map.injEq] at h1
 obtain ⟨e1, e2⟩ := h1
 subst e1
 subst e2
 exact ⟨D, ⟨_, _, h, h2⟩, h3⟩
theorem list2_any (oa : Option Addr) (cap : Nat) (s : DSet) (w : World) (h : SlAt Dot.cells w (.slice oa s.more.length cap) s.more) (hl : s.more.length ≤ 1000000) :
  Calls Tryz.prog 58 #[.agg #[.int .i64 (s.u 0), .int .i64 (s.u 1), .int .i64 (s.u 2), .int .i64 (s.u 3), .int .i64 (s.u 4), .int .i64 (s.u 5), .int .i64 (s.u 6), .int .i64 (s.u 7), .slice oa s.more.length cap]] w fun e w' => ∃ oh c, e = .returned (.slice oh (dotsOf s.grid).length c) ∧ Owns Dot.cells 2 w.heap.size 40 w' (.slice oh (dotsOf s.grid).length c) (dotsOf s.grid) ∧ Below w.heap.size w w' := by
 refine (list_any oa cap s w h hl).mono ?_
 rintro e w' ⟨⟨o, n, c⟩, rfl, h1, h2⟩
 have hn : n = (dotsOf s.grid).length := by
  obtain ⟨_, _, hv, _⟩ := h1.at.slice_of
  simp only [Hdr.val, Value.slice.injEq] at hv
  exact hv.2.1
 have hv : Hdr.val ⟨o, n, c⟩ = .slice o n c := rfl
 rw [hv, hn] at h1
 rw [hv, hn]
 exact ⟨o, c, rfl, h1, h2⟩
theorem alloc5 (w : World) (o0 o1 o2 o3 o4 : Obj) : (((((w.alloc o0).alloc o1).alloc o2).alloc o3).alloc o4).heap[w.heap.size + 1]? = some o1 ∧ (((((w.alloc o0).alloc o1).alloc o2).alloc o3).alloc o4).heap[w.heap.size + 2]? = some o2 ∧ (((((w.alloc o0).alloc o1).alloc o2).alloc o3).alloc o4).heap[w.heap.size + 3]? = some o3 ∧ (((((w.alloc o0).alloc o1).alloc o2).alloc o3).alloc o4).heap[w.heap.size + 4]? = some o4 ∧
  Below w.heap.size w (((((w.alloc o0).alloc o1).alloc o2).alloc o3).alloc o4) ∧ (((((w.alloc o0).alloc o1).alloc o2).alloc o3).alloc o4).heap.size = w.heap.size + 5 := by
 have s1 : (w.alloc o0).heap.size = w.heap.size + 1 := World.size_alloc _ _
 have s2 : ((w.alloc o0).alloc o1).heap.size = w.heap.size + 2 := by rw [World.size_alloc, s1]
 have s3 : (((w.alloc o0).alloc o1).alloc o2).heap.size = w.heap.size + 3 := by rw [World.size_alloc, s2]
 have s4 : ((((w.alloc o0).alloc o1).alloc o2).alloc o3).heap.size = w.heap.size + 4 := by rw [World.size_alloc, s3]
 refine ⟨?_, ?_, ?_, ?_, (((((Below.refl _ _).alloc (Nat.le_refl _) _).alloc (by omega) _).alloc (by omega) _).alloc (by omega) _).alloc (by omega) _, by rw [World.size_alloc, s4]⟩
 ·rw [Below.heap_alloc _ _ _ (by omega), Below.heap_alloc _ _ _ (by omega), Below.heap_alloc _ _ _ (by omega), ← s1, heap_alloc_new]
 ·rw [Below.heap_alloc _ _ _ (by omega), Below.heap_alloc _ _ _ (by omega), ← s2, heap_alloc_new]
 ·rw [Below.heap_alloc _ _ _ (by omega), ← s3, heap_alloc_new]
 ·rw [← s4, heap_alloc_new]
set_option maxHeartbeats 8000000 in
theorem newer_any (bb ms mh B : Nat) (S : BookS) (oa : Option Addr) (cap : Nat) (s : DSet) (most : Int) (w : World) (h : BookAt w bb ms mh B S) (hby : ByDot S.holds) (hrl : ∀ e ∈ S.holds, e.rem.length ≤ 1000000) (hs : SlAt Dot.cells w (.slice oa s.more.length cap) s.more) (hl : s.more.length ≤ 1000000) :
  Calls Tryz.prog 84 #[.pointer (some ⟨bb, 0, none⟩), .agg #[.int .i64 (s.u 0), .int .i64 (s.u 1), .int .i64 (s.u 2), .int .i64 (s.u 3), .int .i64 (s.u 4), .int .i64 (s.u 5), .int .i64 (s.u 6), .int .i64 (s.u 7), .slice oa s.more.length cap], .int .i64 most] w fun e w' => ∃ hd ps, e = .returned (Hdr.val hd) ∧ ps.map (·.2) = newerB S s.grid most ∧ Acc w.heap.size 44 40 w' hd.val ps ∧ Below w.heap.size w w' := by
 have hmm := @run_makeMap Tryz.prog
 have eg1 : ∀ args w, (callFunc 118 args).run Tryz.prog w = .ok (.enter 118 args) w := enters_of Tryz.func118 (by kernel_rfl) rfl
 have eg2 : ∀ args w, (callFunc 119 args).run Tryz.prog w = .ok (.enter 119 args) w := enters_of Tryz.func119 (by kernel_rfl) rfl
 obtain ⟨r1, r2, r3, r4, hb5, hsz5⟩ := alloc5 w (.cells #[.int .i64 (s.u 0), .int .i64 (s.u 1), .int .i64 (s.u 2), .int .i64 (s.u 3), .int .i64 (s.u 4), .int .i64 (s.u 5), .int .i64 (s.u 6), .int .i64 (s.u 7), .slice oa s.more.length cap] 48) (.cells #[.int .i64 most] 3) (.cells #[.slice none 0 0] 35) (.map #[] 0) (.cells #[.map (some (w.heap.size + 3))] 93)
 have hli := list2_any oa cap s _ (hs.below Dot.cells_len (by decide) hb5 (Nat.le_refl _)) hl
 have hbk := h.below hb5 (Nat.le_refl _)
 have hsz := h.size
 have HLI := Lib.hid hli
 have HBK := Lib.hid hbk
 have R1 := Lib.hid r1
 have R2 := Lib.hid r2
 have R3 := Lib.hid r3
 have R4 := Lib.hid r4
 have HB5 := Lib.hid hb5
 clear hli hbk r1 r2 r3 r4 hb5 hs
 go_enter Tryz.func84, Tryz.ntmps84
 go_wp2_with fail
 generalize ((((w.alloc (.cells #[.int .i64 (s.u 0), .int .i64 (s.u 1), .int .i64 (s.u 2), .int .i64 (s.u 3), .int .i64 (s.u 4), .int .i64 (s.u 5), .int .i64 (s.u 6), .int .i64 (s.u 7), .slice oa s.more.length cap] 48)).alloc (.cells #[.int .i64 most] 3)).alloc (.cells #[.slice none 0 0] 35)).alloc (.map #[] 0)).alloc (.cells #[.map (some (w.heap.size + 3))] 93) = W5 at *
 refine HLI.out.mono ?_
 rintro e w6 ⟨o6, c6, rfl, hown6, hb6⟩
 have hlen := dotsOf_len s.grid_ok
 have hmay6 : ∀ d ∈ dotsOf s.grid, May d := fun d hd => ((mem_dotsOf s.grid_ok).1 hd).1
 have hk6 : ∀ i, i < w.heap.size + 5 → w6.heap[i]? = W5.heap[i]? := fun i hi => hb6.block i (by omega)
 have hm0 : MarksAt (w.heap.size + 4) (w.heap.size + 3) w6 (fun x => x ∈ (dotsOf s.grid).take 0) := by
  exact ⟨by omega, (hk6 _ (by omega)).trans R4.out, [], .empty ((hk6 _ (by omega)).trans R3.out), fun d v => by simp⟩
 have hea := beach_any 118 #[] #[.pointer (some ⟨w.heap.size + 4, 0, none⟩)] eg1 o6 c6 (dotsOf s.grid)
  (fun i W => MarksAt (w.heap.size + 4) (w.heap.size + 3) W (fun x => x ∈ (dotsOf s.grid).take i) ∧ w6.grownBy W (some (w.heap.size + 3)))
  ⟨fun i hi W hI => (newerMark_any _ _ _ (hmay6 _ (List.getElem_mem hi)) _ W hI.1).mono (by
   rintro e w' ⟨rfl, h1, h2⟩
   refine ⟨rfl, ?_, hI.2.trans h2⟩
   have : (fun x => x ∈ (dotsOf s.grid).take (i + 1)) = fun x => x ∈ (dotsOf s.grid).take i ∨ x = (dotsOf s.grid)[i] := by
    funext x
    rw [List.take_add_one, List.getElem?_eq_getElem hi, Option.toList_some]
    exact propext (by rw [List.mem_append, List.mem_singleton])
   rw [this]
   exact h1), fun i W W' hI hb => ⟨hI.1.keep (hb.block _ hI.1.lt.1) (hb.block _ hI.1.lt.2), hI.2.trans ⟨hb.os, hb.tape, hb.output, hb.size, fun j hj _ => hb.block j hj⟩⟩⟩
  (fun i W hI => (hown6.past hI.2 (by omega)).at) (by omega) w6 ⟨hm0, World.grownBy.refl _ _⟩
 rw [List.take_length] at hea
 have HEA := Lib.hid hea
 have HK6 := Lib.hid hk6
 have HB6 := Lib.hid hb6
 clear hea hm0 hmay6 hown6 hk6 hb6 HLI
 go_wp2_with fail
 refine HEA.out.mono ?_
 rintro e w7 ⟨rfl, hmk, hg7⟩
 have hk7 : ∀ i, i < w.heap.size + 5 → i ≠ w.heap.size + 3 → w7.heap[i]? = W5.heap[i]? := fun i hi hne => (hg7.block i (by have := HB6.out.size; omega) (fun e => hne (Option.some.inj e))).trans (HK6.out i hi)
 have hb7 : Below w.heap.size w w7 := (HB5.out.trans (HB6.out.mono (by omega))).grown hg7 (by have := HB6.out.size; omega) (fun k hk => by cases hk; omega)
 have h7 := h.below hb7 (Nat.le_refl _)
 have hlen7 := held_len hby h.may
 obtain ⟨Eh, hs, k0, k2, k3, k4⟩ := h.holds
 have hbb := h.ltb
 have hmh := h.lth
 have hsz7 : w.heap.size + 5 ≤ w7.heap.size := by have := HB6.out.size; have := hg7.size; omega
 have k1 := k0.below hb7 (by omega)
 have hL : S.holds.length = hs.length := by rw [← k2, List.length_map]
 have hwk := bookWalk_any 119 #[] #[.pointer (some ⟨w.heap.size + 2, 0, none⟩), .pointer (some ⟨w.heap.size + 1, 0, none⟩), .pointer (some ⟨w.heap.size + 4, 0, none⟩)] eg2 bb ms mh S.time Eh hs (by rw [k2]; exact hby) (fun p hp => h.may _ (by rw [← k2]; exact List.mem_map_of_mem hp)) k3
  (EvInv w7 (w.heap.size + 2) fun i l => l = newTo (fun e => !s.grid e.dot.node.toNat e.dot.seq.toNat) most S.holds i)
  (fun W => ∃ hd ps, ps.map (·.2) = newerB S s.grid most ∧ W.heap[w.heap.size + 2]? = some (.cells #[Hdr.val hd] 35) ∧ Acc w7.heap.size 44 40 W hd.val ps ∧ Below w.heap.size w W)
  w7
  (fun rb o i W hI => ⟨⟨(hI.same (by omega) (by omega)).trans h7.obj, k1.keep (hI.same (by omega) (by omega))⟩, hI.row⟩)
  (fun rb o i W W' hI hb => hI.mono hb)
  (fun rb o i hi W hI => by
   obtain ⟨W0, hd, ps, g1, g2, g3, g4, g5, g6, g7⟩ := id hI
   have hmem : hs[i] ∈ hs := List.getElem_mem hi
   have hrem : SlAt Dot.cells W hs[i].1.val hs[i].2.rem := ((k4 _ hmem).keep fun g hg => by
    have := ((k4 _ hmem).lt g hg).2
    exact (hI.same (by omega) (by omega)).trans (hb7.block g this)).at
   have hLi : S.holds[i]'(by omega) = hs[i].2 := by simp only [← k2, List.getElem_map]
   have hpl : ps.length ≤ 768 := by
    have h9 := congrArg List.length (show ps.map (·.2) = newTo _ most S.holds i from g7)
    have h8 := List.length_filter_le (fun e : Ev => !s.grid e.dot.node.toNat e.dot.seq.toNat) (S.holds.take i)
    unfold newTo at h9
    rw [List.length_map, List.length_take] at h9
    rw [List.length_take] at h8
    omega
   have hmay : May hs[i].2.dot := h.may _ (by rw [← k2]; exact List.mem_map_of_mem hmem)
   have hnf := newerFn_any (w.heap.size + 2) W0.heap.size (w.heap.size + 1) (w.heap.size + 4) (w.heap.size + 3) most (fun x => x ∈ dotsOf s.grid) hs[i] W hd ps g5 hrem (hrl _ (by rw [← k2]; exact List.mem_map_of_mem hmem)) (by omega)
    ((hI.same (by omega) (by omega)).trans ((hk7 _ (by omega) (by omega)).trans R1.out)) (hmk.keep (hI.same (by omega) (by omega)) (hI.same (by omega) (by omega))) hmay
   refine hnf.mono ?_
   rintro e w' ⟨c, rfl, hsp, hd', ps', ho, hcs⟩
   have hin : hs[i].2.dot ∈ dotsOf s.grid ↔ s.grid hs[i].2.dot.node.toNat hs[i].2.dot.seq.toNat = true := by
    rw [mem_dotsOf s.grid_ok]
    exact ⟨fun h => h.2, fun h => ⟨hmay, h⟩⟩
   have g7' : ps.map (·.2) = newTo (fun e => !s.grid e.dot.node.toNat e.dot.seq.toNat) most S.holds i := g7
   have hpe : ((newTo (fun e : Ev => !s.grid e.dot.node.toNat e.dot.seq.toNat) most S.holds i).length : Int) = ps.length := by rw [← g7', List.length_map]
   refine ⟨c, rfl, fun hc => ?_, fun hc => ?_⟩
   ·refine ⟨W0, hd', ps', g1, g2, g3, g4, ho, g6.trans hsp, ?_⟩
    show ps'.map (·.2) = newTo (fun e => !s.grid e.dot.node.toNat e.dot.seq.toNat) most S.holds (i + 1)
    rcases hcs with ⟨h1, _⟩ | ⟨_, h2, h3, rfl⟩ | ⟨_, h2, h3, q, hq, rfl⟩
    ·rw [hc] at h1; cases h1
    ·rw [newTo_step (by omega) (by omega), hLi, hin.1 h3, g7']
     simp
    ·rw [newTo_step (by omega) (by omega), hLi, List.map_append, List.map_singleton, hq, g7']
     have : s.grid hs[i].2.dot.node.toNat hs[i].2.dot.seq.toNat = false := by
      rw [← Bool.not_eq_true]; exact fun h => h3 (hin.2 h)
     rw [this]
     simp
   ·rcases hcs with ⟨_, h2, rfl⟩ | ⟨h1, _⟩ | ⟨h1, _⟩
    ·refine ⟨hd', _, ?_, ho.obj, ho.acc.lower g1.size, ?_⟩
     ·rw [g7', newTo_full (by omega)]; rfl
     ·exact ⟨hsp.os.trans (g6.os.trans (g1.os.trans hb7.os)), hsp.tape.trans (g6.tape.trans (g1.tape.trans hb7.tape)), hsp.output.trans (g6.output.trans (g1.output.trans hb7.output)), by have := ho.size; have := g1.size; omega, fun j hj => (hsp.block j (by have := g1.size; omega) (by omega)).trans ((hI.same (by omega) (by omega)).trans (hb7.block j hj))⟩
    ·rw [hc] at h1; cases h1
    ·rw [hc] at h1; cases h1)
  (fun rb o W hI => by
   obtain ⟨W0, hd, ps, g1, g2, g3, g4, g5, g6, g7⟩ := id hI
   refine ⟨hd, ps, by rw [show ps.map (·.2) = newTo _ most S.holds hs.length from g7, ← hL, newTo_all]; rfl, g5.obj, g5.acc.lower g1.size, ?_⟩
   exact ⟨g6.os.trans (g1.os.trans hb7.os), g6.tape.trans (g1.tape.trans hb7.tape), g6.output.trans (g1.output.trans hb7.output), by have := g5.size; have := g1.size; omega, fun i hi => (hI.same (by omega) (by omega)).trans (hb7.block i hi)⟩)
  ⟨h7.obj, k1⟩
  (fun rb o W g1 g2 g3 => EvInv.start ((hk7 _ (by omega) (by omega)).trans R2.out) (by show _ = _; unfold newTo; simp) g1 g2 g3)
 have HWK := Lib.hid hwk
 clear hwk k0 k1 k2 k3 k4 h7 hb7 hmk hg7 hk7 h hby hrl HEA HK6 HB6 HBK R1 R2 R3 R4 HB5 hL hlen7 hbb hmh
 go_wp2_with fail
 refine HWK.out.mono ?_
 rintro e w8 ⟨rfl, ⟨o8, n8, c8⟩, ps, hps, hobj, hacc, hbl⟩
 have c0 := cell_of_row _ (w.heap.size + 2) 0 _ _ _ hobj
 have z0 : w8.frozen? ⟨w.heap.size + 2, 0, none⟩ = false := by unfold World.frozen?; rw [hobj]; simp
 simp only [Hdr.val] at c0
 have HACC := Lib.hid hacc
 have HBL := Lib.hid hbl
 have HPS := Lib.hid hps
 clear HWK hobj hacc hbl hps
 go_wp2_with fail
 refine bodyPost_ret (v := .slice o8 n8 c8) (by simp [results, Tryz.results84, go_sem, cell_set, c0]) rfl ⟨⟨o8, n8, c8⟩, ps, rfl, HPS.out, ?_, HBL.out.setCell (p := ⟨w.heap.size + 2, 0, none⟩) (by show w.heap.size ≤ w.heap.size + 2; omega) _⟩
 exact (HACC.out.past fun i hi => Below.heap_setCell w8 ⟨w.heap.size + 2, 0, none⟩ _ _ (by show i ≠ w.heap.size + 2; omega)).lower (by omega)
end Go.Proofs.YtenkfnhcdfmkaaaGreat
