/-
  The function value that Newer walks with.
-/
import Derived.Test.YtidiapgdgoeplaaBookEvs
import Derived.Test.YtidiapgdgoeplaaBookKnown
namespace Go.Proofs.Ytidiapgdgoeplaa
open Go.Shelf Go.RowKit Go.Lib Go.Sort
set_option linter.unusedVariables false
/-- a mark looked up -/
theorem MarksAt.look {kb km : Nat} {W : World} {ds : Dot → Prop} (h : MarksAt kb km W ds) {d : Dot} (hd : May d) (c : Bool) (hc : c = true ↔ ds d) : (Instr.lookup 53 (.map (some km)) (dotVal d) false).run Try.prog W = .ok (.bool c) W := by
  obtain ⟨E, h1, h2⟩ := h.map
  rw [h1.look Try.underlying53 (Try.zeroValue4 W) (may_fits hd)]
  refine congrArg (fun v => Result.ok v W) ?_
  cases c with
  | true => rw [(lookE_mem h1.nodup).2 ((h2 d (.bool true)).2 ⟨rfl, hd, hc.1 rfl⟩)]; rfl
  | false =>
    have : lookE E d = none := lookE_none.2 fun hm => by
      obtain ⟨p, hp, e⟩ := List.mem_map.1 hm
      have := (h2 p.1 p.2).1 hp
      rw [e] at this
      exact absurd (hc.2 this.2.2) (by simp)
    rw [this]; rfl
set_option maxHeartbeats 8000000 in
theorem newerFn_any (ob B mb kb km : Nat) (most : Int) (ds : Dot → Prop) (p : PEv) (W : World) (hd : Hdr) (ps : List PEv) (h : OutAt ob B W hd ps) (hp : SlAt Dot.cells W p.1.val p.2.rem) (hl : p.2.rem.length ≤ 1000000) (hn : ps.length ≤ 1000)
    (hmb : W.heap[mb]? = some (.cells #[.int .i64 most] 3)) (hk : MarksAt kb km W ds) (hmay : May p.2.dot) :
    Calls Try.prog 36 #[evVal p, .pointer (some ⟨ob, 0, none⟩), .pointer (some ⟨mb, 0, none⟩), .pointer (some ⟨kb, 0, none⟩)] W fun e w' => ∃ c, e = .returned (.bool c) ∧ Spares ob B W w' ∧ ∃ hd' ps', OutAt ob B w' hd' ps' ∧ ((c = false ∧ most ≤ ps.length ∧ ps' = ps) ∨ (c = true ∧ (ps.length : Int) < most ∧ ds p.2.dot ∧ ps' = ps) ∨ (c = true ∧ (ps.length : Int) < most ∧ ¬ ds p.2.dot ∧ ∃ q, q.2 = p.2 ∧ ps' = ps ++ [q])) := by
  obtain ⟨⟨ra, rn, rc⟩, ev⟩ := p
  obtain ⟨oh, n, ch⟩ := hd
  simp only at hp hl hmay ⊢
  obtain rfl : n = ps.length := by
    obtain ⟨_, _, hv, _⟩ := h.acc.row.at.slice_of
    simp only [Hdr.val, Value.slice.injEq] at hv
    exact hv.2.1
  have hb0 := (Below.refl W.heap.size W).alloc (Nat.le_refl _) (.cells #[.int .i64 ev.dot.node, .int .i64 ev.dot.seq, .int .i64 ev.time, .int .i64 ev.kind, .int .i64 ev.work, .int .i64 ev.value, .int .i64 ev.pol.mn, .int .i64 ev.pol.mx, .int .i64 ev.pol.goal, .int .i64 ev.pol.slack, .int .i64 ev.pol.up, .int .i64 ev.pol.down, .int .i64 ev.pol.cool, .slice ra rn rc] 33)
  have ho0 := h.below hb0 (Nat.le_refl _)
  have hr0 : (W.alloc (.cells #[.int .i64 ev.dot.node, .int .i64 ev.dot.seq, .int .i64 ev.time, .int .i64 ev.kind, .int .i64 ev.work, .int .i64 ev.value, .int .i64 ev.pol.mn, .int .i64 ev.pol.mx, .int .i64 ev.pol.goal, .int .i64 ev.pol.slack, .int .i64 ev.pol.up, .int .i64 ev.pol.down, .int .i64 ev.pol.cool, .slice ra rn rc] 33)).heap[W.heap.size]? = _ := heap_alloc_new W _
  obtain ⟨a0, a1, a2, a3, a4, a5, a6, a7, a8, a9, a10, a11, a12, a13⟩ := ev_row hr0
  have m0 := cell_of_row _ mb 0 _ _ _ ((hb0.block mb (Array.getElem?_eq_some_iff.1 hmb).1).trans hmb)
  have hk0 := hk.keep (hb0.block kb hk.lt.1) (hb0.block km hk.lt.2)
  have q0 := cell_of_row _ kb 0 _ _ _ hk0.obj
  have b0 := cell_of_row _ ob 0 _ _ _ ho0.obj
  simp only [Hdr.val] at b0
  have hob := h.lt
  have hsz := h.size
  obtain ⟨known, hkn⟩ : ∃ c : Bool, c = true ↔ ds ev.dot := by
    by_cases hds : ds ev.dot
    · exact ⟨true, by simp [hds]⟩
    · exact ⟨false, by simp [hds]⟩
  have hlook := hk0.look hmay known hkn
  unfold dotVal at hlook
  have hb1 := below_drew hb0
  have ho1 := h.below hb1 (Nat.le_refl _)
  have hr1 : (W.alloc (.cells #[.int .i64 ev.dot.node, .int .i64 ev.dot.seq, .int .i64 ev.time, .int .i64 ev.kind, .int .i64 ev.work, .int .i64 ev.value, .int .i64 ev.pol.mn, .int .i64 ev.pol.mx, .int .i64 ev.pol.goal, .int .i64 ev.pol.slack, .int .i64 ev.pol.up, .int .i64 ev.pol.down, .int .i64 ev.pol.cool, .slice ra rn rc] 33)).drew.heap[W.heap.size]? = _ := heap_alloc_new W _
  obtain ⟨e0, e1, e2, e3, e4, e5, e6, e7, e8, e9, e10, e11, e12, e13⟩ := ev_row hr1
  have how := own_any ⟨ra, rn, rc⟩ ev _ (hp.below Dot.cells_len (by decide) hb1 (Nat.le_refl _)) hl
  simp only [Hdr.val] at how
  have k0 := cell_of_row _ ob 0 _ _ _ ho1.obj
  simp only [Hdr.val] at k0
  have hkp : ∀ W' (hb : Below (W.alloc (.cells #[.int .i64 ev.dot.node, .int .i64 ev.dot.seq, .int .i64 ev.time, .int .i64 ev.kind, .int .i64 ev.work, .int .i64 ev.value, .int .i64 ev.pol.mn, .int .i64 ev.pol.mx, .int .i64 ev.pol.goal, .int .i64 ev.pol.slack, .int .i64 ev.pol.up, .int .i64 ev.pol.down, .int .i64 ev.pol.cool, .slice ra rn rc] 33)).drew.heap.size (W.alloc (.cells #[.int .i64 ev.dot.node, .int .i64 ev.dot.seq, .int .i64 ev.time, .int .i64 ev.kind, .int .i64 ev.work, .int .i64 ev.value, .int .i64 ev.pol.mn, .int .i64 ev.pol.mx, .int .i64 ev.pol.goal, .int .i64 ev.pol.slack, .int .i64 ev.pol.up, .int .i64 ev.pol.down, .int .i64 ev.pol.cool, .slice ra rn rc] 33)).drew W'), OutAt ob B W' ⟨oh, ps.length, ch⟩ ps := fun W' hb => ho1.below hb (Nat.le_refl _)
  have HOW := Lib.hid how
  have HKP := Lib.hid hkp
  have HB1 := Lib.hid hb1
  have HO0 := Lib.hid ho0
  have HB0 := Lib.hid hb0
  have HKN := Lib.hid hkn
  clear how hkp hb1 ho1 hr1 h hp hb0 ho0 hr0 hmb hk0 hk hkn
  unfold evVal pcells evCells
  simp only [Hdr.val]
  by_cases hge : most ≤ (ps.length : Int)
  · have hgeb : ((ps.length : Int) < most) = False := by simp; omega
    go_enter Try.func36, Try.ntmps36
    go_wp2_with fail
    go_ret
    exact ⟨false, rfl, .of_below HB0.out hsz, _, _, HO0.out, .inl ⟨rfl, hge, rfl⟩⟩
  · have hge2 : (ps.length : Int) < most := by omega
    cases known with
    | true =>
      refine Calls.mono (?_ : Calls Try.prog _ _ _ fun e w' => e = .returned (.bool true) ∧ Spares ob B W w' ∧ OutAt ob B w' ⟨oh, ps.length, ch⟩ ps) (by
        rintro e w' ⟨rfl, h1, h2⟩
        exact ⟨true, rfl, h1, _, _, h2, .inr (.inl ⟨rfl, hge2, HKN.out.1 rfl, rfl⟩)⟩)
      go_enter Try.func36, Try.ntmps36
      go_wp2_with fail
      go_ret
      exact ⟨rfl, .of_below HB0.out hsz, HO0.out⟩
    | false =>
      have HND := Lib.hid (show ¬ ds ev.dot from fun hd => by have := HKN.out.2 hd; cases this)
      go_enter Try.func36, Try.ntmps36
      go_wp2_with fail
      have hwa : W.heap.size + 1 = (W.alloc (.cells #[.int .i64 ev.dot.node, .int .i64 ev.dot.seq, .int .i64 ev.time, .int .i64 ev.kind, .int .i64 ev.work, .int .i64 ev.value, .int .i64 ev.pol.mn, .int .i64 ev.pol.mx, .int .i64 ev.pol.goal, .int .i64 ev.pol.slack, .int .i64 ev.pol.up, .int .i64 ev.pol.down, .int .i64 ev.pol.cool, .slice ra rn rc] 33)).heap.size := (World.size_alloc _ _).symm
      generalize W.alloc (.cells #[.int .i64 ev.dot.node, .int .i64 ev.dot.seq, .int .i64 ev.time, .int .i64 ev.kind, .int .i64 ev.work, .int .i64 ev.value, .int .i64 ev.pol.mn, .int .i64 ev.pol.mx, .int .i64 ev.pol.goal, .int .i64 ev.pol.slack, .int .i64 ev.pol.up, .int .i64 ev.pol.down, .int .i64 ev.pol.cool, .slice ra rn rc] 33) = wa at *
      clear a0 a1 a2 a3 a4 a5 a6 a7 a8 a9 a10 a11 a12 a13 m0 q0 b0 hlook HKN HO0 HB0
      go_region_law (first
        | (go_simp
           refine HOW.out.mono ?_
           rintro e w5 ⟨⟨oa, on, oc⟩, rfl, hown5, hb5⟩
           have ho5 := HKP.out w5 hb5
           have h5s : wa.heap.size ≤ w5.heap.size := hb5.size
           have ho6 := ho5.below ((Below.refl w5.heap.size w5).alloc (Nat.le_refl _) (.cells #[.int .i64 ev.dot.node, .int .i64 ev.dot.seq, .int .i64 ev.time, .int .i64 ev.kind, .int .i64 ev.work, .int .i64 ev.value, .int .i64 ev.pol.mn, .int .i64 ev.pol.mx, .int .i64 ev.pol.goal, .int .i64 ev.pol.slack, .int .i64 ev.pol.up, .int .i64 ev.pol.down, .int .i64 ev.pol.cool, .slice oa on oc] 33)) (Nat.le_refl _)
           have k5 : w5.cell? ⟨ob, 0, none⟩ = some (.slice oh ps.length ch) := cell_of_row _ ob 0 _ _ _ ho5.obj
           have k6 : (w5.alloc (.cells #[.int .i64 ev.dot.node, .int .i64 ev.dot.seq, .int .i64 ev.time, .int .i64 ev.kind, .int .i64 ev.work, .int .i64 ev.value, .int .i64 ev.pol.mn, .int .i64 ev.pol.mx, .int .i64 ev.pol.goal, .int .i64 ev.pol.slack, .int .i64 ev.pol.up, .int .i64 ev.pol.down, .int .i64 ev.pol.cool, .slice oa on oc] 33)).cell? ⟨ob, 0, none⟩ = some (.slice oh ps.length ch) := cell_of_row _ ob 0 _ _ _ ho6.obj
           have HO6 := Lib.hid ho6
           have HOWN5 := Lib.hid hown5
           have HB5 := Lib.hid hb5
           clear ho5 ho6 hown5 hb5)
        | (refine step_app pcells 14 pcells_len (by decide) pcells_one _ rfl _ _ 22 rfl B 33 _ 128 Try.underlying22 infoEv rfl (.slice oh ps.length ch) ps rfl HO6.out.acc.row (.slice (some ⟨w5.heap.size, 0, none⟩) 1 1) [(⟨oa, on, oc⟩, ev)] rfl (slAt_new (enc := pcells) w5 _ _ 1 1 (0, 0) [(⟨oa, on, oc⟩, ev)] rfl rfl (by decide)) (by simp only [List.length_singleton]; omega) (by simp only [List.length_singleton]; omega) HO6.out.size ?_
           intro v7 w7 h7 hg7 hv7
           have hex : ∃ h : Hdr, v7 = h.val := hdr_of_slAt h7.at
           obtain ⟨⟨o7, n7, q7⟩, hvv⟩ := hex
           simp only [Hdr.val] at hvv
           subst hvv
           have hlow : ∀ x, (Value.slice oh ps.length ch).ownBlock = some x → B ≤ x := fun x hx => (HO6.out.acc.row.lt x hx).1
           have hobj7 : w7.heap[ob]? = some (.cells #[.slice oh ps.length ch] 22) := (hg7.block ob (by have := HO6.out.size; omega) (fun e => by have := hlow ob e.symm; omega)).trans HO6.out.obj
           have c7 : w7.cell? ⟨ob, 0, none⟩ = some (.slice oh ps.length ch) := cell_of_row _ ob 0 _ _ _ hobj7
           have z7 : w7.frozen? ⟨ob, 0, none⟩ = false := by unfold World.frozen?; rw [hobj7]; simp
           have hacc7 : Acc B 33 28 w7 (.slice o7 n7 q7) (ps ++ [(⟨oa, on, oc⟩, ev)]) := HO6.out.acc.push (fun q hq => by
             obtain rfl : q = (⟨oa, on, oc⟩, ev) := by simpa using hq
             refine ⟨(HOWN5.out.below ((Below.refl w5.heap.size w5).alloc (Nat.le_refl _) _) (Nat.le_refl _)).lower (by show B ≤ wa.heap.size; omega), ?_⟩
             cases hx : (Hdr.val ⟨oa, on, oc⟩).ownBlock with
             | none => exact .inl rfl
             | some g =>
               refine .inr fun e2 => ?_
               have h1 := (HOWN5.out.lt g hx).1
               have h2 := ((HKP.out wa.drew (Below.refl _ _)).acc.row.lt g e2.symm).2
               omega) h7 hg7 hv7
           have hsp7 : Spares ob B W w7 := ((Spares.of_below HB1.out hsz).trans ((Spares.of_below HB5.out (by show B ≤ wa.heap.size; omega)).trans ((Spares.of_below ((Below.refl w5.heap.size w5).alloc (Nat.le_refl _) (.cells #[.int .i64 ev.dot.node, .int .i64 ev.dot.seq, .int .i64 ev.time, .int .i64 ev.kind, .int .i64 ev.work, .int .i64 ev.value, .int .i64 ev.pol.mn, .int .i64 ev.pol.mx, .int .i64 ev.pol.goal, .int .i64 ev.pol.slack, .int .i64 ev.pol.up, .int .i64 ev.pol.down, .int .i64 ev.pol.cool, .slice oa on oc] 33)) (by omega)).trans ⟨hg7.os, hg7.tape, hg7.output, hg7.size, fun i hi hne => hg7.block i (by have := HO6.out.size; omega) (fun e => by have := hlow i e.symm; omega)⟩)))
           have HA7 := Lib.hid hacc7
           have HS7 := Lib.hid hsp7
           have HOB7 := Lib.hid hobj7
           have hs7 : B ≤ w7.heap.size := Nat.le_trans HO6.out.size hg7.size
           clear h7 hg7 hv7 hlow hobj7 hacc7 hsp7 HO6 HOWN5 HB5))
      all_goals
        clear HOW HKP HB1
        go_wp2_with fail
        go_ret
        refine ⟨true, rfl, HS7.out.trans ⟨rfl, rfl, rfl, by simp, fun i hi hne => Below.heap_setCell w7 ⟨ob, 0, none⟩ _ _ hne⟩, ⟨o7, n7, q7⟩, ps ++ [(⟨oa, on, oc⟩, ev)], ⟨hob, by simpa using hs7, heap_setCell_same w7 ob 0 _ _ (.slice o7 n7 q7) HOB7.out, HA7.out.past fun i hi => Below.heap_setCell w7 ⟨ob, 0, none⟩ _ _ (by show i ≠ ob; omega)⟩, .inr (.inr ⟨rfl, hge2, HND.out, (⟨oa, on, oc⟩, ev), rfl, rfl⟩)⟩
end Go.Proofs.Ytidiapgdgoeplaa
