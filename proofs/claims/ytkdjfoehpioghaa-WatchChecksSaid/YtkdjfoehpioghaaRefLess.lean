/-
  What is in the one set alone: the document's Less, and the program's.
-/
import Derived.Test.YtkdjfoehpioghaaRefList
import Derived.Test.YtkdjfoehpioghaaDelDots
import Derived.Test.YtkdjfoehpioghaaStep
namespace Go.Proofs.Ytkdjfoehpioghaa
open Go.Shelf Go.RowKit Go.Lib Go.Sort
set_option linter.unusedVariables false
/-- the dots of s that t lacks -/
noncomputable def lessD (s t : DSet) : List Dot := (dotsOf s.grid).filter fun d => !t.grid d.node.toNat d.seq.toNat
set_option maxHeartbeats 8000000 in
theorem refLess_any (oa ob : Option Addr) (ca cb : Nat) (s t : DSet) (w : World) (h : SlAt Dot.cells w (.slice oa s.more.length ca) s.more) (k : SlAt Dot.cells w (.slice ob t.more.length cb) t.more) (hl : s.more.length ≤ 1000000) (kl : t.more.length ≤ 1000000) :
    Calls Try.prog 19 #[.agg #[.int .i64 (s.u 0), .int .i64 (s.u 1), .int .i64 (s.u 2), .int .i64 (s.u 3), .int .i64 (s.u 4), .int .i64 (s.u 5), .int .i64 (s.u 6), .int .i64 (s.u 7), .slice oa s.more.length ca], .agg #[.int .i64 (t.u 0), .int .i64 (t.u 1), .int .i64 (t.u 2), .int .i64 (t.u 3), .int .i64 (t.u 4), .int .i64 (t.u 5), .int .i64 (t.u 6), .int .i64 (t.u 7), .slice ob t.more.length cb]] w fun e w' => ∃ o n c, e = .returned (.slice o n c) ∧ Hid (n = (lessD s t).length) ∧ Below w.heap.size w w' := by
  obtain ⟨r0, r1, hb2, hs2⟩ := alloc2' w (.cells #[.int .i64 (s.u 0), .int .i64 (s.u 1), .int .i64 (s.u 2), .int .i64 (s.u 3), .int .i64 (s.u 4), .int .i64 (s.u 5), .int .i64 (s.u 6), .int .i64 (s.u 7), .slice oa s.more.length ca] 25) (.cells #[.int .i64 (t.u 0), .int .i64 (t.u 1), .int .i64 (t.u 2), .int .i64 (t.u 3), .int .i64 (t.u 4), .int .i64 (t.u 5), .int .i64 (t.u 6), .int .i64 (t.u 7), .slice ob t.more.length cb] 25)
  have hli := refList_any oa ca s _ (h.below Dot.cells_len (by decide) hb2 (Nat.le_refl _)) hl
  obtain ⟨D, hD⟩ : ∃ D, dotsOf s.grid = D := ⟨_, rfl⟩
  have hDm : ∀ d ∈ D, May d := fun d hd => by rw [← hD] at hd; exact ((mem_dotsOf s.grid_ok).1 hd).1
  have hDl : D.length ≤ 768 := by rw [← hD]; exact dotsOf_len s.grid_ok
  have hless : lessD s t = D.filter fun d => !t.grid d.node.toNat d.seq.toNat := by unfold lessD; rw [hD]
  rw [hD] at hli
  have HLI := Lib.hid hli
  have HLS := Lib.hid hless
  have HDM := Lib.hid hDm
  have HT2 := Lib.hid (k.below Dot.cells_len (by decide) hb2 (Nat.le_refl _))
  have HB2 := Lib.hid hb2
  have R1 := Lib.hid r1
  clear hli hless hDm hD h k hb2 r0 r1
  go_enter Try.func19, Try.ntmps19
  go_wp2_with fail
  generalize ((w.alloc (.cells #[.int .i64 (s.u 0), .int .i64 (s.u 1), .int .i64 (s.u 2), .int .i64 (s.u 3), .int .i64 (s.u 4), .int .i64 (s.u 5), .int .i64 (s.u 6), .int .i64 (s.u 7), .slice oa s.more.length ca] 25)).alloc (.cells #[.int .i64 (t.u 0), .int .i64 (t.u 1), .int .i64 (t.u 2), .int .i64 (t.u 3), .int .i64 (t.u 4), .int .i64 (t.u 5), .int .i64 (t.u 6), .int .i64 (t.u 7), .slice ob t.more.length cb] 25)) = w2 at *
  refine HLI.out.mono ?_
  rintro e w3 ⟨o3, n3, c3, rfl, hown3, hb3⟩
  obtain rfl : n3 = D.length := by
    obtain ⟨_, _, hv, _⟩ := hown3.at.slice_of
    simp only [Value.slice.injEq] at hv
    exact hv.2.1
  have hz3 := hb3.size
  have HO3 := Lib.hid hown3
  have HT3 := Lib.hid (HT2.out.below Dot.cells_len (by decide) hb3 (Nat.le_refl _))
  have HB3 := Lib.hid (HB2.out.trans (hb3.mono (by omega)))
  have R3 := Lib.hid ((hb3.block _ (by omega)).trans R1.out)
  clear hown3 hb3 HLI HT2 HB2 R1
  go_wp2_with fail
  go_loopg [5, 11] D.length (fun gk s5 s11 wr => ∃ (i : Nat) (oq : Option Addr) (cq : Nat) (ds : List Dot), s11 = .int .i64 i ∧ s5 = .slice oq ds.length cq ∧ i ≤ D.length ∧ D.length - i ≤ gk ∧ ds.length ≤ i ∧ Hid (ds = (D.take i).filter fun d => !t.grid d.node.toNat d.seq.toNat) ∧ Hid (Owns Dot.cells 2 w3.heap.size 77 wr (.slice oq ds.length cq) ds) ∧ Hid (Below w3.heap.size w3 wr))
  case atStart => exact ⟨0, none, 0, [], rfl, rfl, Nat.zero_le _, Nat.le_refl _, Nat.le_refl _, (by show _ = _; simp), Owns.nil _ _ _ _ _, Below.refl _ _⟩
  case round =>
    obtain ⟨i, oq, cq, ds, rfl, rfl, hi, hg, hdl, HD, HO, HB⟩ := hrel
    have hszw := HB.out.size
    by_cases hlt : i < D.length
    · have hltz : (i : Int) < (D.length : Int) := by omega
      have hsl := (HO3.out.below HB.out (Nat.le_refl _)).at
      obtain ⟨b, off, rfl⟩ := hsl.plain Dot.cells_len (by decide) (by intro e; rw [e] at hlt; exact absurd hlt (by simp))
      have c0 := hsl.cell Dot.cells_len (i := i) (c := 0) hlt (by decide)
      have c1 := hsl.cell Dot.cells_len (i := i) (c := 1) hlt (by decide)
      simp only [Dot.cells, List.getElem?_cons_zero, List.getElem?_cons_succ] at c0 c1
      rw [show off + (i * 2 + 0) = off + i * 2 by omega] at c0
      rw [show off + (i * 2 + 1) = off + i * 2 + 1 by omega] at c1
      have hmy := HDM.out _ (List.getElem_mem hlt)
      have htk : D.take (i + 1) = D.take i ++ [D[i]] := List.take_succ_eq_append_getElem hlt
      generalize D[i] = d at *
      have hba := (Below.refl wr.heap.size wr).alloc (Nat.le_refl _) (.cells #[.int .i64 d.node, .int .i64 d.seq] 77)
      have hza : (wr.alloc (.cells #[.int .i64 d.node, .int .i64 d.seq] 77)).heap.size = wr.heap.size + 1 := World.size_alloc _ _
      have hra : (wr.alloc (.cells #[.int .i64 d.node, .int .i64 d.seq] 77)).heap[wr.heap.size]? = some (.cells #[.int .i64 d.node, .int .i64 d.seq] 77) := heap_alloc_new wr _
      have p1 := (hba.block (w.heap.size + 1) (by omega)).trans ((HB.out.block _ (by omega)).trans R3.out)
      have sA := fun o => cell_of_row _ (w.heap.size + 1) o _ _ _ p1
      have hbw1 : Below w3.heap.size w3 (wr.alloc (.cells #[.int .i64 d.node, .int .i64 d.seq] 77)) := HB.out.trans (hba.mono hszw)
      have hhas := refHas_any ob cb t d hmy _ (HT3.out.below Dot.cells_len (by decide) hbw1 (Nat.le_refl _)) kl
      obtain ⟨c, hc⟩ : ∃ c, t.grid d.node.toNat d.seq.toNat = c := ⟨_, rfl⟩
      rw [hc] at hhas
      have HHAS := Lib.hid hhas
      have HC := Lib.hid hc
      have HTK := Lib.hid htk
      have HBA := Lib.hid hba
      have HBW := Lib.hid hbw1
      have HRA := Lib.hid hra
      clear hsl hmy htk hba p1 hbw1 hhas hc hra
      go_wp2_with fail
      generalize wr.alloc (.cells #[.int .i64 d.node, .int .i64 d.seq] 77) = wa at *
      refine HHAS.out.mono ?_
      rintro e w4 ⟨rfl, hb4⟩
      have hz4 := hb4.size
      have HB4 := Lib.hid (HBW.out.trans (hb4.mono (by omega)))
      have HO4 := Lib.hid ((HO.out.below HBA.out (Nat.le_refl _)).below hb4 (Nat.le_refl _))
      have hr4 := (hb4.block wr.heap.size (by omega)).trans HRA.out
      have d0 := cell_of_row _ wr.heap.size 0 _ _ _ hr4
      have d1 := cell_of_row _ wr.heap.size 1 _ _ _ hr4
      clear hb4 hr4 HHAS HBA HRA HBW HO HB sA c0 c1
      cases c with
      | true =>
        clear d0 d1
        go_wp2_with fail
        go_roundg (D.length - (i + 1))
        case measure => omega
        case rel => exact ⟨i + 1, oq, cq, ds, by go_num, rfl, by omega, Nat.le_refl _, by omega, (by show _ = _; rw [HTK.out, List.filter_append, ← HD.out]; simp [HC.out]), HO4.out, HB4.out⟩
      | false =>
        go_wp2_with (at_builtin; go_loud (refine wpList_app Dot.cells 2 Dot.cells_len (by decide) Dot.cells_one _ rfl _ _ 23 rfl w3.heap.size 77 _ 16 Try.underlying23 infoDot rfl _ ds rfl ?h1 _ [d] rfl ?h2 ?h3 ?h4 ?h5 ?_))
        case h1 => exact HO4.out.below ((Below.refl _ _).alloc (Nat.le_refl _) _) (Nat.le_refl _)
        case h2 => exact slAt_new (enc := Dot.cells) w4 #[.int .i64 d.node, .int .i64 d.seq] 77 1 1 (0, 0) [d] rfl rfl (by decide)
        case h3 => simp only [List.length_singleton]; omega
        case h4 => simp only [List.length_singleton]; omega
        case h5 => rw [World.size_alloc]; omega
        intro v' w' hown2 hg2 hv2
        obtain ⟨o', c', hv'⟩ := slAt_slice hown2.at
        subst hv'
        have hge : ∀ k, (Value.slice oq ds.length cq).ownBlock = some k → w3.heap.size ≤ k := fun k hk => (HO4.out.lt k hk).1
        have hb' : Below w3.heap.size w3 w' := (HB4.out.alloc HB4.out.size _).grown hg2 (by rw [World.size_alloc]; omega) (fun k hk => hge k hk)
        have hln : (ds ++ [d]).length = ds.length + 1 := by simp
        rw [hln] at hown2 ⊢
        have HOWN2 := Lib.hid hown2
        have HB5 := Lib.hid hb'
        have HLN := Lib.hid hln
        clear hown2 hg2 hv2 hge hb' hln d0 d1
        go_wp2_with fail
        go_roundg (D.length - (i + 1))
        case measure => omega
        case rel => exact ⟨i + 1, o', c', ds ++ [d], by go_num, (by rw [HLN.out]), by omega, Nat.le_refl _, (by rw [HLN.out]; omega), (by show _ = _; rw [HTK.out, List.filter_append, ← HD.out]; simp [HC.out]), (by show Owns _ _ _ _ _ _ _; rw [HLN.out]; exact HOWN2.out), HB5.out⟩
    · have hltz : ¬ (i : Int) < (D.length : Int) := by omega
      obtain rfl : i = D.length := by omega
      have HBZ := Lib.hid (HB3.out.trans (HB.out.mono HB3.out.size))
      go_wp2_with fail
      go_ret
      exact ⟨oq, ds.length, ⟨cq, rfl⟩, (by
        show _ = _
        have h1 := HD.out
        rw [List.take_length] at h1
        rw [HLS.out, ← h1]), HBZ.out⟩
set_option maxHeartbeats 4000000 in
theorem lessFn2_any (ob gb : Nat) (g : Grid) (d : Dot) (hm : May d) (w : World) (ho : w.heap[ob]? = some (.cells #[.pointer (some ⟨gb, 0, none⟩)] 110)) (hg : GridAt w gb g) :
    Calls Try.prog 40 #[.agg #[.int .i64 d.node, .int .i64 d.seq], .pointer (some ⟨ob, 0, none⟩)] w fun e w' => e = .returned (.bool (g d.node.toNat d.seq.toNat)) ∧ Below w.heap.size w w' := by
  have hb1 := (Below.refl w.heap.size w).alloc (Nat.le_refl _) (.cells #[.int .i64 d.node, .int .i64 d.seq] 77)
  unfold May at hm
  obtain ⟨hm1, hm2, hm3, hm4⟩ := hm
  have hm5 : d.seq < 98 := by omega
  have hm6 : 0 ≤ d.seq := by omega
  have c0 := cell_of_row _ ob 0 _ _ _ ((hb1.block ob (Array.getElem?_eq_some_iff.1 ho).1).trans ho)
  have gc := (hg.below hb1 hg.lt).cell d.node.toNat d.seq.toNat (by omega) (by omega)
  have hr0 : (w.alloc (.cells #[.int .i64 d.node, .int .i64 d.seq] 77)).heap[w.heap.size]? = _ := heap_alloc_new w _
  have d0 := cell_of_row _ w.heap.size 0 _ _ _ hr0
  have d1 := cell_of_row _ w.heap.size 1 _ _ _ hr0
  have HB1 := Lib.hid hb1
  clear hb1 hr0 ho hg
  go_enter Try.func40, Try.ntmps40
  go_wp2_with fail
  go_region_law (fail)
  all_goals
    go_wp2_with fail
    go_ret
    exact ⟨rfl, below_drew HB1.out⟩
set_option maxHeartbeats 8000000 in
theorem less_any (oa ob : Option Addr) (ca cb : Nat) (s t : DSet) (w : World) (h : SlAt Dot.cells w (.slice oa s.more.length ca) s.more) (k : SlAt Dot.cells w (.slice ob t.more.length cb) t.more) (hl : s.more.length ≤ 1000000) (kl : t.more.length ≤ 1000000) :
    Calls Try.prog 28 #[.agg #[.int .i64 (s.u 0), .int .i64 (s.u 1), .int .i64 (s.u 2), .int .i64 (s.u 3), .int .i64 (s.u 4), .int .i64 (s.u 5), .int .i64 (s.u 6), .int .i64 (s.u 7), .slice oa s.more.length ca], .agg #[.int .i64 (t.u 0), .int .i64 (t.u 1), .int .i64 (t.u 2), .int .i64 (t.u 3), .int .i64 (t.u 4), .int .i64 (t.u 5), .int .i64 (t.u 6), .int .i64 (t.u 7), .slice ob t.more.length cb]] w fun e w' => ∃ o n c, e = .returned (.slice o n c) ∧ Hid (n = (lessD s t).length) ∧ Below w.heap.size w w' := by
  have eg : ∀ args w, (callFunc 40 args).run Try.prog w = .ok (.enter 40 args) w := enters_of Try.func40 (by kernel_rfl) rfl
  obtain ⟨r0, r1, hb2, hs2⟩ := alloc2' w (.cells #[.int .i64 (s.u 0), .int .i64 (s.u 1), .int .i64 (s.u 2), .int .i64 (s.u 3), .int .i64 (s.u 4), .int .i64 (s.u 5), .int .i64 (s.u 6), .int .i64 (s.u 7), .slice oa s.more.length ca] 38) (.cells #[.int .i64 (t.u 0), .int .i64 (t.u 1), .int .i64 (t.u 2), .int .i64 (t.u 3), .int .i64 (t.u 4), .int .i64 (t.u 5), .int .i64 (t.u 6), .int .i64 (t.u 7), .slice ob t.more.length cb] 38)
  have HS2 := Lib.hid (h.below Dot.cells_len (by decide) hb2 (Nat.le_refl _))
  have hof := of_one ob cb t _ (k.below Dot.cells_len (by decide) hb2 (Nat.le_refl _)) kl
  have HOF := Lib.hid hof
  have R0 := Lib.hid r0
  have R1 := Lib.hid r1
  have HB2 := Lib.hid hb2
  clear r0 r1 hb2 hof h k
  go_enter Try.func28, Try.ntmps28
  go_wp2_with fail
  generalize ((w.alloc (.cells #[.int .i64 (s.u 0), .int .i64 (s.u 1), .int .i64 (s.u 2), .int .i64 (s.u 3), .int .i64 (s.u 4), .int .i64 (s.u 5), .int .i64 (s.u 6), .int .i64 (s.u 7), .slice oa s.more.length ca] 38)).alloc (.cells #[.int .i64 (t.u 0), .int .i64 (t.u 1), .int .i64 (t.u 2), .int .i64 (t.u 3), .int .i64 (t.u 4), .int .i64 (t.u 5), .int .i64 (t.u 6), .int .i64 (t.u 7), .slice ob t.more.length cb] 38)) = w2 at *
  rw [hs2] at HOF
  refine HOF.out.mono ?_
  rintro e w3 ⟨gb, rfl, hgb, hgr, hb3⟩
  rw [← hs2] at hb3
  have hz3 := hb3.size
  have hb4 := (Below.refl w3.heap.size w3).alloc (Nat.le_refl _) (.cells #[.pointer (some ⟨gb, 0, none⟩)] 110)
  have ho4 : (w3.alloc (.cells #[.pointer (some ⟨gb, 0, none⟩)] 110)).heap[w3.heap.size]? = some (.cells #[.pointer (some ⟨gb, 0, none⟩)] 110) := heap_alloc_new w3 _
  have hz4 : (w3.alloc (.cells #[.pointer (some ⟨gb, 0, none⟩)] 110)).heap.size = w3.heap.size + 1 := World.size_alloc _ _
  have hglt := hgr.lt
  have hg4 := hgr.below hb4 hglt
  have hs4 := (HS2.out.below Dot.cells_len (by decide) hb3 (Nat.le_refl _)).below Dot.cells_len (by decide) hb4 (Nat.le_refl _)
  have hli := list_any oa ca s _ hs4 hl
  have q4 := (hb4.block w.heap.size (by omega)).trans ((hb3.block _ (by omega)).trans R0.out)
  have sA := fun o => cell_of_row _ w.heap.size o _ _ _ q4
  have HLI := Lib.hid hli
  have HO4 := Lib.hid ho4
  have HG4 := Lib.hid hg4
  have HB4 := Lib.hid (HB2.out.trans ((hb3.trans (hb4.mono hz3)).mono (by omega)))
  clear hgr hb3 hb4 ho4 hg4 hs4 hli q4 HOF R0 R1 HS2
  go_wp2_with fail
  generalize w3.alloc (.cells #[.pointer (some ⟨gb, 0, none⟩)] 110) = w4 at *
  refine HLI.out.mono ?_
  rintro e w5 ⟨⟨o5, n5, c5⟩, rfl, hown5, hb5⟩
  have hz5 := hb5.size
  have hlow : ∀ g, (Value.slice o5 n5 c5).ownBlock = some g → w4.heap.size ≤ g := fun g hg => (hown5.lt g hg).1
  have hdl := deleteDots_any 40 #[.pointer (some ⟨w3.heap.size, 0, none⟩)] eg o5 n5 c5 (dotsOf s.grid) (fun d => t.grid d.node.toNat d.seq.toNat) w5 w4.heap.size hz5 hown5 (Nat.le_trans (dotsOf_len s.grid_ok) (by decide)) (fun g hg d hd W hsz hb => by
    have hg' : g < w4.heap.size → (Value.slice o5 n5 c5).ownBlock = none := fun h1 => by
      rcases hg with h2 | h2
      · have := hlow g h2; omega
      · exact h2
    have hk : ∀ i, i < w4.heap.size → i ≠ g → W.heap[i]? = w4.heap[i]? := fun i hi hne => (hb i (by omega) hne).trans (hb5.block i hi)
    by_cases hgg : w3.heap.size ≠ g ∧ gb ≠ g
    · exact lessFn2_any w3.heap.size gb t.grid d ((mem_dotsOf s.grid_ok).1 hd).1 W ((hk _ (by omega) hgg.1).trans HO4.out) (HG4.out.keep (hk _ (by omega) hgg.2))
    · exfalso
      have h3 : g < w4.heap.size := by
        rcases Classical.not_and_iff_not_or_not.1 hgg with h | h
        · have := Classical.not_not.1 h; omega
        · have := Classical.not_not.1 h; omega
      have h4 := hg' h3
      obtain ⟨_, _, hv, _⟩ := hown5.at.slice_of
      have h5 : dotsOf s.grid = [] := by
        rcases hown5.2 with ⟨h6, h7⟩ | ⟨g', cap', cur, h6, _⟩
        · exact List.eq_nil_of_length_eq_zero h7
        · have h6' : Value.slice o5 n5 c5 = _ := h6
          rw [h6'] at h4
          cases h4
      rw [h5] at hd
      cases hd)
  have HDL := Lib.hid hdl
  have HB5 := Lib.hid (HB4.out.trans (hb5.mono HB4.out.size))
  clear hdl hown5 hb5 HLI hlow
  simp only [Hdr.val]
  go_wp2_with fail
  refine HDL.out.mono ?_
  rintro e w6 ⟨o6, m6, c6, rfl, hown6, hb6⟩
  have HN : Hid (m6 = (lessD s t).length) := by
    obtain ⟨_, _, hv, _⟩ := hown6.at.slice_of
    simp only [Value.slice.injEq] at hv
    exact hv.2.1
  have HB6 : Hid (Below w.heap.size w w6) := ⟨hb6.os.trans HB5.out.os, hb6.tape.trans HB5.out.tape, hb6.output.trans HB5.out.output, Nat.le_trans HB5.out.size hb6.size, fun i hi => (hb6.block i (by have := HB4.out.size; omega)).trans (HB5.out.block i hi)⟩
  clear hb6 hown6 HDL
  go_wp2_with fail
  go_ret
  exact ⟨o6, m6, c6, rfl, HN, HB6.out⟩
end Go.Proofs.Ytkdjfoehpioghaa
