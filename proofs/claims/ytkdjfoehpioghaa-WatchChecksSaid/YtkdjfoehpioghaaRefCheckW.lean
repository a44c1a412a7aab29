/-
  The document's own reckoning of what is broken, walked.
-/
import Derived.Test.YtkdjfoehpioghaaBreaks
namespace Go.Proofs.Ytkdjfoehpioghaa
open Go.Shelf Go.RowKit Go.Lib Go.Sort
set_option linter.unusedVariables false
set_option linter.unusedSimpArgs false
theorem atL_one1 (a b : WV) (i : Nat) : atL [(1, 0), (2, 1)] (rule1 a b) i = (if forgotB a b i then [⟨1, (i : Int)⟩] else []) ++ (if fellB a b i then [⟨2, (i : Int)⟩] else []) := by
  unfold atL
  have h1 : rule1 a b (1, 0) i = forgotB a b i := if_pos rfl
  have h2 : rule1 a b (2, 1) i = fellB a b i := if_neg (by decide)
  rw [List.filter_cons, List.filter_cons, h1, h2]
  cases forgotB a b i <;> cases fellB a b i <;> rfl
theorem atL_one2 (a b : WV) (i : Nat) : atL [(3, 0), (4, 1)] (rule2 a b) i = (if jumpedB a b i then [⟨3, (i : Int)⟩] else []) ++ (if movedB a b i then [⟨4, (i : Int)⟩] else []) := by
  unfold atL
  have h1 : rule2 a b (3, 0) i = jumpedB a b i := if_pos rfl
  have h2 : rule2 a b (4, 1) i = movedB a b i := if_neg (by decide)
  rw [List.filter_cons, List.filter_cons, h1, h2]
  cases jumpedB a b i <;> cases movedB a b i <;> rfl
theorem forgotB_at {a b : WV} {i : Nat} {m n : WN} (hm : a.nodes[i]? = some m) (hn : b.nodes[i]? = some n) : forgotB a b i = ((m.runs && n.runs) && decide (0 < (lessD m.s n.s).length)) := by
  unfold forgotB
  rw [hm, hn]
theorem fellB_at {a b : WV} {i : Nat} {m n : WN} (hm : a.nodes[i]? = some m) (hn : b.nodes[i]? = some n) : fellB a b i = ((m.runs && n.runs) && decide (n.inc < m.inc)) := by
  unfold fellB
  rw [hm, hn]
set_option maxRecDepth 100000 in
set_option maxHeartbeats 16000000 in
theorem refCheck_any (a b : WV) (ha : a.Ok) (hb : b.Ok) (fa : FencesOk a) (fb : FencesOk b) (w : World) (sa : SetsIn w a) (sb : SetsIn w b) :
    Calls Try.prog 10 #[.agg a.cells.toArray, .agg b.cells.toArray] w fun e w' => ∃ o n c, e = .returned (.slice o n c) ∧ Owns Dot.cells 2 w.heap.size 51 w' (.slice o n c) (checkL a b) ∧ Below w.heap.size w w' := by
  obtain ⟨r0, r1, hb2, hs2⟩ := alloc2' w (.cells a.cells.toArray 30) (.cells b.cells.toArray 30)
  have R0 := Lib.hid r0
  have R1 := Lib.hid r1
  have HB2 := Lib.hid hb2
  have HA := Lib.hid ha
  have HB := Lib.hid hb
  have SA := Lib.hid sa
  have SB := Lib.hid sb
  have FA := Lib.hid fa
  have FB := Lib.hid fb
  clear r0 r1 hb2 ha hb sa sb fa fb
  generalize hcA : a.cells.toArray = cA at *
  generalize hcB : b.cells.toArray = cB at *
  have HCA := Lib.hid hcA
  have HCB := Lib.hid hcB
  clear hcA hcB
  go_enter Try.func10, Try.ntmps10
  go_wp2_with fail
  generalize (w.alloc (.cells cA 30)).alloc (.cells cB 30) = w2 at *
  go_loopg [5, 6] 8 (fun gk s5 s6 wr => ∃ (i : Nat) (oq : Option Addr) (mq cq : Nat), s6 = .int .i64 i ∧ s5 = .slice oq mq cq ∧ i ≤ 8 ∧ 8 - i ≤ gk ∧ Hid (Owns Dot.cells 2 (w.heap.size + 2) 51 wr (.slice oq mq cq) (overL [(1, 0), (2, 1)] (rule1 a b) i)) ∧ Hid (Below w2.heap.size w2 wr))
  case atStart => exact ⟨0, none, 0, 0, rfl, rfl, by omega, by omega, Owns.nil _ _ _ _ _, Below.refl _ _⟩
  case round =>
    obtain ⟨i, oq, mq, cq, rfl, rfl, hi, hgk, HO, HBR⟩ := hrel
    have hsz := HBR.out.size
    by_cases hlt : i < 8
    · have hltz : (i : Int) < 8 := by omega
      obtain ⟨m, hm⟩ : ∃ m, a.nodes[i]? = some m := ⟨_, List.getElem?_eq_getElem (by rw [HA.out.nodes]; exact hlt)⟩
      obtain ⟨n, hn⟩ : ∃ n, b.nodes[i]? = some n := ⟨_, List.getElem?_eq_getElem (by rw [HB.out.nodes]; exact hlt)⟩
      have hra := (HBR.out.block w.heap.size (by omega)).trans R0.out
      have hrb := (HBR.out.block (w.heap.size + 1) (by omega)).trans R1.out
      have am : ∀ k, k < 11 → wr.drew.cell? ⟨w.heap.size, i * 11 + k, none⟩ = m.cells[k]? := fun k hk => (cell_of_row wr.drew _ _ _ _ _ hra).trans (by
        rw [← HCA.out, List.getElem?_toArray, WV.at_node HA.out hlt hk]
        rw [List.getElem?_eq_getElem (by rw [HA.out.nodes]; exact hlt)] at hm
        rw [Option.some.inj hm])
      have bm : ∀ k, k < 11 → wr.drew.cell? ⟨w.heap.size + 1, i * 11 + k, none⟩ = n.cells[k]? := fun k hk => (cell_of_row wr.drew _ _ _ _ _ hrb).trans (by
        rw [← HCB.out, List.getElem?_toArray, WV.at_node HB.out hlt hk]
        rw [List.getElem?_eq_getElem (by rw [HB.out.nodes]; exact hlt)] at hn
        rw [Option.some.inj hn])
      have a0 := am 0 (by omega)
      have c0 : wr.cell? ⟨w.heap.size, i * 11 + 0, none⟩ = m.cells[0]? := a0
      have a1 := am 1 (by omega)
      have c1 : wr.cell? ⟨w.heap.size, i * 11 + 1, none⟩ = m.cells[1]? := a1
      have a2 := am 2 (by omega)
      have c2 : wr.cell? ⟨w.heap.size, i * 11 + 2, none⟩ = m.cells[2]? := a2
      have a3 := am 3 (by omega)
      have c3 : wr.cell? ⟨w.heap.size, i * 11 + 3, none⟩ = m.cells[3]? := a3
      have a4 := am 4 (by omega)
      have c4 : wr.cell? ⟨w.heap.size, i * 11 + 4, none⟩ = m.cells[4]? := a4
      have a5 := am 5 (by omega)
      have c5 : wr.cell? ⟨w.heap.size, i * 11 + 5, none⟩ = m.cells[5]? := a5
      have a6 := am 6 (by omega)
      have c6 : wr.cell? ⟨w.heap.size, i * 11 + 6, none⟩ = m.cells[6]? := a6
      have a7 := am 7 (by omega)
      have c7 : wr.cell? ⟨w.heap.size, i * 11 + 7, none⟩ = m.cells[7]? := a7
      have a8 := am 8 (by omega)
      have c8 : wr.cell? ⟨w.heap.size, i * 11 + 8, none⟩ = m.cells[8]? := a8
      have a9 := am 9 (by omega)
      have c9 : wr.cell? ⟨w.heap.size, i * 11 + 9, none⟩ = m.cells[9]? := a9
      have a10 := am 10 (by omega)
      have c10 : wr.cell? ⟨w.heap.size, i * 11 + 10, none⟩ = m.cells[10]? := a10
      have b0 := bm 0 (by omega)
      have d0 : wr.cell? ⟨w.heap.size + 1, i * 11 + 0, none⟩ = n.cells[0]? := b0
      have b1 := bm 1 (by omega)
      have d1 : wr.cell? ⟨w.heap.size + 1, i * 11 + 1, none⟩ = n.cells[1]? := b1
      have b2 := bm 2 (by omega)
      have d2 : wr.cell? ⟨w.heap.size + 1, i * 11 + 2, none⟩ = n.cells[2]? := b2
      have b3 := bm 3 (by omega)
      have d3 : wr.cell? ⟨w.heap.size + 1, i * 11 + 3, none⟩ = n.cells[3]? := b3
      have b4 := bm 4 (by omega)
      have d4 : wr.cell? ⟨w.heap.size + 1, i * 11 + 4, none⟩ = n.cells[4]? := b4
      have b5 := bm 5 (by omega)
      have d5 : wr.cell? ⟨w.heap.size + 1, i * 11 + 5, none⟩ = n.cells[5]? := b5
      have b6 := bm 6 (by omega)
      have d6 : wr.cell? ⟨w.heap.size + 1, i * 11 + 6, none⟩ = n.cells[6]? := b6
      have b7 := bm 7 (by omega)
      have d7 : wr.cell? ⟨w.heap.size + 1, i * 11 + 7, none⟩ = n.cells[7]? := b7
      have b8 := bm 8 (by omega)
      have d8 : wr.cell? ⟨w.heap.size + 1, i * 11 + 8, none⟩ = n.cells[8]? := b8
      have b9 := bm 9 (by omega)
      have d9 : wr.cell? ⟨w.heap.size + 1, i * 11 + 9, none⟩ = n.cells[9]? := b9
      have b10 := bm 10 (by omega)
      have d10 : wr.cell? ⟨w.heap.size + 1, i * 11 + 10, none⟩ = n.cells[10]? := b10
      obtain ⟨rm, im, ⟨om, lm, cm⟩, sm⟩ := m
      obtain ⟨rn, iN, ⟨oN, ln, cn⟩, sn⟩ := n
      have hsm := SA.out _ (List.mem_of_getElem? hm)
      have hsn := SB.out _ (List.mem_of_getElem? hn)
      simp only [Hdr.val] at hsm hsn
      obtain rfl : lm = sm.more.length := by
        obtain ⟨_, _, hv, _⟩ := hsm.1.slice_of
        simp only [Value.slice.injEq] at hv
        exact hv.2.1
      obtain rfl : ln = sn.more.length := by
        obtain ⟨_, _, hv, _⟩ := hsn.1.slice_of
        simp only [Value.slice.injEq] at hv
        exact hv.2.1
      simp only [WN.cells, List.getElem?_cons_zero, List.getElem?_cons_succ, Nat.add_zero, Hdr.val] at a0 a1 a2 a3 a4 a5 a6 a7 a8 a9 a10 b0 b1 b2 b3 b4 b5 b6 b7 b8 b9 b10 c0 c1 c2 c3 c4 c5 c6 c7 c8 c9 c10 d0 d1 d2 d3 d4 d5 d6 d7 d8 d9 d10
      have HSM := Lib.hid hsm
      have HSN := Lib.hid hsn
      have HM := Lib.hid hm
      have HN := Lib.hid hn
      have hk0 : w.heap.size < wr.heap.size := by omega
      have hk1 : w.heap.size + 1 < wr.heap.size := by omega
      clear am bm hra hrb hm hn hsm hsn
      have Q := Lib.hid (alloc2' wr (.cells #[.bool rm, .int .i64 im, .int .i64 (sm.u 0), .int .i64 (sm.u 1), .int .i64 (sm.u 2), .int .i64 (sm.u 3), .int .i64 (sm.u 4), .int .i64 (sm.u 5), .int .i64 (sm.u 6), .int .i64 (sm.u 7), .slice om sm.more.length cm] 27) (.cells #[.bool rn, .int .i64 iN, .int .i64 (sn.u 0), .int .i64 (sn.u 1), .int .i64 (sn.u 2), .int .i64 (sn.u 3), .int .i64 (sn.u 4), .int .i64 (sn.u 5), .int .i64 (sn.u 6), .int .i64 (sn.u 7), .slice oN sn.more.length cn] 27))
      have Q' := Lib.hid (alloc2' wr (.cells #[.bool rn, .int .i64 iN, .int .i64 (sn.u 0), .int .i64 (sn.u 1), .int .i64 (sn.u 2), .int .i64 (sn.u 3), .int .i64 (sn.u 4), .int .i64 (sn.u 5), .int .i64 (sn.u 6), .int .i64 (sn.u 7), .slice oN sn.more.length cn] 27) (.cells #[.bool rm, .int .i64 im, .int .i64 (sm.u 0), .int .i64 (sm.u 1), .int .i64 (sm.u 2), .int .i64 (sm.u 3), .int .i64 (sm.u 4), .int .i64 (sm.u 5), .int .i64 (sm.u 6), .int .i64 (sm.u 7), .slice om sm.more.length cm] 27))
      go_wp2_with fail
      refine wp_cutX (fun (x : Nat × Nat) a => (((((((((a.put (some 16) (.int .i64 i)).put (some 17) (.pointer (some ⟨w.heap.size, 0, none⟩))).put (some 18) (.pointer (some ⟨w.heap.size, i * 11, none⟩))).put (some 19) (.agg #[.bool rm, .int .i64 im, .int .i64 (sm.u 0), .int .i64 (sm.u 1), .int .i64 (sm.u 2), .int .i64 (sm.u 3), .int .i64 (sm.u 4), .int .i64 (sm.u 5), .int .i64 (sm.u 6), .int .i64 (sm.u 7), .slice om sm.more.length cm])).put (some 20) (.int .i64 i)).put (some 21) (.pointer (some ⟨w.heap.size + 1, 0, none⟩))).put (some 22) (.pointer (some ⟨w.heap.size + 1, i * 11, none⟩))).put (some 23) (.agg #[.bool rn, .int .i64 iN, .int .i64 (sn.u 0), .int .i64 (sn.u 1), .int .i64 (sn.u 2), .int .i64 (sn.u 3), .int .i64 (sn.u 4), .int .i64 (sn.u 5), .int .i64 (sn.u 6), .int .i64 (sn.u 7), .slice oN sn.more.length cn])).put (some 7) (.pointer (some ⟨x.1, 0, none⟩))).put (some 8) (.pointer (some ⟨x.2, 0, none⟩)))
        (fun x w' => w'.heap[x.1]? = some (.cells #[.bool rm, .int .i64 im, .int .i64 (sm.u 0), .int .i64 (sm.u 1), .int .i64 (sm.u 2), .int .i64 (sm.u 3), .int .i64 (sm.u 4), .int .i64 (sm.u 5), .int .i64 (sm.u 6), .int .i64 (sm.u 7), .slice om sm.more.length cm] 27) ∧ w'.heap[x.2]? = some (.cells #[.bool rn, .int .i64 iN, .int .i64 (sn.u 0), .int .i64 (sn.u 1), .int .i64 (sn.u 2), .int .i64 (sn.u 3), .int .i64 (sn.u 4), .int .i64 (sn.u 5), .int .i64 (sn.u 6), .int .i64 (sn.u 7), .slice oN sn.more.length cn] 27) ∧ Below wr.heap.size wr w' ∧ wr.heap.size ≤ x.1 ∧ wr.heap.size ≤ x.2) ?_ ?_
      next =>
        --REGION
        go_region_law (fail)
        all_goals first
          | exact ⟨(wr.heap.size, wr.heap.size + 1), by kernel_rfl, Q.out.1, Q.out.2.1, below_drew Q.out.2.2.1, Nat.le_refl _, Nat.le_succ _⟩
          | exact ⟨(wr.heap.size + 1, wr.heap.size), by kernel_rfl, Q'.out.2.1, Q'.out.1, below_drew Q'.out.2.2.1, Nat.le_succ _, Nat.le_refl _⟩
        --END
      next =>
        clear a0 a1 a2 a3 a4 a5 a6 a7 a8 a9 a10 b0 b1 b2 b3 b4 b5 b6 b7 b8 b9 b10 c0 c1 c2 c3 c4 c5 c6 c7 c8 c9 c10 d0 d1 d2 d3 d4 d5 d6 d7 d8 d9 d10 Q Q'
        rintro ⟨x, y⟩ w3 ⟨hx, hy, hb3, hgx, hgy⟩
        simp only [Act.put, List.setIfInBounds_toArray, List.set_cons_succ, List.set_cons_zero] at hx hy hgx hgy ⊢
        have e := fun o => cell_of_row w3 x o _ _ _ hx
        have f := fun o => cell_of_row w3 y o _ _ _ hy
        have hxl := (Array.getElem?_eq_some_iff.1 hx).1
        have hyl := (Array.getElem?_eq_some_iff.1 hy).1
        have e0 := e 0
        have e1 := e 1
        have e2 := e 2
        have e3 := e 3
        have e4 := e 4
        have e5 := e 5
        have e6 := e 6
        have e7 := e 7
        have e8 := e 8
        have e9 := e 9
        have e10 := e 10
        have f0 := f 0
        have f1 := f 1
        have f2 := f 2
        have f3 := f 3
        have f4 := f 4
        have f5 := f 5
        have f6 := f 6
        have f7 := f 7
        have f8 := f 8
        have f9 := f 9
        have f10 := f 10
        simp only [List.getElem?_toArray, List.getElem?_cons_zero, List.getElem?_cons_succ] at e0 e1 e2 e3 e4 e5 e6 e7 e8 e9 e10 f0 f1 f2 f3 f4 f5 f6 f7 f8 f9 f10
        have HX := Lib.hid hx
        have HY := Lib.hid hy
        have hz3 := hb3.size
        have HB23 := Lib.hid (HBR.out.trans (hb3.mono hsz))
        have HBW := Lib.hid (HB2.out.trans ((HBR.out.trans (hb3.mono hsz)).mono HB2.out.size))
        have HO3 := Lib.hid (HO.out.below hb3 (Nat.le_refl _))
        have HOL := Lib.hid (fun g hg => (HO.out.lt g hg).2)
        have hfo := forgotB_at HM.out HN.out
        have hfe := fellB_at HM.out HN.out
        dsimp only at hfo hfe
        have HFO := Lib.hid hfo
        have HFE := Lib.hid hfe
        clear hx hy hb3 e f HO HBR hfo hfe
        by_cases hrr : (rm && rn) = true
        · rw [Bool.and_eq_true] at hrr
          obtain ⟨rfl, rfl⟩ := hrr
          have hle := refLess_any om oN cm cn sm sn w3 (HSM.out.1.below Dot.cells_len (by decide) HBW.out (Nat.le_refl _)) (HSN.out.1.below Dot.cells_len (by decide) HBW.out (Nat.le_refl _)) HSM.out.2 HSN.out.2
          have HLE := Lib.hid hle
          clear hle
          go_wp2_with fail
          refine HLE.out.mono ?_
          rintro e w4 ⟨o4, n4, c4, rfl, hn4, hb4⟩
          have HX4 := Lib.hid ((hb4.block x hxl).trans HX.out)
          have HY4 := Lib.hid ((hb4.block y hyl).trans HY.out)
          have hz4 := hb4.size
          have HO4 := Lib.hid (HO3.out.below hb4 (Nat.le_refl _))
          have HB24 := Lib.hid (HB23.out.trans (hb4.mono (by omega)))
          have hlL := overL_len [(1, 0), (2, 1)] (rule1 a b) i
          generalize hL : overL [(1, 0), (2, 1)] (rule1 a b) i = L at *
          have HL := Lib.hid hL
          simp only [List.length_cons, List.length_nil] at hlL
          clear hb4 HLE e0 e1 e2 e3 e4 e5 e6 e7 e8 e9 e10 f0 f1 f2 f3 f4 f5 f6 f7 f8 f9 f10 HX HY HO3 HB23 hL
          have hpos0 := hn4.out
          by_cases hpos : (0 : Int) < (n4 : Int)
          · have HF : Hid (forgotB a b i = true) := by
              show _ = _
              rw [HFO.out, Bool.true_and, Bool.true_and, decide_eq_true_eq, ← hpos0]
              omega
            clear hpos0
            go_wp2_with (at_builtin; go_loud (refine wpList_app Dot.cells 2 Dot.cells_len (by decide) Dot.cells_one _ rfl _ _ 34 rfl (w.heap.size + 2) 51 _ 16 Try.underlying34 infoBreakR rfl _ (L) rfl ?h1_5 _ [⟨1, (i : Int)⟩] rfl ?h2_5 ?h3_5 ?h4_5 ?h5_5 ?_))
            case h1_5 => exact HO4.out.below ((Below.refl _ _).alloc (Nat.le_refl _) _) (Nat.le_refl _)
            case h2_5 => exact slAt_new (enc := Dot.cells) w4 #[.int .i64 1, .int .i64 (i : Int)] 51 1 1 (0, 0) [⟨1, (i : Int)⟩] rfl rfl (by decide)
            case h3_5 => simp only [List.length_append, List.length_singleton]; omega
            case h4_5 => simp only [List.length_append, List.length_singleton]; omega
            case h5_5 => rw [World.size_alloc]; have := HB24.out.size; omega
            intro v5 w5 hown5 hg5 hv5
            obtain ⟨o5, c5, hv'5⟩ := slAt_slice hown5.at
            obtain ⟨L5, hL5⟩ : ∃ L5, (L) ++ [(⟨1, (i : Int)⟩ : Dot)] = L5 := ⟨_, rfl⟩
            try simp only [List.append_assoc] at hL5
            rw [hL5] at hown5 hv'5
            obtain ⟨n5, hn5⟩ : ∃ n5, L5.length = n5 := ⟨_, rfl⟩
            rw [hn5] at hv'5
            subst hv'5
            have hx := (hg5.block x (by rw [World.size_alloc]; omega) (fun h => by have := HOL.out _ h.symm; omega)).trans ((Below.heap_alloc w4 (.cells #[.int .i64 1, .int .i64 (i : Int)] 51) x (by omega)).trans HX4.out)
            have e1 := cell_of_row w5 x 1 _ _ _ hx
            clear hx
            have hx := (hg5.block y (by rw [World.size_alloc]; omega) (fun h => by have := HOL.out _ h.symm; omega)).trans ((Below.heap_alloc w4 (.cells #[.int .i64 1, .int .i64 (i : Int)] 51) y (by omega)).trans HY4.out)
            have f1 := cell_of_row w5 y 1 _ _ _ hx
            clear hx
            have HB25 := Lib.hid ((HB24.out.alloc HB24.out.size _).grown hg5 (by rw [World.size_alloc]; have := HB24.out.size; omega) (fun k hk => by have := (HO4.out.lt k hk).1; omega))
            have HO5 := Lib.hid hown5
            have hl5 : L5.length ≤ 17 := by rw [← hL5]; simp only [List.length_append, List.length_singleton]; omega
            have HLN5 := Lib.hid hL5
            clear hown5 hg5 hv5 hL5 hn5
            have HLL5 : Hid (overL [(1, 0), (2, 1)] (rule1 a b) (i + 1) = L5 ++ (if fellB a b i = true then [⟨2, (i : Int)⟩] else [])) := by
              show _ = _
              rw [overL_succ, HL.out, atL_one1, if_pos HF.out, ← List.append_assoc, HLN5.out]
            simp only [List.getElem?_toArray, List.getElem?_cons_zero, List.getElem?_cons_succ] at e1 f1
            clear HX4 HY4 HO4 HB24 HF
            by_cases hfl : iN < im
            · have HFF : Hid (fellB a b i = true) := by show _ = _; rw [HFE.out]; simpa using hfl
              go_wp2_with (at_builtin; go_loud (refine wpList_app Dot.cells 2 Dot.cells_len (by decide) Dot.cells_one _ rfl _ _ 34 rfl (w.heap.size + 2) 51 _ 16 Try.underlying34 infoBreakR rfl _ (L5) rfl ?h1_6 _ [⟨2, (i : Int)⟩] rfl ?h2_6 ?h3_6 ?h4_6 ?h5_6 ?_))
              case h1_6 => exact HO5.out.below ((Below.refl _ _).alloc (Nat.le_refl _) _) (Nat.le_refl _)
              case h2_6 => exact slAt_new (enc := Dot.cells) w5 #[.int .i64 2, .int .i64 (i : Int)] 51 1 1 (0, 0) [⟨2, (i : Int)⟩] rfl rfl (by decide)
              case h3_6 => simp only [List.length_append, List.length_singleton]; omega
              case h4_6 => simp only [List.length_append, List.length_singleton]; omega
              case h5_6 => rw [World.size_alloc]; have := HB25.out.size; omega
              intro v6 w6 hown6 hg6 hv6
              obtain ⟨o6, c6, hv'6⟩ := slAt_slice hown6.at
              obtain ⟨L6, hL6⟩ : ∃ L6, (L5) ++ [(⟨2, (i : Int)⟩ : Dot)] = L6 := ⟨_, rfl⟩
              try simp only [List.append_assoc] at hL6
              rw [hL6] at hown6 hv'6
              obtain ⟨n6, hn6⟩ : ∃ n6, L6.length = n6 := ⟨_, rfl⟩
              rw [hn6] at hv'6
              subst hv'6
              have HB26 := Lib.hid ((HB25.out.alloc HB25.out.size _).grown hg6 (by rw [World.size_alloc]; have := HB25.out.size; omega) (fun k hk => by have := (HO5.out.lt k hk).1; omega))
              have HO6 := Lib.hid hown6
              have hl6 : L6.length ≤ 18 := by rw [← hL6]; simp only [List.length_append, List.length_singleton]; omega
              have HLN6 := Lib.hid hL6
              clear hown6 hg6 hv6 hL6 hn6
              skip
              go_wp2_with fail
              go_roundg (8 - (i + 1))
              case measure => omega
              case rel => exact ⟨i + 1, o6, n6, c6, by go_num, rfl, by omega, Nat.le_refl _, (by rw [HLL5.out, if_pos HFF.out, HLN6.out]; exact HO6.out), HB26.out⟩
            · have HFF : Hid (fellB a b i = false) := by show _ = _; rw [HFE.out]; simpa using hfl
              skip
              go_wp2_with fail
              go_roundg (8 - (i + 1))
              case measure => omega
              case rel => exact ⟨i + 1, o5, n5, c5, by go_num, rfl, by omega, Nat.le_refl _, (by rw [HLL5.out, if_neg (by rw [HFF.out]; decide), List.append_nil]; exact HO5.out), HB25.out⟩
          · have HF : Hid (forgotB a b i = false) := by
              show _ = _
              rw [HFO.out, Bool.true_and, Bool.true_and, decide_eq_false_iff_not, ← hpos0]
              omega
            clear hpos0
            have e1 := cell_of_row w4 x 1 _ _ _ HX4.out
            have f1 := cell_of_row w4 y 1 _ _ _ HY4.out
            simp only [List.getElem?_toArray, List.getElem?_cons_zero, List.getElem?_cons_succ] at e1 f1
            have HLL4 : Hid (overL [(1, 0), (2, 1)] (rule1 a b) (i + 1) = L ++ (if fellB a b i = true then [⟨2, (i : Int)⟩] else [])) := by
              show _ = _
              rw [overL_succ, HL.out, atL_one1, if_neg (by rw [HF.out]; decide), List.nil_append]
            clear HF
            by_cases hfl : iN < im
            · have HFF : Hid (fellB a b i = true) := by show _ = _; rw [HFE.out]; simpa using hfl
              go_wp2_with (at_builtin; go_loud (refine wpList_app Dot.cells 2 Dot.cells_len (by decide) Dot.cells_one _ rfl _ _ 34 rfl (w.heap.size + 2) 51 _ 16 Try.underlying34 infoBreakR rfl _ (L) rfl ?h1_6 _ [⟨2, (i : Int)⟩] rfl ?h2_6 ?h3_6 ?h4_6 ?h5_6 ?_))
              case h1_6 => exact HO4.out.below ((Below.refl _ _).alloc (Nat.le_refl _) _) (Nat.le_refl _)
              case h2_6 => exact slAt_new (enc := Dot.cells) w4 #[.int .i64 2, .int .i64 (i : Int)] 51 1 1 (0, 0) [⟨2, (i : Int)⟩] rfl rfl (by decide)
              case h3_6 => simp only [List.length_append, List.length_singleton]; omega
              case h4_6 => simp only [List.length_append, List.length_singleton]; omega
              case h5_6 => rw [World.size_alloc]; have := HB24.out.size; omega
              intro v6 w6 hown6 hg6 hv6
              obtain ⟨o6, c6, hv'6⟩ := slAt_slice hown6.at
              obtain ⟨L6, hL6⟩ : ∃ L6, (L) ++ [(⟨2, (i : Int)⟩ : Dot)] = L6 := ⟨_, rfl⟩
              try simp only [List.append_assoc] at hL6
              rw [hL6] at hown6 hv'6
              obtain ⟨n6, hn6⟩ : ∃ n6, L6.length = n6 := ⟨_, rfl⟩
              rw [hn6] at hv'6
              subst hv'6
              have HB26 := Lib.hid ((HB24.out.alloc HB24.out.size _).grown hg6 (by rw [World.size_alloc]; have := HB24.out.size; omega) (fun k hk => by have := (HO4.out.lt k hk).1; omega))
              have HO6 := Lib.hid hown6
              have hl6 : L6.length ≤ 18 := by rw [← hL6]; simp only [List.length_append, List.length_singleton]; omega
              have HLN6 := Lib.hid hL6
              clear hown6 hg6 hv6 hL6 hn6
              clear HX4 HY4
              go_wp2_with fail
              go_roundg (8 - (i + 1))
              case measure => omega
              case rel => exact ⟨i + 1, o6, n6, c6, by go_num, rfl, by omega, Nat.le_refl _, (by rw [HLL4.out, if_pos HFF.out, HLN6.out]; exact HO6.out), HB26.out⟩
            · have HFF : Hid (fellB a b i = false) := by show _ = _; rw [HFE.out]; simpa using hfl
              clear HX4 HY4
              go_wp2_with fail
              go_roundg (8 - (i + 1))
              case measure => omega
              case rel => exact ⟨i + 1, oq, mq, cq, by go_num, rfl, by omega, Nat.le_refl _, (by rw [HLL4.out, if_neg (by rw [HFF.out]; decide), List.append_nil]; exact HO4.out), HB24.out⟩
        · have HN0 : Hid (overL [(1, 0), (2, 1)] (rule1 a b) (i + 1) = overL [(1, 0), (2, 1)] (rule1 a b) i) := by
            show _ = _
            rw [overL_succ, atL_one1, HFO.out, HFE.out, Bool.not_eq_true] at *
            simp [hrr]
          clear HX HY HFO HFE
          cases rm with
          | false =>
            go_wp2_with fail
            go_roundg (8 - (i + 1))
            case measure => omega
            case rel => exact ⟨i + 1, oq, mq, cq, by go_num, rfl, by omega, Nat.le_refl _, (by rw [HN0.out]; exact HO3.out), HB23.out⟩
          | true =>
            obtain rfl : rn = false := by simpa using hrr
            go_wp2_with fail
            go_roundg (8 - (i + 1))
            case measure => omega
            case rel => exact ⟨i + 1, oq, mq, cq, by go_num, rfl, by omega, Nat.le_refl _, (by rw [HN0.out]; exact HO3.out), HB23.out⟩
    · obtain rfl : i = 8 := by omega
      have hl1 := overL_len [(1, 0), (2, 1)] (rule1 a b) 8
      simp only [List.length_cons, List.length_nil] at hl1
      generalize hX1 : overL [(1, 0), (2, 1)] (rule1 a b) 8 = X1 at *
      have HX1 := Lib.hid hX1
      clear hX1
      go_wp2_with fail
      go_loopg [5, 9] 8 (fun gk s5 s9 wr => ∃ (i : Nat) (oq : Option Addr) (mq cq : Nat), s9 = .int .i64 i ∧ s5 = .slice oq mq cq ∧ i ≤ 8 ∧ 8 - i ≤ gk ∧ Hid (Owns Dot.cells 2 (w.heap.size + 2) 51 wr (.slice oq mq cq) (X1 ++ overL [(3, 0), (4, 1)] (rule2 a b) i)) ∧ Hid (Below w2.heap.size w2 wr))
      case atStart => exact ⟨0, oq, mq, cq, rfl, rfl, by omega, by omega, (by show Owns _ _ _ _ _ _ (X1 ++ []); rw [List.append_nil]; exact HO.out), HBR.out⟩
      case round =>
        obtain ⟨i, oq, mq, cq, rfl, rfl, hi, hgk, HO, HBR⟩ := hrel
        have hsz := HBR.out.size
        by_cases hlt : i < 8
        · have hltz : (i : Int) < 8 := by omega
          have hra := (HBR.out.block w.heap.size (by omega)).trans R0.out
          have hrb := (HBR.out.block (w.heap.size + 1) (by omega)).trans R1.out
          obtain ⟨m, hm⟩ : ∃ m, a.fence[i]? = some m := ⟨_, List.getElem?_eq_getElem (by rw [HA.out.fence]; exact hlt)⟩
          obtain ⟨n, hn⟩ : ∃ n, b.fence[i]? = some n := ⟨_, List.getElem?_eq_getElem (by rw [HB.out.fence]; exact hlt)⟩
          obtain ⟨p, hp⟩ : ∃ p, a.has[i]? = some p := ⟨_, List.getElem?_eq_getElem (by rw [HA.out.has]; exact hlt)⟩
          obtain ⟨q, hq⟩ : ∃ q, b.has[i]? = some q := ⟨_, List.getElem?_eq_getElem (by rw [HB.out.has]; exact hlt)⟩
          have ca : wr.cell? ⟨w.heap.size, 96 + i, none⟩ = some (.int .i64 m) := (cell_of_row wr _ _ _ _ _ hra).trans (by
            rw [← HCA.out, List.getElem?_toArray, WV.at_fence HA.out hlt]
            rw [List.getElem?_eq_getElem (by rw [HA.out.fence]; exact hlt)] at hm
            rw [Option.some.inj hm])
          have cb : wr.cell? ⟨w.heap.size + 1, 96 + i, none⟩ = some (.int .i64 n) := (cell_of_row wr _ _ _ _ _ hrb).trans (by
            rw [← HCB.out, List.getElem?_toArray, WV.at_fence HB.out hlt]
            rw [List.getElem?_eq_getElem (by rw [HB.out.fence]; exact hlt)] at hn
            rw [Option.some.inj hn])
          have hca := fun (W : World) (h : W.heap[w.heap.size]? = some (.cells cA 30)) => (cell_of_row W _ (88 + i) _ _ _ h).trans (show cA[88 + i]? = some (.int .i64 p) by
            rw [← HCA.out, List.getElem?_toArray, WV.at_has HA.out hlt]
            rw [List.getElem?_eq_getElem (by rw [HA.out.has]; exact hlt)] at hp
            rw [Option.some.inj hp])
          have hcb := fun (W : World) (h : W.heap[w.heap.size + 1]? = some (.cells cB 30)) => (cell_of_row W _ (88 + i) _ _ _ h).trans (show cB[88 + i]? = some (.int .i64 q) by
            rw [← HCB.out, List.getElem?_toArray, WV.at_has HB.out hlt]
            rw [List.getElem?_eq_getElem (by rw [HB.out.has]; exact hlt)] at hq
            rw [Option.some.inj hq])
          have hmr := FA.out m (List.mem_of_getElem? hm)
          have hnr := FB.out n (List.mem_of_getElem? hn)
          have hju : jumpedB a b i = jumpB m n := by unfold jumpedB; rw [hm, hn]
          have hmo : movedB a b i = decide (m = n ∧ p ≠ q) := by unfold movedB; rw [hm, hn, hp, hq]
          unfold R64 at hmr hnr
          unfold jumpB at hju
          have HCAH := Lib.hid hca
          have HCBH := Lib.hid hcb
          have HJU := Lib.hid hju
          have HMO := Lib.hid hmo
          have hl2 := overL_len [(3, 0), (4, 1)] (rule2 a b) i
          simp only [List.length_cons, List.length_nil] at hl2
          have HSU := Lib.hid (overL_succ [(3, 0), (4, 1)] (rule2 a b) i)
          have HAT := Lib.hid (atL_one2 a b i)
          generalize hX2 : overL [(3, 0), (4, 1)] (rule2 a b) i = X2 at *
          clear hra hrb hm hn hp hq hca hcb hju hmo hX2
          go_wp2_with fail
          go_quiet (fail)
          have hbd := below_drewN wr nq
          have HOd := Lib.hid (HO.out.below hbd (Nat.le_refl _))
          have HBd := Lib.hid (HBR.out.trans (hbd.mono hsz))
          have hrad := (HBd.out.block w.heap.size (by omega)).trans R0.out
          have hrbd := (HBd.out.block (w.heap.size + 1) (by omega)).trans R1.out
          clear hbd HO HBR ca cb
          generalize wr.drewN nq = wd at *
          have hszd := HBd.out.size
          have p1 := HCAH.out wd hrad
          have p2 := HCBH.out wd hrbd
          clear hrad hrbd
          by_cases hmn : m = n
          · subst hmn
            have HJ : Hid (jumpedB a b i = false) := by show _ = _; rw [HJU.out]; simp
            by_cases hpq : p = q
            · subst hpq
              have HM : Hid (movedB a b i = false) := by show _ = _; rw [HMO.out]; simp
              go_wp2_with fail
              go_quiet (fail)
              have hbe := below_drewN wd nq
              have HBe := Lib.hid (HBd.out.trans (hbe.mono hszd))
              have HOe := Lib.hid (HOd.out.below hbe (Nat.le_refl _))
              clear hbe
              go_wp2_with fail
              go_roundg (8 - (i + 1))
              case measure => omega
              case rel => exact ⟨i + 1, oq, mq, cq, by go_num, rfl, by omega, Nat.le_refl _, (by rw [HSU.out, HAT.out, if_neg (by rw [HJ.out]; decide), if_neg (by rw [HM.out]; decide), List.append_nil, List.append_nil]; exact HOe.out), HBe.out⟩
            · have HM : Hid (movedB a b i = true) := by show _ = _; rw [HMO.out]; simpa using hpq
              have hpqb : (p != q) = true := by simpa using hpq
              go_wp2_with fail
              go_quiet (fail)
              have hbe := below_drewN wd nq
              have HBe := Lib.hid (HBd.out.trans (hbe.mono hszd))
              have HOe := Lib.hid (HOd.out.below hbe (Nat.le_refl _))
              clear hbe HBd HOd p1 p2
              generalize wd.drewN nq = we at *
              go_wp2_with (at_builtin; go_loud (refine wpList_app Dot.cells 2 Dot.cells_len (by decide) Dot.cells_one _ rfl _ _ 34 rfl (w.heap.size + 2) 51 _ 16 Try.underlying34 infoBreakR rfl _ (X1 ++ X2) rfl ?h1_7 _ [⟨4, (i : Int)⟩] rfl ?h2_7 ?h3_7 ?h4_7 ?h5_7 ?_))
              case h1_7 => exact HOe.out.below ((Below.refl _ _).alloc (Nat.le_refl _) _) (Nat.le_refl _)
              case h2_7 => exact slAt_new (enc := Dot.cells) we #[.int .i64 4, .int .i64 (i : Int)] 51 1 1 (0, 0) [⟨4, (i : Int)⟩] rfl rfl (by decide)
              case h3_7 => simp only [List.length_append, List.length_singleton]; omega
              case h4_7 => simp only [List.length_append, List.length_singleton]; omega
              case h5_7 => rw [World.size_alloc]; have := HBe.out.size; omega
              intro v7 w7 hown7 hg7 hv7
              obtain ⟨o7, c7, hv'7⟩ := slAt_slice hown7.at
              obtain ⟨L7, hL7⟩ : ∃ L7, (X1 ++ X2) ++ [(⟨4, (i : Int)⟩ : Dot)] = L7 := ⟨_, rfl⟩
              try simp only [List.append_assoc] at hL7
              rw [hL7] at hown7 hv'7
              obtain ⟨n7, hn7⟩ : ∃ n7, L7.length = n7 := ⟨_, rfl⟩
              rw [hn7] at hv'7
              subst hv'7
              have HB27 := Lib.hid ((HBe.out.alloc HBe.out.size _).grown hg7 (by rw [World.size_alloc]; have := HBe.out.size; omega) (fun k hk => by have := (HOe.out.lt k hk).1; omega))
              have HO7 := Lib.hid hown7
              have hl7 : L7.length ≤ 35 := by rw [← hL7]; simp only [List.length_append, List.length_singleton]; omega
              have HLN7 := Lib.hid hL7
              clear hown7 hg7 hv7 hL7 hn7
              go_wp2_with fail
              go_roundg (8 - (i + 1))
              case measure => omega
              case rel => exact ⟨i + 1, o7, n7, c7, by go_num, rfl, by omega, Nat.le_refl _, (by rw [HSU.out, HAT.out, if_neg (by rw [HJ.out]; decide), if_pos HM.out, List.nil_append, HLN7.out]; exact HO7.out), HB27.out⟩
          · have HM : Hid (movedB a b i = false) := by show _ = _; rw [HMO.out]; simp [hmn]
            have hmnb : (m != n) = true := by simpa using hmn
            have hmnc : (m == n) = false := by simpa using hmn
            by_cases hmx : m = 9223372036854775807
            · have HJ : Hid (jumpedB a b i = true) := by show _ = _; rw [HJU.out, decide_eq_true_eq]; omega
              subst hmx
              go_wp2_with (at_builtin; go_loud (refine wpList_app Dot.cells 2 Dot.cells_len (by decide) Dot.cells_one _ rfl _ _ 34 rfl (w.heap.size + 2) 51 _ 16 Try.underlying34 infoBreakR rfl _ (X1 ++ X2) rfl ?h1_8 _ [⟨3, (i : Int)⟩] rfl ?h2_8 ?h3_8 ?h4_8 ?h5_8 ?_))
              case h1_8 => exact HOd.out.below ((Below.refl _ _).alloc (Nat.le_refl _) _) (Nat.le_refl _)
              case h2_8 => exact slAt_new (enc := Dot.cells) wd #[.int .i64 3, .int .i64 (i : Int)] 51 1 1 (0, 0) [⟨3, (i : Int)⟩] rfl rfl (by decide)
              case h3_8 => simp only [List.length_append, List.length_singleton]; omega
              case h4_8 => simp only [List.length_append, List.length_singleton]; omega
              case h5_8 => rw [World.size_alloc]; have := HBd.out.size; omega
              intro v8 w8 hown8 hg8 hv8
              obtain ⟨o8, c8, hv'8⟩ := slAt_slice hown8.at
              obtain ⟨L8, hL8⟩ : ∃ L8, (X1 ++ X2) ++ [(⟨3, (i : Int)⟩ : Dot)] = L8 := ⟨_, rfl⟩
              try simp only [List.append_assoc] at hL8
              rw [hL8] at hown8 hv'8
              obtain ⟨n8, hn8⟩ : ∃ n8, L8.length = n8 := ⟨_, rfl⟩
              rw [hn8] at hv'8
              subst hv'8
              have HB28 := Lib.hid ((HBd.out.alloc HBd.out.size _).grown hg8 (by rw [World.size_alloc]; have := HBd.out.size; omega) (fun k hk => by have := (HOd.out.lt k hk).1; omega))
              have HO8 := Lib.hid hown8
              have hl8 : L8.length ≤ 35 := by rw [← hL8]; simp only [List.length_append, List.length_singleton]; omega
              have HLN8 := Lib.hid hL8
              clear hown8 hg8 hv8 hL8 hn8
              have hra8 := (HB28.out.block w.heap.size (by omega)).trans R0.out
              have hrb8 := (HB28.out.block (w.heap.size + 1) (by omega)).trans R1.out
              have s1 := HCAH.out w8 hra8
              have s2 := HCBH.out w8 hrb8
              clear hra8 hrb8 p1 p2
              go_wp2_with fail
              go_quiet (fail)
              have hbe := below_drewN w8 nq
              have HBe := Lib.hid (HB28.out.trans (hbe.mono HB28.out.size))
              have HOe := Lib.hid (HO8.out.below hbe (Nat.le_refl _))
              clear hbe
              go_wp2_with fail
              go_roundg (8 - (i + 1))
              case measure => omega
              case rel => exact ⟨i + 1, o8, n8, c8, by go_num, rfl, by omega, Nat.le_refl _, (by rw [HSU.out, HAT.out, if_pos HJ.out, if_neg (by rw [HM.out]; decide), List.append_nil, HLN8.out]; exact HOe.out), HBe.out⟩
            · have hmxb : (m == 9223372036854775807) = false := by simpa using hmx
              by_cases hin : n = m + 1
              · have HJ : Hid (jumpedB a b i = false) := by show _ = _; rw [HJU.out, decide_eq_false_iff_not]; omega
                have hinb : (n != m + 1) = false := by simpa using hin
                go_wp2_with fail
                go_quiet (fail)
                have hbe := below_drewN wd nq
                have HBe := Lib.hid (HBd.out.trans (hbe.mono hszd))
                have HOe := Lib.hid (HOd.out.below hbe (Nat.le_refl _))
                clear hbe
                go_wp2_with fail
                go_roundg (8 - (i + 1))
                case measure => omega
                case rel => exact ⟨i + 1, oq, mq, cq, by go_num, rfl, by omega, Nat.le_refl _, (by rw [HSU.out, HAT.out, if_neg (by rw [HJ.out]; decide), if_neg (by rw [HM.out]; decide), List.append_nil, List.append_nil]; exact HOe.out), HBe.out⟩
              · have HJ : Hid (jumpedB a b i = true) := by show _ = _; rw [HJU.out, decide_eq_true_eq]; omega
                have hinb : (n != m + 1) = true := by simpa using hin
                go_wp2_with (at_builtin; go_loud (refine wpList_app Dot.cells 2 Dot.cells_len (by decide) Dot.cells_one _ rfl _ _ 34 rfl (w.heap.size + 2) 51 _ 16 Try.underlying34 infoBreakR rfl _ (X1 ++ X2) rfl ?h1_8 _ [⟨3, (i : Int)⟩] rfl ?h2_8 ?h3_8 ?h4_8 ?h5_8 ?_))
                case h1_8 => exact HOd.out.below ((Below.refl _ _).alloc (Nat.le_refl _) _) (Nat.le_refl _)
                case h2_8 => exact slAt_new (enc := Dot.cells) wd #[.int .i64 3, .int .i64 (i : Int)] 51 1 1 (0, 0) [⟨3, (i : Int)⟩] rfl rfl (by decide)
                case h3_8 => simp only [List.length_append, List.length_singleton]; omega
                case h4_8 => simp only [List.length_append, List.length_singleton]; omega
                case h5_8 => rw [World.size_alloc]; have := HBd.out.size; omega
                intro v8 w8 hown8 hg8 hv8
                obtain ⟨o8, c8, hv'8⟩ := slAt_slice hown8.at
                obtain ⟨L8, hL8⟩ : ∃ L8, (X1 ++ X2) ++ [(⟨3, (i : Int)⟩ : Dot)] = L8 := ⟨_, rfl⟩
                try simp only [List.append_assoc] at hL8
                rw [hL8] at hown8 hv'8
                obtain ⟨n8, hn8⟩ : ∃ n8, L8.length = n8 := ⟨_, rfl⟩
                rw [hn8] at hv'8
                subst hv'8
                have HB28 := Lib.hid ((HBd.out.alloc HBd.out.size _).grown hg8 (by rw [World.size_alloc]; have := HBd.out.size; omega) (fun k hk => by have := (HOd.out.lt k hk).1; omega))
                have HO8 := Lib.hid hown8
                have hl8 : L8.length ≤ 35 := by rw [← hL8]; simp only [List.length_append, List.length_singleton]; omega
                have HLN8 := Lib.hid hL8
                clear hown8 hg8 hv8 hL8 hn8
                have hra8 := (HB28.out.block w.heap.size (by omega)).trans R0.out
                have hrb8 := (HB28.out.block (w.heap.size + 1) (by omega)).trans R1.out
                have s1 := HCAH.out w8 hra8
                have s2 := HCBH.out w8 hrb8
                clear hra8 hrb8 p1 p2
                go_wp2_with fail
                go_quiet (fail)
                have hbe := below_drewN w8 nq
                have HBe := Lib.hid (HB28.out.trans (hbe.mono HB28.out.size))
                have HOe := Lib.hid (HO8.out.below hbe (Nat.le_refl _))
                clear hbe
                go_wp2_with fail
                go_roundg (8 - (i + 1))
                case measure => omega
                case rel => exact ⟨i + 1, o8, n8, c8, by go_num, rfl, by omega, Nat.le_refl _, (by rw [HSU.out, HAT.out, if_pos HJ.out, if_neg (by rw [HM.out]; decide), List.append_nil, HLN8.out]; exact HOe.out), HBe.out⟩
        · obtain rfl : i = 8 := by omega
          have hl2 := overL_len [(3, 0), (4, 1)] (rule2 a b) 8
          simp only [List.length_cons, List.length_nil] at hl2
          have hck : checkL a b = X1 ++ (overL [(3, 0), (4, 1)] (rule2 a b) 8 ++ overL [(5, 0)] (rule3 b) 1) := by unfold checkL; rw [HX1.out]
          have h3 : overL [(5, 0)] (rule3 b) 1 = if 64 < b.flight then [⟨5, 0⟩] else [] := by
            by_cases h : 64 < b.flight <;> simp [overL, atL, rule3, h]
          have HCK := Lib.hid hck
          have H3 := Lib.hid h3
          generalize overL [(3, 0), (4, 1)] (rule2 a b) 8 = X2 at *
          have hrb := (HBR.out.block (w.heap.size + 1) (by omega)).trans R1.out
          have cfl : wr.cell? ⟨w.heap.size + 1, 104, none⟩ = some (.int .i64 b.flight) := (cell_of_row wr _ _ _ _ _ hrb).trans (by rw [← HCB.out, List.getElem?_toArray, WV.at_flight HB.out])
          obtain ⟨fl, hfl⟩ : ∃ fl, b.flight = fl := ⟨_, rfl⟩
          rw [hfl] at cfl
          clear hrb hck h3
          by_cases h64 : 64 < fl
          · have H5 : Hid (overL [(5, 0)] (rule3 b) 1 = [⟨5, 0⟩]) := by show _ = _; rw [H3.out, if_pos (by rw [hfl]; exact h64)]
            clear hfl
            go_wp2_with (at_builtin; go_loud (refine wpList_app Dot.cells 2 Dot.cells_len (by decide) Dot.cells_one _ rfl _ _ 34 rfl (w.heap.size + 2) 51 _ 16 Try.underlying34 infoBreakR rfl _ (X1 ++ X2) rfl ?h1_9 _ [⟨5, 0⟩] rfl ?h2_9 ?h3_9 ?h4_9 ?h5_9 ?_))
            case h1_9 => exact HO.out.below ((Below.refl _ _).alloc (Nat.le_refl _) _) (Nat.le_refl _)
            case h2_9 => exact slAt_new (enc := Dot.cells) wr #[.int .i64 5, .int .i64 0] 51 1 1 (0, 0) [⟨5, 0⟩] rfl rfl (by decide)
            case h3_9 => simp only [List.length_append, List.length_singleton]; omega
            case h4_9 => simp only [List.length_append, List.length_singleton]; omega
            case h5_9 => rw [World.size_alloc]; have := HBR.out.size; omega
            intro v9 w9 hown9 hg9 hv9
            obtain ⟨o9, c9, hv'9⟩ := slAt_slice hown9.at
            obtain ⟨L9, hL9⟩ : ∃ L9, (X1 ++ X2) ++ [(⟨5, 0⟩ : Dot)] = L9 := ⟨_, rfl⟩
            try simp only [List.append_assoc] at hL9
            rw [hL9] at hown9 hv'9
            obtain ⟨n9, hn9⟩ : ∃ n9, L9.length = n9 := ⟨_, rfl⟩
            rw [hn9] at hv'9
            subst hv'9
            have HB29 := Lib.hid ((HBR.out.alloc HBR.out.size _).grown hg9 (by rw [World.size_alloc]; have := HBR.out.size; omega) (fun k hk => by have := (HO.out.lt k hk).1; omega))
            have HO9 := Lib.hid hown9
            have hl9 : L9.length ≤ 36 := by rw [← hL9]; simp only [List.length_append, List.length_singleton]; omega
            have HLN9 := Lib.hid hL9
            clear hown9 hg9 hv9 hL9 hn9
            clear cfl
            go_wp2_with fail
            go_ret
            exact ⟨o9, n9, c9, rfl, (by rw [HCK.out, H5.out, HLN9.out]; exact HO9.out.lower (by omega)), HB2.out.trans (HB29.out.mono (by omega))⟩
          · have H5 : Hid (overL [(5, 0)] (rule3 b) 1 = []) := by show _ = _; rw [H3.out, if_neg (by rw [hfl]; exact h64)]
            clear hfl
            go_wp2_with fail
            go_ret
            exact ⟨oq, mq, cq, rfl, (by rw [HCK.out, H5.out, List.append_nil]; exact HO.out.lower (by omega)), HB2.out.trans (HBR.out.mono (by omega))⟩
end Go.Proofs.Ytkdjfoehpioghaa
