/-
  The rule forgot walked.
-/
import Derived.Test.YtkdjfoehpioghaaRules
namespace Go.Proofs.Ytkdjfoehpioghaa
open Go.Shelf Go.RowKit Go.Lib Go.Sort
set_option linter.unusedVariables false
theorem oper_loadAgg {P : Program} {w : World} {a : Act} {o : Oper} {K : Act → World → Prop} {Q : Exit → Act → World → Prop} (t : TypeId) (x : Operand) (ho : o.op = .load t x) (n : Nat) (hA : ∀ w, (isAgg t).run P w = .ok true w) (hz : ∀ w, (sizeOf t).run P w = .ok n w) (p : Addr) (hx : a.eval x = .pointer (some p)) (vs : Array Value) (hl : Sem.run P (loadCellsFrom p 0 n #[]) w = .ok vs w) (hk : K (a.put o.dst (.agg vs)) w) : Oper.wp P o a w K Q := by
  unfold Oper.wp execOp
  simp only [ho, Instr.loadAt, Instr.sureAddr, loadVar, loadCells, Sem.run_bind, Sem.run_pure, Result.andThen_ok, hx, hA, hz, hl, if_true]
  exact hk
set_option maxRecDepth 100000 in
set_option maxHeartbeats 16000000 in
theorem forgot_any (a b : WV) (ha : a.Ok) (hb : b.Ok) (i : Nat) (hi : i < 8) (w : World) (na nb : WN) (hna : a.nodes[i]'(by rw [ha.nodes]; exact hi) = na) (hnb : b.nodes[i]'(by rw [hb.nodes]; exact hi) = nb) (hsa : SlAt Dot.cells w na.hd.val na.s.more) (hsb : SlAt Dot.cells w nb.hd.val nb.s.more) (hla : na.s.more.length ≤ 1000000) (hlb : nb.s.more.length ≤ 1000000) :
    Calls Try.prog 13 #[.agg (pairArr a b), .int .i64 i] w fun e w' => e = .returned (.bool ((na.runs && nb.runs) && decide (0 < (lessD na.s nb.s).length))) ∧ Below w.heap.size w w' := by
  have hmx : Try.prog.follows .mixedOrders = true := by kernel_rfl
  have hr1 : (w.alloc (.cells (pairArr a b) 53)).heap[w.heap.size]? = some (.cells (pairArr a b) 53) := heap_alloc_new w _
  have hz1 : w.heap.size < (w.alloc (.cells (pairArr a b) 53)).heap.size := by rw [World.size_alloc]; exact Nat.lt_succ_self _
  have hld : ∀ w', (∃ q : GrownBy, w' = grow ((w.alloc (.cells (pairArr a b) 53)).drewN q.n) q.os) → Sem.run Try.prog (loadCellsFrom ⟨w.heap.size, 0, none⟩ 0 210 #[]) w' = .ok (pairArr a b) w' := by
    rintro _ ⟨⟨n, os⟩, rfl⟩
    exact pair_load ha hb (grown_heap hr1 n os)
  have hld1 := pair_load (W := (w.alloc (.cells (pairArr a b) 53)).drew) ha hb hr1
  have hru := fun n os => runs_any a b ha hb i hi (grow ((w.alloc (.cells (pairArr a b) 53)).drewN n) os)
  have hru1 := runs_any a b ha hb i hi (w.alloc (.cells (pairArr a b) 53)).drew
  have hn1 : ∀ k, k < 11 → (pairArr a b)[i * 11 + k]? = na.cells[k]? := fun k hk => by rw [← hna]; exact pair_was_node (b := b) ha hi hk
  have hn2 : ∀ k, k < 11 → (pairArr a b)[105 + i * 11 + k]? = nb.cells[k]? := fun k hk => by rw [← hnb]; exact pair_now_node ha hb hi hk
  simp only [hna, hnb] at hru hru1
  obtain ⟨x, hx⟩ : ∃ x, (na.runs && nb.runs) = x := ⟨_, rfl⟩
  rw [hx] at hru1 ⊢
  simp only [hx] at hru
  have hna2 : na.hd.n = na.s.more.length := by
    obtain ⟨_, _, hv, _⟩ := hsa.slice_of
    simp only [Hdr.val, Value.slice.injEq] at hv
    exact hv.2.1
  have hnb2 : nb.hd.n = nb.s.more.length := by
    obtain ⟨_, _, hv, _⟩ := hsb.slice_of
    simp only [Hdr.val, Value.slice.injEq] at hv
    exact hv.2.1
  have HSA : Hid (SlAt Dot.cells w (.slice na.hd.a na.s.more.length na.hd.c) na.s.more) := by show SlAt _ _ _ _; rw [← hna2]; exact hsa
  have HSB : Hid (SlAt Dot.cells w (.slice nb.hd.a nb.s.more.length nb.hd.c) nb.s.more) := by show SlAt _ _ _ _; rw [← hnb2]; exact hsb
  have hiz : (i : Int) < 8 := by omega
  have HRU := Lib.hid hru
  have HRU1 := Lib.hid hru1
  have HLD := Lib.hid hld
  have HLD1 := Lib.hid hld1
  have HR1 := Lib.hid hr1
  have HNA := Lib.hid hn1
  have HNB := Lib.hid hn2
  have HB1 : Hid (Below w.heap.size w (w.alloc (.cells (pairArr a b) 53))) := (Below.refl _ _).alloc (Nat.le_refl _) _
  clear hru hru1 hr1 hld hld1 hn1 hn2 hx hsa hsb hna hnb ha hb
  go_enter Try.func13, Try.ntmps13
  go_wp2_with fail
  generalize w.alloc (.cells (pairArr a b) 53) = w1 at *
  cases x with
  | false =>
    refine wp_region_quiet_grown (by assumption) (by kernel_rfl) ?_
    refine BigFrame.wpQuiet_want (by kernel_rfl) fun K hK => ?_
    refine quiet_loadAgg 53 _ rfl 210 (fun w => by kernel_rfl) (fun w => by kernel_rfl) ⟨w.heap.size, 0, none⟩ rfl (pairArr a b) HLD.out ?_
    refine hK _ ?_
    clear hK K
    simp only [Act.put, List.setIfInBounds_toArray, List.set_cons_succ, List.set_cons_zero]
    repeat (go_big_quiet_step (first | (go_at_call 27; refine Calls.grown_of (HRU.out _ _))))
    refine wpQuiet_nil ?_
    intro _ hw'
    obtain ⟨⟨nq, osq⟩, hw''⟩ := hw'
    subst hw''
    go_wp2_with fail
    go_ret
    exact ⟨rfl, HB1.out.trans ((Grew.below ⟨nq, osq, rfl⟩).mono HB1.out.size)⟩
  | true =>
    refine wp_region_any (by kernel_rfl) ?_
    change wpAny _ _ _ _ _ _ _ (World.drew _)
    refine wpAny_take (i := 1) (oi := Oper.mk _ _ _ _ _ _) (v := .int .i64 (i : Int)) rfl (by kernel_rfl) (by kernel_rfl) (by kernel_rfl) (fun _ _ _ h => h) (Or.inl ⟨by kernel_rfl, by intro w; go_simp⟩) ?_
    simp only [Act.put, List.setIfInBounds_toArray, List.set_cons_succ, List.set_cons_zero]
    refine wpAny_ready (rs := [0]) (by kernel_rfl) (by simp) ?_
    refine BigFrame.allReady_want (i := 0) (o := Oper.mk _ _ _ _ _ _) rfl (by kernel_rfl) (fun K hK => ?_) AllReady.nil
    refine oper_loadAgg 53 _ rfl 210 (fun w => by kernel_rfl) (fun w => by kernel_rfl) ⟨w.heap.size, 0, none⟩ rfl (pairArr a b) HLD1.out ?_
    refine hK _ _ ?_
    clear hK K
    simp only [Act.put, List.setIfInBounds_toArray, List.set_cons_succ, List.set_cons_zero]
    refine wpAny_ready (rs := [2]) (by kernel_rfl) (by simp) ?_
    refine BigFrame.allReady_want (i := 2) (o := Oper.mk _ _ _ _ _ _) rfl (by kernel_rfl) (fun K hK => ?_) AllReady.nil
    go_step
    refine HRU1.out.mono ?_
    rintro e w2 ⟨rfl, hg2⟩
    have hb2 : Below w1.heap.size w1 w2 := (below_drew (Below.refl _ _)).trans hg2.below
    have hz2 := hb2.size
    have hr2 := (hb2.block w.heap.size hz1).trans HR1.out
    have HB2 := Lib.hid (HB1.out.trans (hb2.mono HB1.out.size))
    have n0 : ∀ k, k < 11 → w2.cell? ⟨w.heap.size, i * 11 + k, none⟩ = na.cells[k]? := fun k hk => (cell_of_row w2 _ _ _ _ _ hr2).trans (HNA.out k hk)
    have m0 : ∀ k, k < 11 → w2.cell? ⟨w.heap.size, 105 + i * 11 + k, none⟩ = nb.cells[k]? := fun k hk => (cell_of_row w2 _ _ _ _ _ hr2).trans (HNB.out k hk)
    have a0 := n0 2 (by omega)
    have b0 := m0 2 (by omega)
    have a1 := n0 3 (by omega)
    have b1 := m0 3 (by omega)
    have a2 := n0 4 (by omega)
    have b2 := m0 4 (by omega)
    have a3 := n0 5 (by omega)
    have b3 := m0 5 (by omega)
    have a4 := n0 6 (by omega)
    have b4 := m0 6 (by omega)
    have a5 := n0 7 (by omega)
    have b5 := m0 7 (by omega)
    have a6 := n0 8 (by omega)
    have b6 := m0 8 (by omega)
    have a7 := n0 9 (by omega)
    have b7 := m0 9 (by omega)
    have a8 := n0 10 (by omega)
    have b8 := m0 10 (by omega)
    simp only [WN.cells, List.getElem?_cons_zero, List.getElem?_cons_succ, Hdr.val] at a0 a1 a2 a3 a4 a5 a6 a7 a8 b0 b1 b2 b3 b4 b5 b6 b7 b8
    clear n0 m0
    rw [hna2] at a8
    rw [hnb2] at b8
    have hls := less_any na.hd.a nb.hd.a na.hd.c nb.hd.c na.s nb.s w2 (HSA.out.below Dot.cells_len (by decide) HB2.out (Nat.le_refl _)) (HSB.out.below Dot.cells_len (by decide) HB2.out (Nat.le_refl _)) (by omega) (by omega)
    have HLS := Lib.hid hls
    clear hb2 hg2 hr2 HRU1 hls
    refine hK _ _ ?_
    clear hK K
    refine wpAny_ready (rs := [3]) (by kernel_rfl) (by simp) ?_
    refine BigFrame.allReady_want (i := 3) (o := Oper.mk _ _ _ _ _ _) rfl (by kernel_rfl) (fun K hK => ?_) AllReady.nil
    go_step
    refine hK _ _ ?_
    clear hK K
    refine wpAny_take (i := 4) (oi := Oper.mk _ _ _ _ _ _) (v := .int .i64 (i : Int)) rfl (by kernel_rfl) (by kernel_rfl) (by kernel_rfl) (fun _ _ _ h => h) (Or.inl ⟨by kernel_rfl, by intro w; go_simp⟩) ?_
    simp only [Act.put, List.setIfInBounds_toArray, List.set_cons_succ, List.set_cons_zero]
    refine wpAny_take (i := 5) (oi := Oper.mk _ _ _ _ _ _) (v := .pointer (some ⟨w.heap.size, 0, none⟩)) rfl (by kernel_rfl) (by kernel_rfl) (by kernel_rfl) (fun _ _ _ h => h) (Or.inl ⟨by kernel_rfl, by intro w; go_simp⟩) ?_
    simp only [Act.put, List.setIfInBounds_toArray, List.set_cons_succ, List.set_cons_zero]
    refine wpAny_take (i := 6) (oi := Oper.mk _ _ _ _ _ _) (v := .pointer (some ⟨w.heap.size, 0, none⟩)) rfl (by kernel_rfl) (by kernel_rfl) (by kernel_rfl) (fun _ _ _ h => h) (Or.inl ⟨by kernel_rfl, by intro w; go_simp⟩) ?_
    simp only [Act.put, List.setIfInBounds_toArray, List.set_cons_succ, List.set_cons_zero]
    refine wpAny_take (i := 7) (oi := Oper.mk _ _ _ _ _ _) (v := .pointer (some ⟨w.heap.size, i * 11, none⟩)) rfl (by kernel_rfl) (by kernel_rfl) (by kernel_rfl) (fun _ _ _ h => h) (Or.inl ⟨by kernel_rfl, by intro w; go_simp⟩) ?_
    simp only [Act.put, List.setIfInBounds_toArray, List.set_cons_succ, List.set_cons_zero]
    refine wpAny_take (i := 8) (oi := Oper.mk _ _ _ _ _ _) (v := .pointer (some ⟨w.heap.size, i * 11 + 2, none⟩)) rfl (by kernel_rfl) (by kernel_rfl) (by kernel_rfl) (fun _ _ _ h => h) (Or.inl ⟨by kernel_rfl, by intro w; go_simp⟩) ?_
    simp only [Act.put, List.setIfInBounds_toArray, List.set_cons_succ, List.set_cons_zero]
    refine wpAny_take (i := 10) (oi := Oper.mk _ _ _ _ _ _) (v := .int .i64 (i : Int)) rfl (by kernel_rfl) (by kernel_rfl) (by kernel_rfl) (fun _ _ _ h => h) (Or.inl ⟨by kernel_rfl, by intro w; go_simp⟩) ?_
    simp only [Act.put, List.setIfInBounds_toArray, List.set_cons_succ, List.set_cons_zero]
    refine wpAny_take (i := 11) (oi := Oper.mk _ _ _ _ _ _) (v := .pointer (some ⟨w.heap.size, 105, none⟩)) rfl (by kernel_rfl) (by kernel_rfl) (by kernel_rfl) (fun _ _ _ h => h) (Or.inl ⟨by kernel_rfl, by intro w; go_simp⟩) ?_
    simp only [Act.put, List.setIfInBounds_toArray, List.set_cons_succ, List.set_cons_zero]
    refine wpAny_take (i := 12) (oi := Oper.mk _ _ _ _ _ _) (v := .pointer (some ⟨w.heap.size, 105, none⟩)) rfl (by kernel_rfl) (by kernel_rfl) (by kernel_rfl) (fun _ _ _ h => h) (Or.inl ⟨by kernel_rfl, by intro w; go_simp⟩) ?_
    simp only [Act.put, List.setIfInBounds_toArray, List.set_cons_succ, List.set_cons_zero]
    refine wpAny_take (i := 13) (oi := Oper.mk _ _ _ _ _ _) (v := .pointer (some ⟨w.heap.size, 105 + i * 11, none⟩)) rfl (by kernel_rfl) (by kernel_rfl) (by kernel_rfl) (fun _ _ _ h => h) (Or.inl ⟨by kernel_rfl, by intro w; go_simp⟩) ?_
    simp only [Act.put, List.setIfInBounds_toArray, List.set_cons_succ, List.set_cons_zero]
    refine wpAny_take (i := 14) (oi := Oper.mk _ _ _ _ _ _) (v := .pointer (some ⟨w.heap.size, 105 + i * 11 + 2, none⟩)) rfl (by kernel_rfl) (by kernel_rfl) (by kernel_rfl) (fun _ _ _ h => h) (Or.inl ⟨by kernel_rfl, by intro w; go_simp⟩) ?_
    simp only [Act.put, List.setIfInBounds_toArray, List.set_cons_succ, List.set_cons_zero]
    refine wpAny_ready (rs := [9, 15]) (by kernel_rfl) (by simp) ?_
    refine (BigFrame.allReady_want (i := 9) rfl (by kernel_rfl) (fun K hK => ?_) (BigFrame.allReady_want (i := 15) rfl (by kernel_rfl) (fun K hK => ?_) AllReady.nil))
    show Oper.wp _ (Oper.mk _ _ _ _ _ _) _ _ _ _
    go_step
    refine hK _ _ ?_
    clear hK K
    refine ?s1_0
    rotate_left
    show Oper.wp _ (Oper.mk _ _ _ _ _ _) _ _ _ _
    go_step
    refine hK _ _ ?_
    clear hK K
    refine ?s0_1
    rotate_left
    refine wpAny_ready (rs := [15]) (by kernel_rfl) (by simp) ?_
    refine BigFrame.allReady_want (i := 15) rfl (by kernel_rfl) (fun K hK => ?_) AllReady.nil
    show Oper.wp _ (Oper.mk _ _ _ _ _ _) _ _ _ _
    go_step
    refine hK _ _ ?_
    clear hK K
    refine ?s1_1
    rotate_left
    refine wpAny_ready (rs := [9]) (by kernel_rfl) (by simp) ?_
    refine BigFrame.allReady_want (i := 9) rfl (by kernel_rfl) (fun K hK => ?_) AllReady.nil
    show Oper.wp _ (Oper.mk _ _ _ _ _ _) _ _ _ _
    go_step
    refine hK _ _ ?_
    clear hK K
    exact ?s1_1
    clear a0 a1 a2 a3 a4 a5 a6 a7 a8 b0 b1 b2 b3 b4 b5 b6 b7 b8
    refine wpAny_ready (rs := [16]) (by kernel_rfl) (by simp) ?_
    refine BigFrame.allReady_want (i := 16) (o := Oper.mk _ _ _ _ _ _) rfl (by kernel_rfl) (fun K hK => ?_) AllReady.nil
    go_step
    refine HLS.out.mono ?_
    rintro e w3 ⟨o3, n3, c3, rfl, hn3, hb3⟩
    have HB3 := Lib.hid (HB2.out.trans (hb3.mono HB2.out.size))
    clear hb3 HLS
    refine hK _ _ ?_
    clear hK K
    refine wpAny_ready (rs := [17]) (by kernel_rfl) (by simp) ?_
    refine BigFrame.allReady_want (i := 17) (o := Oper.mk _ _ _ _ _ _) rfl (by kernel_rfl) (fun K hK => ?_) AllReady.nil
    go_step
    refine hK _ _ ?_
    clear hK K
    refine wpAny_ready (rs := [18]) (by kernel_rfl) (by simp) ?_
    refine BigFrame.allReady_want (i := 18) (o := Oper.mk _ _ _ _ _ _) rfl (by kernel_rfl) (fun K hK => ?_) AllReady.nil
    go_step
    refine hK _ _ ?_
    clear hK K
    refine wpAny_ready (rs := [19]) (by kernel_rfl) (by simp) ?_
    refine BigFrame.allReady_want (i := 19) (o := Oper.mk _ _ _ _ _ _) rfl (by kernel_rfl) (fun K hK => ?_) AllReady.nil
    go_step
    refine hK _ _ ?_
    clear hK K
    refine wpAny_ready (rs := [20]) (by kernel_rfl) (by simp) ?_
    refine BigFrame.allReady_want (i := 20) (o := Oper.mk _ _ _ _ _ _) rfl (by kernel_rfl) (fun K hK => ?_) AllReady.nil
    go_step
    refine hK _ _ ?_
    clear hK K
    refine wpAny_done (by kernel_rfl) ?_ _
    go_wp2_with fail
    go_ret
    exact ⟨retB (by rw [← hn3.out]; simp), HB3.out⟩
end Go.Proofs.Ytkdjfoehpioghaa
