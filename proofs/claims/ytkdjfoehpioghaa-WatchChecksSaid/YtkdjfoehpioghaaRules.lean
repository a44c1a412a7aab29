/-
  The rules of watch walked: fell, jumped, moved, forgot.
-/
import Derived.Test.YtkdjfoehpioghaaView
import Derived.BigQuiet
import Derived.Deep.QuietTactic
namespace Go.Proofs.Ytkdjfoehpioghaa
open Go.Shelf Go.RowKit Go.Lib Go.Sort
set_option linter.unusedVariables false
theorem pair_load {W : World} {blk : Nat} {a b : WV} {e : TypeId} (ha : a.Ok) (hb : b.Ok) (h : W.heap[blk]? = some (.cells (pairArr a b) e)) : Sem.run Try.prog (loadCellsFrom ⟨blk, 0, none⟩ 0 210 #[]) W = .ok (pairArr a b) W := by
  have := run_loadCellsFrom_list Try.prog W ⟨blk, 0, none⟩ (pairArr a b).toList 210 (by rw [Array.length_toList]; exact pair_size ha hb) (fun i v hi => by
    rw [Addr.add_lit, Nat.zero_add, cell_of_row W blk _ _ _ _ h]
    rw [Array.getElem?_toList] at hi
    exact hi)
  rw [Array.toArray_toList] at this
  exact this
theorem quiet_loadAgg {P : Program} {C : World → Prop} {a : Act} {o : Oper} {K : Act → Prop} (t : TypeId) (x : Operand) (ho : o.op = .load t x) (n : Nat) (hA : ∀ w, (isAgg t).run P w = .ok true w) (hz : ∀ w, (sizeOf t).run P w = .ok n w) (p : Addr) (hx : a.eval x = .pointer (some p)) (vs : Array Value) (hl : ∀ w, C w → Sem.run P (loadCellsFrom p 0 n #[]) w = .ok vs w) (hk : K (a.put o.dst (.agg vs))) : o.quiet P a C K :=
  ⟨.agg vs, fun w hw => by
    unfold Oper.quietAt execOp
    simp only [ho, Instr.loadAt, Instr.sureAddr, loadVar, loadCells, Sem.run_bind, Sem.run_pure, Result.andThen_ok, hx, hA, hz, hl w hw, if_true]
    exact ⟨rfl, rfl⟩, hk⟩
theorem grown_heap {w : World} {blk : Nat} {ob : Obj} (h : w.heap[blk]? = some ob) (n : Nat) (os : Array Obj) : (grow (w.drewN n) os).heap[blk]? = some ob :=
  (heap_grow_old (w.drewN n) os (Array.getElem?_eq_some_iff.1 h).1).trans h
set_option maxHeartbeats 4000000 in
theorem fell_any (a b : WV) (ha : a.Ok) (hb : b.Ok) (i : Nat) (hi : i < 8) (w : World) :
    Calls Try.prog 14 #[.agg (pairArr a b), .int .i64 i] w fun e w' => e = .returned (.bool (((a.nodes[i]'(by rw [ha.nodes]; exact hi)).runs && (b.nodes[i]'(by rw [hb.nodes]; exact hi)).runs) && decide ((b.nodes[i]'(by rw [hb.nodes]; exact hi)).inc < (a.nodes[i]'(by rw [ha.nodes]; exact hi)).inc))) ∧ Below w.heap.size w w' := by
  have hmx : Try.prog.follows .mixedOrders = true := by kernel_rfl
  have hr1 : (w.alloc (.cells (pairArr a b) 53)).heap[w.heap.size]? = some (.cells (pairArr a b) 53) := heap_alloc_new w _
  have hz1 : w.heap.size < (w.alloc (.cells (pairArr a b) 53)).heap.size := by rw [World.size_alloc]; exact Nat.lt_succ_self _
  have hld : ∀ w', (∃ q : GrownBy, w' = grow ((w.alloc (.cells (pairArr a b) 53)).drewN q.n) q.os) → Sem.run Try.prog (loadCellsFrom ⟨w.heap.size, 0, none⟩ 0 210 #[]) w' = .ok (pairArr a b) w' := by
    rintro _ ⟨⟨n, os⟩, rfl⟩
    exact pair_load ha hb (grown_heap hr1 n os)
  have hru := fun n os => runs_any a b ha hb i hi (grow ((w.alloc (.cells (pairArr a b) 53)).drewN n) os)
  have c0 := pair_was_node (b := b) ha hi (k := 1) (by omega)
  have c1 := pair_now_node ha hb hi (k := 1) (by omega)
  simp only [WN.cells, List.getElem?_cons_zero, List.getElem?_cons_succ] at c0 c1
  have k0 := cell_grown (o := i * 11 + 1) hz1 ((cell_of_row _ _ _ _ _ _ hr1).trans c0)
  have k1 := cell_grown (o := 105 + i * 11 + 1) hz1 ((cell_of_row _ _ _ _ _ _ hr1).trans c1)
  generalize ((a.nodes[i]'(by rw [ha.nodes]; exact hi)).runs && (b.nodes[i]'(by rw [hb.nodes]; exact hi)).runs) = x at *
  generalize (a.nodes[i]'(by rw [ha.nodes]; exact hi)).inc = m at *
  generalize (b.nodes[i]'(by rw [hb.nodes]; exact hi)).inc = n at *
  have hiz : (i : Int) < 8 := by omega
  have HRU := Lib.hid hru
  have HLD := Lib.hid hld
  have HB1 : Hid (Below w.heap.size w (w.alloc (.cells (pairArr a b) 53))) := (Below.refl _ _).alloc (Nat.le_refl _) _
  clear hru hr1 hld ha hb c0 c1
  go_enter Try.func14, Try.ntmps14
  go_wp2_with fail
  generalize w.alloc (.cells (pairArr a b) 53) = w1 at *
  cases x with
  | false =>
    refine wp_region_quiet_grown (by assumption) (by kernel_rfl) ?_
    refine BigFrame.wpQuiet_want (by kernel_rfl) fun K hK => ?_
    refine quiet_loadAgg 53 _ rfl 210 (fun w => by kernel_rfl) (fun w => by kernel_rfl) ⟨w.heap.size, 0, none⟩ rfl (pairArr a b) HLD.out ?_
    refine hK _ ?_
    clear hK K
    simp only [Act.put, List.setIfInBounds_toArray, List.set_cons_succ, List.set_cons_zero]
    repeat (go_big_quiet_step (first | (go_at_call 27; refine Calls.grown_of (HRU.out _ _))))
    refine wpQuiet_nil ?_
    intro _ hw'
    obtain ⟨⟨nq, osq⟩, hw''⟩ := hw'
    subst hw''
    go_wp2_with fail
    go_ret
    exact ⟨rfl, HB1.out.trans ((Grew.below ⟨nq, osq, rfl⟩).mono HB1.out.size)⟩
  | true =>
    refine wp_region_quiet_grown (by assumption) (by kernel_rfl) ?_
    refine BigFrame.wpQuiet_want (by kernel_rfl) fun K hK => ?_
    refine quiet_loadAgg 53 _ rfl 210 (fun w => by kernel_rfl) (fun w => by kernel_rfl) ⟨w.heap.size, 0, none⟩ rfl (pairArr a b) HLD.out ?_
    refine hK _ ?_
    clear hK K
    simp only [Act.put, List.setIfInBounds_toArray, List.set_cons_succ, List.set_cons_zero]
    repeat (go_big_quiet_step (first | (go_at_call 27; refine Calls.grown_of (HRU.out _ _))))
    refine wpQuiet_nil ?_
    intro _ hw'
    obtain ⟨⟨nq, osq⟩, hw''⟩ := hw'
    subst hw''
    go_wp2_with fail
    go_ret
    exact ⟨rfl, HB1.out.trans ((Grew.below ⟨nq, osq, rfl⟩).mono HB1.out.size)⟩
def R64 (n : Int) : Prop := -9223372036854775808 ≤ n ∧ n ≤ 9223372036854775807
/-- a fence that jumped -/
def jumpB (m n : Int) : Bool := decide (m ≠ n ∧ (n < m ∨ n - m ≠ 1))
set_option maxHeartbeats 4000000 in
theorem jumped_any (a b : WV) (ha : a.Ok) (hb : b.Ok) (i : Nat) (hi : i < 8) (w : World) (hm : R64 (a.fence[i]'(by rw [ha.fence]; exact hi))) (hn : R64 (b.fence[i]'(by rw [hb.fence]; exact hi))) :
    Calls Try.prog 15 #[.agg (pairArr a b), .int .i64 i] w fun e w' => e = .returned (.bool (jumpB (a.fence[i]'(by rw [ha.fence]; exact hi)) (b.fence[i]'(by rw [hb.fence]; exact hi)))) ∧ Below w.heap.size w w' := by
  have hr1 : (w.alloc (.cells (pairArr a b) 53)).heap[w.heap.size]? = some (.cells (pairArr a b) 53) := heap_alloc_new w _
  have c0 := pair_was_fence (b := b) ha hi
  have c1 := pair_now_fence ha hb hi
  have k0 := (cell_of_row _ _ _ _ _ _ hr1).trans c0
  have k1 := (cell_of_row _ _ _ _ _ _ hr1).trans c1
  generalize a.fence[i]'(by rw [ha.fence]; exact hi) = m at *
  generalize b.fence[i]'(by rw [hb.fence]; exact hi) = n at *
  have hiz : (i : Int) < 8 := by omega
  have HB1 : Hid (Below w.heap.size w (w.alloc (.cells (pairArr a b) 53))) := (Below.refl _ _).alloc (Nat.le_refl _) _
  obtain ⟨hm1, hm2⟩ := hm
  obtain ⟨hn1, hn2⟩ := hn
  clear hr1 ha hb c0 c1
  by_cases h1 : m = n
  · have hj : jumpB m n = false := decide_eq_false fun h => h.1 h1
    have HJ := Lib.hid hj
    subst h1
    clear hj
    go_enter Try.func15, Try.ntmps15
    go_wp2_with fail
    generalize w.alloc (.cells (pairArr a b) 53) = w1 at *
    go_quiet (fail)
    go_wp2_with fail
    go_ret
    exact ⟨retB HJ.out.symm, HB1.out.trans ((below_drewN w1 nq).mono HB1.out.size)⟩
  · have h1b : (m != n) = true := by simpa using h1
    by_cases h2 : n < m
    · have HJ := Lib.hid (show jumpB m n = true from decide_eq_true ⟨h1, .inl h2⟩)
      clear h1
      go_enter Try.func15, Try.ntmps15
      go_wp2_with fail
      generalize w.alloc (.cells (pairArr a b) 53) = w1 at *
      go_quiet (fail)
      go_wp2_with fail
      go_ret
      exact ⟨retB HJ.out.symm, HB1.out.trans ((below_drewN w1 nq).mono HB1.out.size)⟩
    · obtain ⟨z, hz⟩ : ∃ z, n - m = z := ⟨_, rfl⟩
      obtain ⟨q, hq⟩ : ∃ q, IntKind.i64.wrap z = q := ⟨_, rfl⟩
      have hqz : q = 1 ↔ z = 1 := by
        rw [← hq, IntKind.wrap_i64]
        omega
      have h2n : ¬ n < m := h2
      by_cases h3 : z = 1
      · have HJ := Lib.hid (show jumpB m n = false from decide_eq_false fun h => by
          rcases h.2 with h | h
          · exact h2 h
          · exact h (hz.trans h3))
        have hqb : (q != 1) = false := by simpa using hqz.2 h3
        clear h1 h2 h3 hqz
        go_enter Try.func15, Try.ntmps15
        go_wp2_with fail
        generalize w.alloc (.cells (pairArr a b) 53) = w1 at *
        go_quiet (fail)
        go_wp2_with fail
        go_ret
        exact ⟨retB (by rw [HJ.out]; exact decide_eq_false (by omega)), HB1.out.trans ((below_drewN w1 nq).mono HB1.out.size)⟩
      · have HJ := Lib.hid (show jumpB m n = true from decide_eq_true ⟨h1, .inr fun h => h3 (hz.symm.trans h)⟩)
        have hqb : (q != 1) = true := by simpa using fun h => h3 (hqz.1 h)
        clear h1 h2 h3 hqz
        go_enter Try.func15, Try.ntmps15
        go_wp2_with fail
        generalize w.alloc (.cells (pairArr a b) 53) = w1 at *
        go_quiet (fail)
        go_wp2_with fail
        go_ret
        exact ⟨retB HJ.out.symm, HB1.out.trans ((below_drewN w1 nq).mono HB1.out.size)⟩
set_option maxHeartbeats 4000000 in
theorem moved_any (a b : WV) (ha : a.Ok) (hb : b.Ok) (i : Nat) (hi : i < 8) (w : World) :
    Calls Try.prog 16 #[.agg (pairArr a b), .int .i64 i] w fun e w' => e = .returned (.bool (decide (a.fence[i]'(by rw [ha.fence]; exact hi) = b.fence[i]'(by rw [hb.fence]; exact hi) ∧ a.has[i]'(by rw [ha.has]; exact hi) ≠ b.has[i]'(by rw [hb.has]; exact hi)))) ∧ Below w.heap.size w w' := by
  have hr1 : (w.alloc (.cells (pairArr a b) 53)).heap[w.heap.size]? = some (.cells (pairArr a b) 53) := heap_alloc_new w _
  have k0 := (cell_of_row _ _ _ _ _ _ hr1).trans (pair_was_fence (b := b) ha hi)
  have k1 := (cell_of_row _ _ _ _ _ _ hr1).trans (pair_now_fence ha hb hi)
  have k2 := (cell_of_row _ _ _ _ _ _ hr1).trans (pair_was_has (b := b) ha hi)
  have k3 := (cell_of_row _ _ _ _ _ _ hr1).trans (pair_now_has ha hb hi)
  generalize a.fence[i]'(by rw [ha.fence]; exact hi) = m at *
  generalize b.fence[i]'(by rw [hb.fence]; exact hi) = n at *
  generalize a.has[i]'(by rw [ha.has]; exact hi) = p at *
  generalize b.has[i]'(by rw [hb.has]; exact hi) = q at *
  have hiz : (i : Int) < 8 := by omega
  have HB1 : Hid (Below w.heap.size w (w.alloc (.cells (pairArr a b) 53))) := (Below.refl _ _).alloc (Nat.le_refl _) _
  clear hr1 ha hb
  by_cases h1 : m = n
  · by_cases h2 : p = q
    · have HJ := Lib.hid (show decide (m = n ∧ p ≠ q) = false from decide_eq_false fun h => h.2 h2)
      subst h1
      subst h2
      go_enter Try.func16, Try.ntmps16
      go_wp2_with fail
      generalize w.alloc (.cells (pairArr a b) 53) = w1 at *
      go_quiet (fail)
      go_wp2_with fail
      go_ret
      exact ⟨retB HJ.out.symm, HB1.out.trans ((below_drewN w1 nq).mono HB1.out.size)⟩
    · have HJ := Lib.hid (show decide (m = n ∧ p ≠ q) = true from decide_eq_true ⟨h1, h2⟩)
      have h2b : (p != q) = true := by simpa using h2
      subst h1
      clear h2
      go_enter Try.func16, Try.ntmps16
      go_wp2_with fail
      generalize w.alloc (.cells (pairArr a b) 53) = w1 at *
      go_quiet (fail)
      go_wp2_with fail
      go_ret
      exact ⟨retB HJ.out.symm, HB1.out.trans ((below_drewN w1 nq).mono HB1.out.size)⟩
  · have HJ := Lib.hid (show decide (m = n ∧ p ≠ q) = false from decide_eq_false fun h => h1 h.1)
    have h1b : (m == n) = false := by simpa using h1
    clear h1
    go_enter Try.func16, Try.ntmps16
    go_wp2_with fail
    generalize w.alloc (.cells (pairArr a b) 53) = w1 at *
    go_quiet (fail)
    go_wp2_with fail
    go_ret
    exact ⟨retB HJ.out.symm, HB1.out.trans ((below_drewN w1 nq).mono HB1.out.size)⟩
end Go.Proofs.Ytkdjfoehpioghaa
