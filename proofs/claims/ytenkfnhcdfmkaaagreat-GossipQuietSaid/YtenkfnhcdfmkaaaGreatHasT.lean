/-
  Which parts a message of a kind has: msg.has.
-/
import Derived.Test.YtenkfnhcdfmkaaaGreatMWhole
import Derived.Test.YtenkfnhcdfmkaaaGreatMAcc
namespace Go.Proofs.YtenkfnhcdfmkaaaGreat
open Go.Shelf Go.RowKit Go.Lib Go.Sort
set_option linter.unusedVariables false
set_option linter.unusedSimpArgs false
theorem wpList_storeRow {P : Program} (w : World) {ops : Array Oper} {rest : List Oper} {o : Oper} {a : Act} {Q : Exit → Act → World → Prop} (hgd : o.guard = none) (hd : o.dst = none) (t : TypeId) (ax vx : Operand) (ho : o.op = .store t ax vx)
  (g : Nat) (c c' : Array Value) (hax : a.eval ax = .pointer (some ⟨g, 0, none⟩)) (hvx : a.eval vx = .agg c') (hg : w.heap[g]? = some (.cells c t (0, 0)))
  (hinfo : (P.info? t).map (·.size) = some c'.size) (hs : c.size = c'.size) (h1 : c'.all (·.oneCell') = true) (h : wpList P ops Q rest a (w.setRow g c')) : wpList P ops Q (o :: rest) a w := by
 refine wpList_plain hgd fun K hK => ?_
 have hst := run_storeVar_row (P := P) w g t t c c' hg hinfo hs h1
 have hK2 := hK a (w.setRow g c') h
 unfold Oper.wp execOp
 simp only [ho, hax, hvx, Instr.storeAt, Instr.sureAddr, Sem.run_bind, Sem.run_pure, Result.andThen_ok, hst, Oper.upon, hd, Act.put]
 exact hK2
theorem wpList_known {P : Program} (w : World) {ops : Array Oper} {rest : List Oper} {o : Oper} {a : Act} {Q : Exit → Act → World → Prop} (hgd : o.guard = none) (i : Op) (ho : o.op = i) (v : Value)
  (hv : (execOp a.eval o).run P w = .ok (.value v) w) (h : wpList P ops Q rest (a.put o.dst v) w) : wpList P ops Q (o :: rest) a w := by
 refine wpList_plain hgd fun K hK => ?_
 have hK2 := hK _ _ h
 unfold Oper.wp
 rw [hv]
 exact hK2
def partsV (kind : Int) : Array Value := #[.bool (decide (kind = 1 ∨ kind = 2 ∨ kind = 3 ∨ kind = 4)), .bool (decide (kind = 2 ∨ kind = 3)), .bool (decide (kind = 4)), .bool (decide (kind = 5))]
def hasCells : Array Value := #[.bool false, .bool false, .bool false, .bool false, .bool true, .bool false, .bool false, .bool false, .bool true, .bool true, .bool false, .bool false, .bool true, .bool true, .bool false, .bool false, .bool true, .bool false, .bool true, .bool false, .bool false, .bool false, .bool false, .bool true]
theorem set4_heap (w : World) (g t : Nat) (p q r s a b c d : Value) (h : w.heap[g]? = some (.cells #[p, q, r, s] t)) : ((((w.setCell ⟨g, 0, none⟩ a).setCell ⟨g, 1, none⟩ b).setCell ⟨g, 2, none⟩ c).setCell ⟨g, 3, none⟩ d).heap[g]? = some (.cells #[a, b, c, d] t) :=
 heap_cellSame _ _ _ _ _ _ (heap_cellSame _ _ _ _ _ _ (heap_cellSame _ _ _ _ _ _ (heap_cellSame _ _ _ _ _ _ h)))
theorem hasOne : hasCells.all (·.oneCell') = true := by simp [hasCells, Value.oneCell']
set_option maxHeartbeats 4000000 in
theorem has_any (kind : Int) (h : 1 ≤ kind ∧ kind ≤ 5) (w : World) : Calls Tryz.prog 48 #[.int .i64 kind] w fun e w' => e = .returned (.agg (partsV kind)) ∧ Below w.heap.size w w' := by
 obtain ⟨h0, h1, hb, hs⟩ := alloc2 w (.cells #[.bool false, .bool false, .bool false, .bool false] 105) (.cells #[.bool false, .bool false, .bool false, .bool false, .bool false, .bool false, .bool false, .bool false, .bool false, .bool false, .bool false, .bool false, .bool false, .bool false, .bool false, .bool false, .bool false, .bool false, .bool false, .bool false, .bool false, .bool false, .bool false, .bool false] 146)
 obtain ⟨w2, hw2⟩ : ∃ w2, (w.alloc (.cells #[.bool false, .bool false, .bool false, .bool false] 105)).alloc (.cells #[.bool false, .bool false, .bool false, .bool false, .bool false, .bool false, .bool false, .bool false, .bool false, .bool false, .bool false, .bool false, .bool false, .bool false, .bool false, .bool false, .bool false, .bool false, .bool false, .bool false, .bool false, .bool false, .bool false, .bool false] 146) = w2 := ⟨_, rfl⟩
 rw [hw2] at h0 h1 hb hs
 obtain ⟨w3, hw3⟩ : ∃ w3, w2.setRow (w.heap.size + 1) hasCells = w3 := ⟨_, rfl⟩
 have hr3 := setRow_heap w2 (w.heap.size + 1) _ hasCells _ _ h1
 have hr0 := setRow_other w2 (w.heap.size + 1) w.heap.size hasCells (by omega)
 rw [hw3] at hr3 hr0
 rw [h0] at hr0
 have hb3 : Below w.heap.size w w3 := hb.trans (by rw [← hw3]; exact ⟨rfl, rfl, rfl, by simp [World.setRow], fun k hk => setRow_other w2 (w.heap.size + 1) k _ (by omega)⟩)
 have q0 := cell_of_row w3 w.heap.size 0 _ _ _ hr0
 have q1 := cell_of_row w3 w.heap.size 1 _ _ _ hr0
 have q2 := cell_of_row w3 w.heap.size 2 _ _ _ hr0
 have q3 := cell_of_row w3 w.heap.size 3 _ _ _ hr0
 have qz : ∀ k, w3.frozen? ⟨w.heap.size, k, none⟩ = false := fun k => by unfold World.frozen?; rw [hr0]; simp
 have z0 := qz 0
 have z1 := qz 1
 have z2 := qz 2
 have z3 := qz 3
 have hc := fun k => cell_of_row w3 (w.heap.size + 1) k _ _ _ hr3
 simp only [List.getElem?_toArray, List.getElem?_cons_zero, List.getElem?_cons_succ] at q0 q1 q2 q3
 have H1 := Lib.hid h1
 have HW2 := Lib.hid hw2
 have HW3 := Lib.hid hw3
 have HB3 := Lib.hid hb3
 have HC := Lib.hid hc
 have HR0 := Lib.hid hr0
 clear h0 h1 hb hs hw2 hw3 hr3 hr0 qz hb3 hc
 rcases (show kind = 1 ∨ kind = 2 ∨ kind = 3 ∨ kind = 4 ∨ kind = 5 by omega) with rfl | rfl | rfl | rfl | rfl
 ·have p0 : w3.cell? ⟨w.heap.size + 1, 4, none⟩ = some (.bool true) := HC.out 4
  have p1 : w3.cell? ⟨w.heap.size + 1, 5, none⟩ = some (.bool false) := HC.out 5
  have p2 : w3.cell? ⟨w.heap.size + 1, 6, none⟩ = some (.bool false) := HC.out 6
  have p3 : w3.cell? ⟨w.heap.size + 1, 7, none⟩ = some (.bool false) := HC.out 7
  go_enter Tryz.func48, Tryz.ntmps48
  go_wp2_with (first | (refine wpList_known _ rfl (.build 146 _) rfl (.agg hasCells) (by kernel_rfl) ?_; skip) | ((rw [HW2.out]; refine wpList_storeRow _ rfl rfl 146 (.tmp 3) (.tmp 9) rfl (w.heap.size + 1) _ hasCells rfl rfl H1.out (by kernel_rfl) rfl hasOne ?_; rw [HW3.out])))
  have hL := run_loadVarAgg (t := 105) (n := 4) (by kernel_rfl) (by kernel_rfl) (load_whole (set4_heap w3 w.heap.size 105 _ _ _ _ (.bool true) (.bool false) (.bool false) (.bool false) HR0.out) rfl)
  exact bodyPost_ret (v := .agg (partsV 1)) (run_results_cell rfl rfl hL) rfl ⟨rfl, (((HB3.out.setCell (p := ⟨w.heap.size, 0, none⟩) (Nat.le_refl _) _).setCell (p := ⟨w.heap.size, 1, none⟩) (Nat.le_refl _) _).setCell (p := ⟨w.heap.size, 2, none⟩) (Nat.le_refl _) _).setCell (p := ⟨w.heap.size, 3, none⟩) (Nat.le_refl _) _⟩
 ·have p0 : w3.cell? ⟨w.heap.size + 1, 8, none⟩ = some (.bool true) := HC.out 8
  have p1 : w3.cell? ⟨w.heap.size + 1, 9, none⟩ = some (.bool true) := HC.out 9
  have p2 : w3.cell? ⟨w.heap.size + 1, 10, none⟩ = some (.bool false) := HC.out 10
  have p3 : w3.cell? ⟨w.heap.size + 1, 11, none⟩ = some (.bool false) := HC.out 11
  go_enter Tryz.func48, Tryz.ntmps48
  go_wp2_with (first | (refine wpList_known _ rfl (.build 146 _) rfl (.agg hasCells) (by kernel_rfl) ?_; skip) | ((rw [HW2.out]; refine wpList_storeRow _ rfl rfl 146 (.tmp 3) (.tmp 9) rfl (w.heap.size + 1) _ hasCells rfl rfl H1.out (by kernel_rfl) rfl hasOne ?_; rw [HW3.out])))
  have hL := run_loadVarAgg (t := 105) (n := 4) (by kernel_rfl) (by kernel_rfl) (load_whole (set4_heap w3 w.heap.size 105 _ _ _ _ (.bool true) (.bool true) (.bool false) (.bool false) HR0.out) rfl)
  exact bodyPost_ret (v := .agg (partsV 2)) (run_results_cell rfl rfl hL) rfl ⟨rfl, (((HB3.out.setCell (p := ⟨w.heap.size, 0, none⟩) (Nat.le_refl _) _).setCell (p := ⟨w.heap.size, 1, none⟩) (Nat.le_refl _) _).setCell (p := ⟨w.heap.size, 2, none⟩) (Nat.le_refl _) _).setCell (p := ⟨w.heap.size, 3, none⟩) (Nat.le_refl _) _⟩
 ·have p0 : w3.cell? ⟨w.heap.size + 1, 12, none⟩ = some (.bool true) := HC.out 12
  have p1 : w3.cell? ⟨w.heap.size + 1, 13, none⟩ = some (.bool true) := HC.out 13
  have p2 : w3.cell? ⟨w.heap.size + 1, 14, none⟩ = some (.bool false) := HC.out 14
  have p3 : w3.cell? ⟨w.heap.size + 1, 15, none⟩ = some (.bool false) := HC.out 15
  go_enter Tryz.func48, Tryz.ntmps48
  go_wp2_with (first | (refine wpList_known _ rfl (.build 146 _) rfl (.agg hasCells) (by kernel_rfl) ?_; skip) | ((rw [HW2.out]; refine wpList_storeRow _ rfl rfl 146 (.tmp 3) (.tmp 9) rfl (w.heap.size + 1) _ hasCells rfl rfl H1.out (by kernel_rfl) rfl hasOne ?_; rw [HW3.out])))
  have hL := run_loadVarAgg (t := 105) (n := 4) (by kernel_rfl) (by kernel_rfl) (load_whole (set4_heap w3 w.heap.size 105 _ _ _ _ (.bool true) (.bool true) (.bool false) (.bool false) HR0.out) rfl)
  exact bodyPost_ret (v := .agg (partsV 3)) (run_results_cell rfl rfl hL) rfl ⟨rfl, (((HB3.out.setCell (p := ⟨w.heap.size, 0, none⟩) (Nat.le_refl _) _).setCell (p := ⟨w.heap.size, 1, none⟩) (Nat.le_refl _) _).setCell (p := ⟨w.heap.size, 2, none⟩) (Nat.le_refl _) _).setCell (p := ⟨w.heap.size, 3, none⟩) (Nat.le_refl _) _⟩
 ·have p0 : w3.cell? ⟨w.heap.size + 1, 16, none⟩ = some (.bool true) := HC.out 16
  have p1 : w3.cell? ⟨w.heap.size + 1, 17, none⟩ = some (.bool false) := HC.out 17
  have p2 : w3.cell? ⟨w.heap.size + 1, 18, none⟩ = some (.bool true) := HC.out 18
  have p3 : w3.cell? ⟨w.heap.size + 1, 19, none⟩ = some (.bool false) := HC.out 19
  go_enter Tryz.func48, Tryz.ntmps48
  go_wp2_with (first | (refine wpList_known _ rfl (.build 146 _) rfl (.agg hasCells) (by kernel_rfl) ?_; skip) | ((rw [HW2.out]; refine wpList_storeRow _ rfl rfl 146 (.tmp 3) (.tmp 9) rfl (w.heap.size + 1) _ hasCells rfl rfl H1.out (by kernel_rfl) rfl hasOne ?_; rw [HW3.out])))
  have hL := run_loadVarAgg (t := 105) (n := 4) (by kernel_rfl) (by kernel_rfl) (load_whole (set4_heap w3 w.heap.size 105 _ _ _ _ (.bool true) (.bool false) (.bool true) (.bool false) HR0.out) rfl)
  exact bodyPost_ret (v := .agg (partsV 4)) (run_results_cell rfl rfl hL) rfl ⟨rfl, (((HB3.out.setCell (p := ⟨w.heap.size, 0, none⟩) (Nat.le_refl _) _).setCell (p := ⟨w.heap.size, 1, none⟩) (Nat.le_refl _) _).setCell (p := ⟨w.heap.size, 2, none⟩) (Nat.le_refl _) _).setCell (p := ⟨w.heap.size, 3, none⟩) (Nat.le_refl _) _⟩
 ·have p0 : w3.cell? ⟨w.heap.size + 1, 20, none⟩ = some (.bool false) := HC.out 20
  have p1 : w3.cell? ⟨w.heap.size + 1, 21, none⟩ = some (.bool false) := HC.out 21
  have p2 : w3.cell? ⟨w.heap.size + 1, 22, none⟩ = some (.bool false) := HC.out 22
  have p3 : w3.cell? ⟨w.heap.size + 1, 23, none⟩ = some (.bool true) := HC.out 23
  go_enter Tryz.func48, Tryz.ntmps48
  go_wp2_with (first | (refine wpList_known _ rfl (.build 146 _) rfl (.agg hasCells) (by kernel_rfl) ?_; skip) | ((rw [HW2.out]; refine wpList_storeRow _ rfl rfl 146 (.tmp 3) (.tmp 9) rfl (w.heap.size + 1) _ hasCells rfl rfl H1.out (by kernel_rfl) rfl hasOne ?_; rw [HW3.out])))
  have hL := run_loadVarAgg (t := 105) (n := 4) (by kernel_rfl) (by kernel_rfl) (load_whole (set4_heap w3 w.heap.size 105 _ _ _ _ (.bool false) (.bool false) (.bool false) (.bool true) HR0.out) rfl)
  exact bodyPost_ret (v := .agg (partsV 5)) (run_results_cell rfl rfl hL) rfl ⟨rfl, (((HB3.out.setCell (p := ⟨w.heap.size, 0, none⟩) (Nat.le_refl _) _).setCell (p := ⟨w.heap.size, 1, none⟩) (Nat.le_refl _) _).setCell (p := ⟨w.heap.size, 2, none⟩) (Nat.le_refl _) _).setCell (p := ⟨w.heap.size, 3, none⟩) (Nat.le_refl _) _⟩
end Go.Proofs.YtenkfnhcdfmkaaaGreat
