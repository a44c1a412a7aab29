/-
  watch.Look at no world; the law's own example.
-/
import Derived.Test.YtkdjfoehpioghaaViewTo
namespace Go.Proofs.Ytkdjfoehpioghaa
open Go.Shelf Go.RowKit Go.Lib Go.Sort
set_option linter.unusedVariables false
def WV.zero : WV := ⟨List.replicate 8 WN.zero, List.replicate 8 0, List.replicate 8 0, 0⟩
theorem WV.zero_ok : WV.zero.Ok := ⟨rfl, rfl, rfl⟩
set_option maxRecDepth 100000 in
set_option maxHeartbeats 8000000 in
theorem lookNil_any (w : World) : Calls Try.prog 11 #[.pointer none] w fun e w' => e = .returned (.agg WV.zero.cells.toArray) ∧ Below w.heap.size w w' := by
  have hr := heap_alloc_new w (.cells Try.zeroCells43 43)
  have hz := zeroView
  have hld : Sem.run Try.prog (loadCellsFrom ⟨w.heap.size, 0, none⟩ 0 105 #[]) (w.alloc (.cells Try.zeroCells43 43)) = .ok WV.zero.cells.toArray (w.alloc (.cells Try.zeroCells43 43)) := view_load WV.zero_ok (by rw [heap_alloc_new]; exact congrArg some (congrArg (Obj.cells · 43) hz))
  obtain ⟨w3, hst, hr3, hg3⟩ := store_whole (w := w.alloc (.cells Try.zeroCells43 43)) (g := w.heap.size) (cur := Try.zeroCells43) (t := 43) (vs := WV.zero.cells.toArray.toList) hr (by rw [hz]; rfl) (fun x hx => WV.one x (by simpa using hx))
  have hr3' : w3.heap[w.heap.size]? = some (.cells WV.zero.cells.toArray 43) := by rw [hr3, Array.toArray_toList]
  have hld3 := view_load WV.zero_ok hr3'
  have hb3 : Below w.heap.size w w3 := ((Below.refl w.heap.size w).alloc (Nat.le_refl _) (.cells Try.zeroCells43 43)).grown hg3 (by rw [World.size_alloc]; omega) (fun k hk => by cases hk; omega)
  have hsc : WV.zero.cells.toArray.size = 105 := rfl
  have HLD := Lib.hid hld
  have HLD3 := Lib.hid hld3
  have HB3 := Lib.hid hb3
  clear hld hr hz hr3 hr3' hld3 hb3 hg3
  generalize WV.zero.cells.toArray = cZ at *
  go_enter Try.func11, Try.ntmps11
  go_wp2_with (refine wpList_loadAgg _ rfl 43 _ rfl 105 (by kernel_rfl) (by kernel_rfl) ⟨w.heap.size, 0, none⟩ rfl cZ HLD.out ?_)
  have hL := run_loadVarAgg (t := 43) (by kernel_rfl) (by kernel_rfl) HLD3.out
  exact bodyPost_ret (v := .agg cZ) (run_results_cell rfl rfl hL) rfl ⟨rfl, HB3.out⟩
end Go.Proofs.Ytkdjfoehpioghaa
