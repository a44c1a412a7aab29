/-
  A slice of two wide parts, built: what lies in memory.
-/
import Derived.Test.YtkdjfoehpioghaaBuildP
namespace Go.Proofs.Ytkdjfoehpioghaa
open Go.Shelf Go.RowKit Go.Lib Go.Sort
set_option linter.unusedVariables false
theorem fill_two {k : Nat} {Z x y : Array Value} (hZ : Z.size = k + k) (hx : x.size = k) (hy : y.size = k) : Instr.fill (fun i => some (i * k, k)) Z [(0, .agg x), (1, .agg y)] = some (x ++ y) := by
  have hlx : x.toList.length = k := by rw [Array.length_toList]; exact hx
  have hly : y.toList.length = k := by rw [Array.length_toList]; exact hy
  have f1 : Array.foldl (fun cs c => cs.setIfInBounds (0 * k + c.2) c.1) Z x.zipIdx 0 x.zipIdx.size = setAll Z 0 x.toList := by
    have h := fold_at (0 * k) x.toList Z k hlx.symm
    rw [Array.toArray_toList] at h
    rw [Array.size_zipIdx, hx, h, Nat.zero_mul]
  have f2 : Array.foldl (fun cs c => cs.setIfInBounds (1 * k + c.2) c.1) (setAll Z 0 x.toList) y.zipIdx 0 y.zipIdx.size = setAll (setAll Z 0 x.toList) k y.toList := by
    have h := fold_at (1 * k) y.toList (setAll Z 0 x.toList) k hly.symm
    rw [Array.toArray_toList] at h
    rw [Array.size_zipIdx, hy, h, Nat.one_mul]
  have f3 : setAll (setAll Z 0 x.toList) k y.toList = x ++ y := by
    have h := setAll_two (Z := Z) (l := x.toList) (m := y.toList) (by rw [hlx, hly]; exact hZ)
    rw [hlx] at h
    rw [h]
    simp
  have hcx : (Value.agg x).cells = x := rfl
  have hcy : (Value.agg y).cells = y := rfl
  unfold Instr.fill
  simp only [hcx, hx, hZ]
  rw [if_neg (by simp), f1]
  unfold Instr.fill
  simp only [hcy, hy, setAll_size, hZ]
  rw [if_neg (by simp), f2, f3]
  rfl
theorem wpList_build2 {P : Program} (w : World) {ops : Array Oper} {rest : List Oper} {o : Oper} {a : Act} {Q : Exit → Act → World → Prop} (hgd : o.guard = none) (t elem : TypeId) (p q : Operand) (ho : o.op = .buildSlice t 2 #[(0, p), (1, q)]) (k : Nat) (h0 : 0 < k) (hk : k ≤ 1000000)
    (ht : P.underlying t = some (.slice elem)) (hs : (sizeOf elem).run P w = .ok k w) (z : Value) (hz : (zeroValue elem).run P w = .ok z w) (x y : Array Value) (hp : a.eval p = .agg x) (hq : a.eval q = .agg y) (hx : x.size = k) (hy : y.size = k)
    (h : wpList P ops Q rest (a.put o.dst (.slice (some ⟨w.heap.size, 0, none⟩) 2 2)) (w.alloc (.cells (x ++ y) elem))) : wpList P ops Q (o :: rest) a w := by
  refine wpList_plain hgd fun K hK => ?_
  unfold Oper.wp execOp
  have hf : Instr.fill (fun i => some (i * k, k)) ((Array.range (2 * k)).map (z.cells[· % z.cells.size]!)) [(0, .agg x), (1, .agg y)] = some (x ++ y) := fill_two (by simp; omega) hx hy
  have hrun : (Instr.buildSlice t 2 #[(0, .agg x), (1, .agg y)]).run P w = .ok (.slice (some ⟨w.heap.size, 0, none⟩) 2 2) (w.alloc (.cells (x ++ y) elem)) := by
    unfold Instr.buildSlice
    simp only [Sem.run_bind, run_underlying ht, Result.andThen_ok, hs]
    rw [if_neg (by omega)]
    rw [if_neg (by omega)]
    simp only [Sem.run_bind, Sem.run_pure, Result.andThen_ok, hz, hf]
    rfl
  simp only [ho, List.map_toArray, List.map_cons, List.map_nil, hp, hq, Sem.run_bind, hrun, Result.andThen_ok]
  exact hK _ _ h
end Go.Proofs.Ytkdjfoehpioghaa
