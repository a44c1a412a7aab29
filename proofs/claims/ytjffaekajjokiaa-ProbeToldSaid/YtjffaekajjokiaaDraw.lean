/-
  Both Draws: the next number behind one, and a number below another one.
-/
import Derived.Test.YtjffaekajjokiaaMix
import Derived.Test.YtjffaekajjokiaaIntRow
import Derived.Deep.QuietTactic
import Derived.BigQuiet
import Derived.IntWalk
namespace Go.Proofs.Ytjffaekajjokiaa
open Go.Shelf Go.RowKit Go.Lib Go.Sort
set_option linter.unusedVariables false
def nextS (s : Int) : Int := IntKind.u64.wrap (s + 11400714819323198485)
def drawK (s n : Int) : Int := wrap64 ((stirI (nextS s)).tmod n)
theorem xor_nonneg {a b : Int} (ha : 0 ≤ a) (ha1 : a < 18446744073709551616) (hb : 0 ≤ b) (hb1 : b < 18446744073709551616) : 0 ≤ bits BinOp.xor IntKind.u64 a b := by
  obtain ⟨m, rfl⟩ := Int.eq_ofNat_of_zero_le ha
  obtain ⟨k, rfl⟩ := Int.eq_ofNat_of_zero_le hb
  rw [bits_xor_u64_nat m k (by omega) (by omega)]
  omega
theorem stirI_nonneg (x : Int) : 0 ≤ stirI x := by
  unfold stirI mix2
  generalize bits BinOp.xor IntKind.u64 (mix1 x) (mix1 x / 134217728) * 10723151780598845931 = y
  have h0 : 0 ≤ IntKind.u64.wrap y ∧ IntKind.u64.wrap y < 18446744073709551616 := by rw [IntKind.wrap_u64]; omega
  exact xor_nonneg h0.1 h0.2 (by omega) (by omega)
theorem drawK_bounds (s n : Int) (h0 : 0 < n) (h1 : n ≤ 1000000) : 0 ≤ drawK s n ∧ drawK s n < n := by
  have hx := stirI_nonneg (nextS s)
  unfold drawK
  generalize stirI (nextS s) = x at *
  rw [Int.tmod_eq_emod_of_nonneg hx]
  have k0 := Int.emod_nonneg x (show n ≠ 0 by omega)
  have k1 := Int.emod_lt_of_pos x h0
  unfold wrap64
  omega
set_option maxHeartbeats 1000000 in
theorem draw_any (s : Int) (n : Int) (h0 : 0 < n) (h1 : n ≤ 1000000) (W : World) : Calls Try.prog 30 #[.int .u64 s, .int .i64 n] W fun e w' => e = .returned (.tuple #[.int .u64 (nextS s), .int .i64 (drawK s n)]) ∧ w' = W := by
  have hn : IntKind.u64.wrap n = n := by rw [IntKind.wrap_u64]; omega
  have hst := fun s' W => stir_any s' W
  have HST := Lib.hid hst
  clear hst
  go_enter Try.func30, Try.ntmps30
  go_wp2_with fail
  refine (HST.out _ _).mono ?_
  rintro e w1 ⟨rfl, rfl⟩
  go_wp2_with fail
  go_ret2
  exact ⟨rfl, rfl⟩
set_option maxHeartbeats 1000000 in
theorem refDraw_any (s : Int) (n : Int) (h0 : 0 < n) (h1 : n ≤ 1000000) (W : World) : Calls Try.prog 31 #[.int .u64 s, .int .i64 n] W fun e w' => e = .returned (.tuple #[.int .u64 (nextS s), .int .i64 (drawK s n)]) ∧ ∃ q, w' = W.drewN q := by
  have hn : IntKind.u64.wrap n = n := by rw [IntKind.wrap_u64]; omega
  have hnz : ¬ n = 0 := by omega
  have hst := fun s' q => (refStir_any s' (W.drewN q)).mono fun e w' (h : e = .returned (.int .u64 (stirI s')) ∧ w' = W.drewN q) => h
  have HST := Lib.hid hst
  clear hst
  go_enter Try.func31, Try.ntmps31
  go_wp2_with fail
  go_quiet (first | (go_at_call 35; refine Calls.quiet_of_same (HST.out _ _)))
  go_wp2_with fail
  go_ret2
  exact ⟨rfl, _, rfl⟩
/-- the object: its number, its slice -/
structure Ord2 (b : Nat) (W : World) (s : Int) (v : Value) (t : TypeId) : Prop where
  heap : W.heap[b]? = some (.cells #[.int .u64 s, v] t)
theorem Ord2.cell0 {b : Nat} {W : World} {s : Int} {v : Value} {t : TypeId} (h : Ord2 b W s v t) : W.cell? ⟨b, 0, none⟩ = some (.int .u64 s) := by rw [cell_of_row _ b 0 _ _ _ h.heap]; rfl
theorem Ord2.cell1 {b : Nat} {W : World} {s : Int} {v : Value} {t : TypeId} (h : Ord2 b W s v t) : W.cell? ⟨b, 1, none⟩ = some v := by rw [cell_of_row _ b 1 _ _ _ h.heap]; rfl
theorem Ord2.frozen {b : Nat} {W : World} {s : Int} {v : Value} {t : TypeId} (h : Ord2 b W s v t) (n : Nat) : W.frozen? ⟨b, n, none⟩ = false := by simp [World.frozen?, h.heap]
theorem Ord2.lt {b : Nat} {W : World} {s : Int} {v : Value} {t : TypeId} (h : Ord2 b W s v t) : b < W.heap.size := (Array.getElem?_eq_some_iff.1 h.heap).1
theorem Ord2.keep {b : Nat} {W W' : World} {s : Int} {v : Value} {t : TypeId} (h : Ord2 b W s v t) (e : W'.heap[b]? = W.heap[b]?) : Ord2 b W' s v t := ⟨e.trans h.heap⟩
theorem heap_setCell_same (w : World) (g o : Nat) (v : Value) (cur : Array Value) (e : TypeId) (fr : Nat × Nat) (h : w.heap[g]? = some (.cells cur e fr)) : (w.setCell ⟨g, o, none⟩ v).heap[g]? = some (.cells (cur.setIfInBounds o v) e fr) := by
  rw [setCell_eq]
  simp [mapBlock, Array.getElem?_modify, h, onCells]
theorem Ord2.set0 {b : Nat} {W : World} {s : Int} {v : Value} {t : TypeId} (h : Ord2 b W s v t) (s' : Int) : Ord2 b (W.setCell ⟨b, 0, none⟩ (.int .u64 s')) s' v t := ⟨by rw [heap_setCell_same _ _ _ _ _ _ _ h.heap]; rfl⟩
theorem Ord2.set1 {b : Nat} {W : World} {s : Int} {v : Value} {t : TypeId} (h : Ord2 b W s v t) (v' : Value) : Ord2 b (W.setCell ⟨b, 1, none⟩ v') s v' t := ⟨by rw [heap_setCell_same _ _ _ _ _ _ _ h.heap]; rfl⟩
set_option maxHeartbeats 1000000 in
theorem drawOf_any (b : Nat) (s : Int) (v : Value) (n : Int) (h0 : 0 < n) (h1 : n ≤ 1000000) (W : World) (h : Ord2 b W s v 45) : Calls Try.prog 22 #[.pointer (some ⟨b, 0, none⟩), .int .i64 n] W fun e w' => e = .returned (.int .i64 (drawK s n)) ∧ w' = W.setCell ⟨b, 0, none⟩ (.int .u64 (nextS s)) := by
  have c0 := h.cell0
  have f0 := h.frozen 0
  have hd := draw_any s n h0 h1 W
  have HD := Lib.hid hd
  clear hd h
  go_enter Try.func22, Try.ntmps22
  go_wp2_with fail
  refine HD.out.mono ?_
  rintro e w1 ⟨rfl, rfl⟩
  go_wp2_with fail
  go_ret
  exact ⟨rfl, rfl⟩
set_option maxHeartbeats 1000000 in
theorem stateOf_any (b : Nat) (s : Int) (v : Value) (W : World) (h : Ord2 b W s v 45) : Calls Try.prog 16 #[.pointer (some ⟨b, 0, none⟩)] W fun e w' => e = .returned (.int .u64 s) ∧ w' = W := by
  have c0 := h.cell0
  clear h
  go_enter Try.func16, Try.ntmps16
  go_wp2_with fail
  go_ret
  exact ⟨rfl, rfl⟩
set_option maxHeartbeats 1000000 in
theorem new_any (s : Int) (W : World) : Calls Try.prog 8 #[.int .u64 s] W fun e w' => e = .returned (.pointer (some ⟨W.heap.size, 0, none⟩)) ∧ w' = W.alloc (.cells #[.int .u64 s, .slice none 0 0] 45) := by
  go_enter Try.func8, Try.ntmps8
  go_wp2_with fail
  go_ret
  exact ⟨rfl, rfl⟩
end Go.Proofs.Ytjffaekajjokiaa
