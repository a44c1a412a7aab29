/-
  A set of dots laid open in memory: 8 rows of 98 bools in one block; put lays one in.
  dotset's small functions walked: may, compare, each and walk at any function value.
-/
import Derived.Test.YtenkfnhcdfmkaaaGreatMDotP
import Derived.Deep.RegionLaw
import Derived.Deep.QuietTactic
import Derived.BigQuiet
import Derived.Test.YtenkfnhcdfmkaaaGreatMAcc
import Derived.Deep.LoopGhost
import Derived.Shelf.GgClosure.Gives
namespace Go.Proofs.YtenkfnhcdfmkaaaGreat
open Go.RowKit Go.Lib Go.Sort
set_option linter.unusedVariables false
def gridCells (g : Grid) : Array Value := Array.ofFn (n := 784) fun i => Value.bool (gridAt g i)
theorem gridCells_at (g : Grid) (i : Nat) (h : i < 784) : (gridCells g)[i]? = some (.bool (gridAt g i)) := by
 unfold gridCells
 rw [Array.getElem?_ofFn, dif_pos h]
theorem gridCells_size (g : Grid) : (gridCells g).size = 784 := Array.size_ofFn
def GridAt (w : World) (b : Nat) (g : Grid) : Prop := w.heap[b]? = some (.cells (gridCells g) 152)
theorem GridAt.lt {w : World} {b : Nat} {g : Grid} (h : GridAt w b g) : b < w.heap.size := (Array.getElem?_eq_some_iff.1 h).1
theorem GridAt.cell {w : World} {b : Nat} {g : Grid} (h : GridAt w b g) (n q : Nat) (hn : n < 8) (hq : q < 98) : w.cell? ⟨b, n * 98 + q, none⟩ = some (.bool (g n q)) := by
 rw [cell_of_row w b (n * 98 + q) _ _ _ h, gridCells_at g _ (by omega)]
 unfold gridAt
 rw [show (n * 98 + q) / 98 = n by omega, show (n * 98 + q) % 98 = q by omega]
theorem GridAt.free {w : World} {b : Nat} {g : Grid} (h : GridAt w b g) (o : Nat) : w.frozen? ⟨b, o, none⟩ = false := by
 unfold World.frozen?
 rw [h]
 simp
theorem GridAt.keep {w w' : World} {b : Nat} {g : Grid} (h : GridAt w b g) (hb : w'.heap[b]? = w.heap[b]?) : GridAt w' b g := hb.trans h
theorem GridAt.below {w w' : World} {b B : Nat} {g : Grid} (h : GridAt w b g) (hb : Below B w w') (hB : b < B) : GridAt w' b g := (hb.block b hB).trans h
theorem GridAt.kept {w w' : World} {b : Nat} {row : Option Nat} {g : Grid} (h : GridAt w b g) (hg : w.grownBy w' row) (hr : some b ≠ row) : GridAt w' b g := (hg.block b h.lt hr).trans h
theorem GridAt.set {w : World} {b : Nat} {g : Grid} (h : GridAt w b g) (n q : Nat) (hn : n < 8) (hq : q < 98) : GridAt (w.setCell ⟨b, n * 98 + q, none⟩ (.bool true)) b (g.put n q) := by
 unfold GridAt at *
 rw [heap_setCell_same _ _ _ _ _ _ h]
 refine congrArg (fun c => some (Obj.cells c 152 (0, 0))) ?_
 apply Array.ext_getElem?
 intro i
 by_cases hi : i < 784
 ·rw [gridCells_at _ _ hi, Array.getElem?_setIfInBounds]
  by_cases e : n * 98 + q = i
  ·rw [if_pos e, if_pos (by rw [gridCells_size]; omega)]
   unfold gridAt Grid.put
   rw [show i / 98 = n by omega, show i % 98 = q by omega]
   simp
  ·rw [if_neg e, gridCells_at _ _ hi]
   unfold gridAt Grid.put
   have : (decide (i / 98 = n) && decide (i % 98 = q)) = false := by
    rw [Bool.and_eq_false_iff, decide_eq_false_iff_not, decide_eq_false_iff_not]
    omega
   rw [this, Bool.or_false]
 ·rw [Array.getElem?_eq_none (by rw [Array.size_setIfInBounds, gridCells_size]; omega), Array.getElem?_eq_none (by rw [gridCells_size]; omega)]
def rowCells (g : Grid) (n : Nat) : Array Value := Array.ofFn (n := 98) fun i => Value.bool (g n i)
theorem rowCells_at (g : Grid) (n i : Nat) (h : i < 98) : (rowCells g n)[i]? = some (.bool (g n i)) := by
 unfold rowCells
 rw [Array.getElem?_ofFn, dif_pos h]
set_option maxHeartbeats 4000000 in
theorem put_any (b : Nat) (g : Grid) (d : Dot) (w : World) (h : GridAt w b g) (h0 : 0 ≤ d.node) (h1 : d.node < 8) (h2 : 0 ≤ d.seq) (h3 : d.seq < 98) :
  Calls Tryz.prog 107 #[.pointer (some ⟨b, 0, none⟩), .agg #[.int .i64 d.node, .int .i64 d.seq]] w fun e w' => e = .returned (.tuple #[]) ∧ GridAt w' b (g.put d.node.toNat d.seq.toNat) ∧ w.grownBy w' (some b) := by
 have hg1 : GridAt (w.alloc (.cells #[.int .i64 d.node, .int .i64 d.seq] 40)).drew b g := h.below (below_drew ((Below.refl w.heap.size w).alloc (Nat.le_refl _) _)) h.lt
 have hc := hg1.cell d.node.toNat d.seq.toNat (by omega) (by omega)
 have hf := hg1.free (d.node.toNat * 98 + d.seq.toNat)
 have HG := Lib.hid hg1
 have HL := Lib.hid h.lt
 clear h hg1
 go_enter Tryz.func107, Tryz.ntmps107
 go_wp2_with fail
 go_region_law (fail)
 all_goals
  go_wp2_with fail
  go_end0
  exact ⟨rfl, HG.out.set _ _ (by omega) (by omega), rfl, rfl, rfl, by simp, fun i hi hne => (Below.heap_setCell (w.alloc (.cells #[.int .i64 d.node, .int .i64 d.seq] 40)) ⟨b, d.node.toNat * 98 + d.seq.toNat, none⟩ _ _ (fun e => hne (by rw [e]))).trans (Below.heap_alloc _ _ _ hi)⟩
end Go.Proofs.YtenkfnhcdfmkaaaGreat
namespace Go.Proofs.YtenkfnhcdfmkaaaGreat
open Go.Shelf Go.RowKit Go.Lib Go.Sort
set_option linter.unusedVariables false
def mayB (d : Dot) : Bool := decide (May d)
set_option maxHeartbeats 2000000 in
theorem may_any (d : Dot) (w : World) : Calls Tryz.prog 51 #[.agg #[.int .i64 d.node, .int .i64 d.seq]] w fun e w' => e = .returned (.bool (mayB d)) ∧ Grew w w' := by
 by_cases h1 : 0 ≤ d.node
 ·by_cases h2 : d.node < 8
  ·by_cases h3 : 1 ≤ d.seq
   ·by_cases h4 : d.seq ≤ 96
    ·have hm : mayB d = true := decide_eq_true ⟨h1, h2, h3, h4⟩
     rw [hm]; clear hm
     go_enter Tryz.func51, Tryz.ntmps51
     go_wp2_with fail
     go_ret
     exact ⟨rfl, (Grew.refl _).alloc _⟩
    ·have hm : mayB d = false := decide_eq_false fun h => h4 h.2.2.2
     rw [hm]; clear hm
     go_enter Tryz.func51, Tryz.ntmps51
     go_wp2_with fail
     go_ret
     exact ⟨rfl, (Grew.refl _).alloc _⟩
   ·have hm : mayB d = false := decide_eq_false fun h => h3 h.2.2.1
    rw [hm]; clear hm
    go_enter Tryz.func51, Tryz.ntmps51
    go_wp2_with fail
    go_ret
    exact ⟨rfl, (Grew.refl _).alloc _⟩
  ·have hm : mayB d = false := decide_eq_false fun h => h2 h.2.1
   rw [hm]; clear hm
   go_enter Tryz.func51, Tryz.ntmps51
   go_wp2_with fail
   go_ret
   exact ⟨rfl, (Grew.refl _).alloc _⟩
 ·have hm : mayB d = false := decide_eq_false fun h => h1 h.1
  rw [hm]; clear hm
  go_enter Tryz.func51, Tryz.ntmps51
  go_wp2_with fail
  go_ret
  exact ⟨rfl, (Grew.refl _).alloc _⟩
def cmpDot (a b : Dot) : Int := if a.node = b.node then a.seq - b.seq else a.node - b.node
theorem cmpDot_neg {a b : Dot} : cmpDot a b < 0 ↔ Before a b := by
 unfold cmpDot Before
 split <;> omega
set_option maxHeartbeats 2000000 in
theorem dcompare_any (a b : Dot) (ha : May a) (hb : May b) (w : World) : Calls Tryz.prog 114 #[.agg #[.int .i64 a.node, .int .i64 a.seq], .agg #[.int .i64 b.node, .int .i64 b.seq]] w fun e w' => e = .returned (.int .i64 (cmpDot a b)) ∧ Grew w w' := by
 obtain ⟨h1, h2, h3, h4⟩ := ha
 obtain ⟨k1, k2, k3, k4⟩ := hb
 by_cases he : a.node = b.node
 ·have hm : cmpDot a b = a.seq - b.seq := by unfold cmpDot; rw [if_pos he]
  rw [hm]; clear hm
  go_enter Tryz.func114, Tryz.ntmps114
  go_wp2_with fail
  go_ret
  exact ⟨by go_num, ((Grew.refl _).alloc _).alloc _⟩
 ·have hm : cmpDot a b = a.node - b.node := by unfold cmpDot; rw [if_neg he]
  rw [hm]; clear hm
  go_enter Tryz.func114, Tryz.ntmps114
  go_wp2_with fail
  go_ret
  exact ⟨by go_num, ((Grew.refl _).alloc _).alloc _⟩
def Steps (K : Nat) (pre free : Array Value) (ds : List Dot) (Inv : Nat → World → Prop) : Prop :=
 (∀ i (h : i < ds.length) W, Inv i W → Calls Tryz.prog K (pre.push (.agg #[.int .i64 ds[i].node, .int .i64 ds[i].seq]) ++ free) W fun e w' => e = .returned (.tuple #[]) ∧ Inv (i + 1) w') ∧ (∀ i W W', Inv i W → Below W.heap.size W W' → Inv i W')
set_option maxHeartbeats 4000000 in
theorem each_any (K : Nat) (pre free : Array Value) (eg : ∀ args w, (callFunc K args).run Tryz.prog w = .ok (.enter K args) w) (oa : Option Addr) (cap : Nat) (ds : List Dot) (Inv : Nat → World → Prop) (hs : Steps K pre free ds Inv)
  (hr : ∀ i W, Inv i W → SlAt Dot.cells W (.slice oa ds.length cap) ds) (hl : ds.length ≤ 1000000) (w : World) (h0 : Inv 0 w) :
  Calls Tryz.prog 120 #[.slice oa ds.length cap, .func (.func K) pre free] w fun e w' => e = .returned (.tuple #[]) ∧ Inv ds.length w' := by
 have HS := Lib.hid hs
 have HR := Lib.hid hr
 have H0 := Lib.hid h0
 clear hs hr h0
 go_enter Tryz.func120, Tryz.ntmps120
 go_wp2_with fail
 go_loopg [8] ds.length (fun gk s8 wr => ∃ (i : Nat), s8 = .int .i64 i ∧ i ≤ ds.length ∧ ds.length - i ≤ gk ∧ Hid (Inv i wr))
 case atStart => exact ⟨0, rfl, Nat.zero_le _, Nat.le_refl _, H0.out⟩
 case round =>
  obtain ⟨i, rfl, hi, hg, HI⟩ := hrel
  by_cases hlt : i < ds.length
  ·have hltz : (i : Int) < (ds.length : Int) := by omega
   have hsl := HR.out i wr HI.out
   obtain ⟨b, off, rfl⟩ := hsl.plain Dot.cells_len (by decide) (by intro e; rw [e] at hlt; exact absurd hlt (by simp))
   have c0 := hsl.cell Dot.cells_len (i := i) (c := 0) hlt (by decide)
   have c1 := hsl.cell Dot.cells_len (i := i) (c := 1) hlt (by decide)
   have hst := fun W (hb : Below wr.heap.size wr W) => HS.out.1 i hlt W (HS.out.2 i wr W HI.out hb)
   simp only [Dot.cells, List.getElem?_cons_zero, List.getElem?_cons_succ] at c0 c1
   have e0 : off + (i * 2 + 0) = off + i * 2 := by omega
   have e1 : off + (i * 2 + 1) = off + i * 2 + 1 := by omega
   rw [e0] at c0
   rw [e1] at c1
   generalize ds[i] = d at *
   have HST := Lib.hid hst
   clear hsl hst e0 e1
   go_wp2_with fail
   refine (HST.out _ ((Below.refl _ _).alloc (Nat.le_refl _) _)).mono ?_
   rintro e w1 ⟨rfl, hI⟩
   have HI1 := Lib.hid hI
   clear hI c0 c1 HST HI
   go_wp2_with fail
   go_roundg (ds.length - (i + 1))
   case measure => omega
   case rel => exact ⟨i + 1, by go_num, by omega, Nat.le_refl _, HI1.out⟩
  ·have hltz : ¬ (i : Int) < (ds.length : Int) := by omega
   obtain rfl : i = ds.length := by omega
   go_wp2_with fail
   go_end0
   exact ⟨rfl, HI.out⟩
theorem rowCells_size (g : Grid) (n : Nat) : (rowCells g n).size = 98 := Array.size_ofFn
theorem wpList_loadAgg {P : Program} (w : World) {ops : Array Oper} {rest : List Oper} {o : Oper} {a : Act} {Q : Exit → Act → World → Prop} (hgd : o.guard = none) (t : TypeId) (x : Operand) (ho : o.op = .load t x) (n : Nat)
  (hA : (isAgg t).run P w = .ok true w) (hz : (sizeOf t).run P w = .ok n w) (p : Addr) (hx : a.eval x = .pointer (some p)) (vs : Array Value) (hl : Sem.run P (loadCellsFrom p 0 n #[]) w = .ok vs w)
  (h : wpList P ops Q rest (a.put o.dst (.agg vs)) w) : wpList P ops Q (o :: rest) a w := by
 refine wpList_plain hgd fun K hK => ?_
 unfold Oper.wp execOp
 simp only [ho, Instr.loadAt, Instr.sureAddr, loadVar, loadCells, Sem.run_bind, Sem.run_pure, Result.andThen_ok, hx, hA, hz, hl, if_true]
 exact hK _ _ h
theorem GridAt.load {w : World} {b : Nat} {g : Grid} (h : GridAt w b g) (n : Nat) (hn : n < 8) : Sem.run Tryz.prog (loadCellsFrom ⟨b, n * 98, none⟩ 0 98 #[]) w = .ok (rowCells g n) w := by
 have := run_loadCellsFrom_list Tryz.prog w ⟨b, n * 98, none⟩ (rowCells g n).toList 98 (by rw [Array.length_toList, rowCells_size]) fun j v hv => by
  rw [Addr.add_lit]
  have hj : j < 98 := by have := (List.getElem?_eq_some_iff.1 hv).1; rwa [Array.length_toList, rowCells_size] at this
  rw [Array.getElem?_toList, rowCells_at g n j hj] at hv
  rw [h.cell n j hn hj, ← hv]
 rw [this, Array.toArray_toList]
theorem run_index98 (g : Grid) (n j : Nat) (hj : j < 98) (w : World) : (Instr.index 76 (.agg (rowCells g n)) (.int .i64 j)).run Tryz.prog w = .ok (.bool (g n j)) w := by
 have h1 := rowCells_at g n j hj
 generalize rowCells g n = c at h1
 have hz : (sizeOf 4).run Tryz.prog w = .ok 1 w := by kernel_rfl
 have ha : (isAgg 4).run Tryz.prog w = .ok false w := by kernel_rfl
 simp [Instr.index, asIntOf, run_underlying Tryz.underlying76, part, hz, ha, h1, Result.andThen]
 omega
set_option maxHeartbeats 4000000 in
theorem walk_any (K : Nat) (pre free : Array Value) (eg : ∀ args w, (callFunc K args).run Tryz.prog w = .ok (.enter K args) w) (b : Nat) (g : Grid) (Inv : Nat → World → Prop)
  (hs : ∀ k, k < 784 → gridAt g k = true → ∀ W, Inv k W → Calls Tryz.prog K (pre.push (.agg #[.int .i64 (dotAt k).node, .int .i64 (dotAt k).seq]) ++ free) W fun e w' => e = .returned (.tuple #[]) ∧ Inv (k + 1) w')
  (hn : ∀ k, k < 784 → gridAt g k = false → ∀ W, Inv k W → Inv (k + 1) W) (hg : ∀ k W, Inv k W → GridAt W b g) (w : World) (h0 : Inv 0 w) :
  Calls Tryz.prog 91 #[.pointer (some ⟨b, 0, none⟩), .func (.func K) pre free] w fun e w' => e = .returned (.tuple #[]) ∧ Inv 784 w' := by
 have HS := Lib.hid hs
 have HN := Lib.hid hn
 have HG := Lib.hid hg
 have H0 := Lib.hid h0
 clear hs hn hg h0
 go_enter Tryz.func91, Tryz.ntmps91
 go_wp2_with fail
 go_loopg [7] 8 (fun gk s7 wr => ∃ (n : Nat), s7 = .int .i64 n ∧ n ≤ 8 ∧ 8 - n ≤ gk ∧ Hid (Inv (n * 98) wr))
 case atStart => exact ⟨0, rfl, Nat.zero_le _, Nat.le_refl _, by rw [Nat.zero_mul]; exact H0.out⟩
 case round =>
  obtain ⟨n, rfl, hi, hg, HI⟩ := hrel
  by_cases hlt : n < 8
  ·have hltz : (n : Int) < 8 := by omega
   have hgr := HG.out _ _ HI.out
   have hld := hgr.load n hlt
   have c0 := hgr.cell n 0 hlt (by decide)
   generalize hrow : rowCells g n = row at hld
   have HROW := Lib.hid hrow
   clear hgr hrow
   go_wp2_with (refine wpList_loadAgg _ rfl 76 _ rfl 98 (by kernel_rfl) (by kernel_rfl) ⟨b, n * 98, none⟩ rfl row hld ?_)
   clear hld c0
   have hwr := HI.out
   clear HI
   go_loopg [15] 98 (fun gk s15 wr => ∃ (j : Nat), s15 = .int .i64 j ∧ j ≤ 98 ∧ 98 - j ≤ gk ∧ Hid (Inv (n * 98 + j) wr))
   case atStart => exact ⟨0, rfl, Nat.zero_le _, Nat.le_refl _, hwr⟩
   case round =>
    obtain ⟨j, rfl, hj, hgj, HI⟩ := hrel
    by_cases hjl : j < 98
    ·have hjz : (j : Int) < 98 := by omega
     have hix := run_index98 g n j hjl
     rw [HROW.out] at hix
     have e1 : (n * 98 + j) / 98 = n := by omega
     have e2 : (n * 98 + j) % 98 = j := by omega
     have hlt784 : n * 98 + j < 784 := by omega
     have hstep := HS.out (n * 98 + j) hlt784
     have hskip := HN.out (n * 98 + j) hlt784
     unfold gridAt at hstep hskip
     unfold dotAt at hstep
     simp only [e1, e2] at hstep hskip
     cases hgb : g n j with
     | true =>
      rw [hgb] at hix
      have HST := Lib.hid (hstep hgb wr HI.out)
      clear hstep hskip hwr HI e1 e2
      go_wp2_with fail
      refine HST.out.mono ?_
      rintro e w1 ⟨rfl, hI⟩
      have HI1 := Lib.hid hI
      clear hI HST hix
      go_wp2_with fail
      go_roundg (98 - (j + 1))
      case measure => omega
      case rel => exact ⟨j + 1, by go_num, by omega, Nat.le_refl _, HI1.out⟩
     | false =>
      rw [hgb] at hix
      have HI1 := Lib.hid (hskip hgb wr HI.out)
      clear hstep hskip hwr HI e1 e2
      go_wp2_with fail
      go_roundg (98 - (j + 1))
      case measure => omega
      case rel => exact ⟨j + 1, by go_num, by omega, Nat.le_refl _, HI1.out⟩
    ·have hjz : ¬ (j : Int) < 98 := by omega
     obtain rfl : j = 98 := by omega
     clear hwr
     go_wp2_with fail
     go_roundg (8 - (n + 1))
     case measure => omega
     case rel => exact ⟨n + 1, by go_num, by omega, Nat.le_refl _, by have := HI.out; rwa [show n * 98 + 98 = (n + 1) * 98 by omega] at this⟩
  ·have hltz : ¬ (n : Int) < 8 := by omega
   obtain rfl : n = 8 := by omega
   go_wp2_with fail
   go_end0
   exact ⟨rfl, HI.out⟩
end Go.Proofs.YtenkfnhcdfmkaaaGreat
