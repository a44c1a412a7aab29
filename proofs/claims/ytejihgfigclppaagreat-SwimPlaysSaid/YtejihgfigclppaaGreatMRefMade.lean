/-
  The reference's table and detector, made.
  The reference's detector not made.
-/
import Derived.Test.YtejihgfigclppaaGreatMRef20
import Derived.Test.YtejihgfigclppaaGreatMLaw20b
namespace Go.Proofs.YtejihgfigclppaaGreat
open Go.Shelf Go.RowKit Go.Lib Go.Sort
set_option linter.unusedVariables false
set_option linter.unusedSimpArgs false
set_option maxRecDepth 100000 in
set_option maxHeartbeats 16000000 in
theorem rnew18_good (self inc : Int) (w : World) (hm : Mb.may ⟨self, 1, inc⟩) :
  Calls Tryz.prog 60 #[.int .i64 self, .int .i64 inc] w fun e w' => ∃ g, e = .returned (.tuple #[.pointer (some ⟨g, 0, none⟩), .int .i64 0]) ∧ w.heap.size ≤ g ∧ RTab w' g self (updT (fun _ => none) self.toNat ⟨1, inc⟩) ∧ Below w.heap.size w w' := by
 have hp : Tryz.prog.follows .mixedOrders = true := by kernel_rfl
 obtain ⟨k, rfl⟩ : ∃ k : Nat, self = (k : Int) := ⟨self.toNat, by have := hm.1; dsimp only at this; omega⟩
 have hk8 : k < 8 := by have := hm.2.1; dsimp only at this; omega
 rw [Int.toNat_natCast]
 obtain ⟨w1, hw1⟩ : ∃ w1, w.alloc (.cells #[.int .i64 (k : Int), .int .i64 1, .int .i64 inc] 45) = w1 := ⟨_, rfl⟩
 have hb1 : Below w.heap.size w w1 := by rw [← hw1]; exact (Below.refl _ _).alloc (Nat.le_refl _) _
 have hr1 : w1.heap[w.heap.size]? = some (.cells #[.int .i64 (k : Int), .int .i64 1, .int .i64 inc] 45) := by rw [← hw1]; exact heap_alloc_new w _
 have hml : w.heap.size < w1.heap.size := (Array.getElem?_eq_some_iff.1 hr1).1
 have m0 : w1.cell? ⟨w.heap.size, 0, none⟩ = some (.int .i64 (k : Int)) := cell_of_row w1 _ 0 _ _ _ hr1
 have m1 : w1.cell? ⟨w.heap.size, 1, none⟩ = some (.int .i64 1) := cell_of_row w1 _ 1 _ _ _ hr1
 have m2 : w1.cell? ⟨w.heap.size, 2, none⟩ = some (.int .i64 inc) := cell_of_row w1 _ 2 _ _ _ hr1
 have hmy := may18_any (k : Int) 1 inc w1
 rw [decide_eq_true hm] at hmy
 have HMY := Lib.hid hmy
 have HB1 := Lib.hid hb1
 have HR1 := Lib.hid hr1
 have HW1 := Lib.hid hw1
 clear hmy hb1 hr1 hw1 hm
 go_enter Tryz.func60, Tryz.ntmps60
 go_wp2_with fail
 rw [HW1.out]
 refine HMY.out.mono ?_
 rintro e w2 ⟨rfl, hb2⟩
 obtain ⟨w3, hw3⟩ : ∃ w3, w2.alloc (.cells #[.int .i64 (k : Int), .int .i64 0, .int .i64 0, .int .i64 0, .int .i64 0, .int .i64 0, .int .i64 0, .int .i64 0, .int .i64 0, .int .i64 0, .int .i64 0, .int .i64 0, .int .i64 0, .int .i64 0, .int .i64 0, .int .i64 0, .int .i64 0, .int .i64 0, .int .i64 0, .int .i64 0, .int .i64 0, .int .i64 0, .int .i64 0, .int .i64 0, .int .i64 0] 122) = w3 := ⟨_, rfl⟩
 have hT3 : RTab w3 w2.heap.size (k : Int) (fun _ => none) := by rw [← hw3]; exact heap_alloc_new w2 _
 have hb3 : Below w2.heap.size w2 w3 := by rw [← hw3]; exact (Below.refl _ _).alloc (Nat.le_refl _) _
 have hB3 := (HB1.out.trans (hb2.mono HB1.out.size)).trans (hb3.mono (Nat.le_trans HB1.out.size hb2.size))
 have hr3 := (hb3.block _ (Nat.lt_of_lt_of_le hml hb2.size)).trans ((hb2.block _ hml).trans HR1.out)
 have m0 : w3.cell? ⟨w.heap.size, 0, none⟩ = some (.int .i64 (k : Int)) := cell_of_row w3 _ 0 _ _ _ hr3
 have m1 : w3.cell? ⟨w.heap.size, 1, none⟩ = some (.int .i64 1) := cell_of_row w3 _ 1 _ _ _ hr3
 have m2 : w3.cell? ⟨w.heap.size, 2, none⟩ = some (.int .i64 inc) := cell_of_row w3 _ 2 _ _ _ hr3
 have hlg : w.heap.size ≤ w2.heap.size := Nat.le_trans HB1.out.size hb2.size
 have zc := hT3.frozen
 have z0 := zc (1 + k * 3)
 have z1 := zc (1 + k * 3 + 1)
 have z2 := zc (1 + k * 3 + 2)
 have g0 := hT3.c0 hk8
 have g1 := hT3.c1 hk8
 have g2 := hT3.c2 hk8
 have hkz : (k : Int) < 8 := by omega
 have hkz0 : ¬ (k : Int) < 0 := by omega
 have hfin : ∀ W : World, W.heap = (((w3.setCell ⟨w2.heap.size, 1 + k * 3, none⟩ (.int .i64 (k : Int))).setCell ⟨w2.heap.size, 1 + k * 3 + 1, none⟩ (.int .i64 1)).setCell ⟨w2.heap.size, 1 + k * 3 + 2, none⟩ (.int .i64 inc)).heap → W.os = w3.os → W.tape = w3.tape → W.output = w3.output → RTab W w2.heap.size (k : Int) (updT (fun _ => none) k ⟨1, inc⟩) ∧ Below w.heap.size w W := fun W h1 h2 h3 h4 => by
  refine ⟨(hT3.set hk8 1 inc).keep (by rw [h1]), ?_⟩
  have hT := tset3 w2.heap.size w3 (1 + k * 3) (1 + k * 3 + 1) (1 + k * 3 + 2) (.int .i64 (k : Int)) (.int .i64 1) (.int .i64 inc)
  have hB := hB3.trans (hT.below (B := w.heap.size) hB3.size fun q hq => by rw [hq]; exact hlg)
  exact ⟨h2.trans hB3.os, h3.trans hB3.tape, h4.trans hB3.output, by rw [h1]; exact hB.size, fun j hj => by rw [h1]; exact hB.block j hj⟩
 have HFIN := Lib.hid hfin
 have HW3 := Lib.hid hw3
 clear hfin hw3 hT3 hb3 hB3 hr3 zc hb2 HMY HB1 HR1 HW1
 go_wp2_with fail
 rw [HW3.out]
 go_region_law (fail)
 all_goals
  go_wp2_with fail
  go_ret2
  exact ⟨_, rfl, hlg, HFIN.out _ rfl rfl rfl rfl⟩
set_option maxHeartbeats 4000000 in
theorem rnew18_bad (self inc : Int) (w : World) (hm : ¬ Mb.may ⟨self, 1, inc⟩) :
  Calls Tryz.prog 60 #[.int .i64 self, .int .i64 inc] w fun e w' => e = .returned (.tuple #[.pointer none, .int .i64 2]) ∧ Below w.heap.size w w' := by
 obtain ⟨w1, hw1⟩ : ∃ w1, w.alloc (.cells #[.int .i64 self, .int .i64 1, .int .i64 inc] 45) = w1 := ⟨_, rfl⟩
 have hb1 : Below w.heap.size w w1 := by rw [← hw1]; exact (Below.refl _ _).alloc (Nat.le_refl _) _
 have hr1 : w1.heap[w.heap.size]? = some (.cells #[.int .i64 self, .int .i64 1, .int .i64 inc] 45) := by rw [← hw1]; exact heap_alloc_new w _
 have m0 : w1.cell? ⟨w.heap.size, 0, none⟩ = some (.int .i64 self) := cell_of_row w1 _ 0 _ _ _ hr1
 have m1 : w1.cell? ⟨w.heap.size, 1, none⟩ = some (.int .i64 1) := cell_of_row w1 _ 1 _ _ _ hr1
 have m2 : w1.cell? ⟨w.heap.size, 2, none⟩ = some (.int .i64 inc) := cell_of_row w1 _ 2 _ _ _ hr1
 have hmy := may18_any self 1 inc w1
 rw [decide_eq_false hm] at hmy
 have HMY := Lib.hid hmy
 have HB1 := Lib.hid hb1
 have HW1 := Lib.hid hw1
 clear hmy hb1 hr1 hw1 hm
 go_enter Tryz.func60, Tryz.ntmps60
 go_wp2_with fail
 rw [HW1.out]
 refine HMY.out.mono ?_
 rintro e w2 ⟨rfl, hb2⟩
 have HB2 := Lib.hid (HB1.out.trans (hb2.mono HB1.out.size))
 clear hb2 HMY HB1
 go_wp2_with fail
 go_ret2
 exact ⟨rfl, HB2.out⟩
set_option maxRecDepth 100000 in
set_option maxHeartbeats 16000000 in
theorem rnew20_good (self inc : Int) (c : DConf) (seed : Int) (w : World) (hm : Mb.may ⟨self, 1, inc⟩) (hc : c.right) :
  Calls Tryz.prog 25 #[.int .i64 self, .int .i64 inc, .agg #[.int .i64 c.tout, .int .i64 c.ind, .int .i64 c.gr], .int .u64 seed] w fun e w' => ∃ R, e = .returned (.tuple #[.pointer (some ⟨R.g, 0, none⟩), .int .i64 0]) ∧ RAt w' R (Det.new self inc c seed) ∧ (∀ k ∈ R.own, w.heap.size ≤ k) ∧ Below w.heap.size w w' := by
 obtain ⟨w1, hw1⟩ : ∃ w1, w.alloc (.cells #[.int .i64 c.tout, .int .i64 c.ind, .int .i64 c.gr] 23) = w1 := ⟨_, rfl⟩
 have hb1 : Below w.heap.size w w1 := by rw [← hw1]; exact (Below.refl _ _).alloc (Nat.le_refl _) _
 have hr1 : w1.heap[w.heap.size]? = some (.cells #[.int .i64 c.tout, .int .i64 c.ind, .int .i64 c.gr] 23) := by rw [← hw1]; exact heap_alloc_new w _
 have hml : w.heap.size < w1.heap.size := (Array.getElem?_eq_some_iff.1 hr1).1
 have hrr := fun W => refRight20_any c W
 rw [decide_eq_true hc] at hrr
 have HRR := Lib.hid hrr
 have HNW := Lib.hid (rnew18_good self inc w1 hm)
 have HB1 := Lib.hid hb1
 have HR1 := Lib.hid hr1
 have HW1 := Lib.hid hw1
 clear hrr hb1 hr1 hw1 hm hc
 go_enter Tryz.func25, Tryz.ntmps25
 go_wp2_with fail
 rw [HW1.out]
 refine HNW.out.mono ?_
 rintro e w2 ⟨gt, rfl, hg, hT2, hb2⟩
 have hr2 := (hb2.block _ hml).trans HR1.out
 have c0 : w2.cell? ⟨w.heap.size, 0, none⟩ = some (.int .i64 c.tout) := cell_of_row w2 _ 0 _ _ _ hr2
 have c1 : w2.cell? ⟨w.heap.size, 1, none⟩ = some (.int .i64 c.ind) := cell_of_row w2 _ 1 _ _ _ hr2
 have c2 : w2.cell? ⟨w.heap.size, 2, none⟩ = some (.int .i64 c.gr) := cell_of_row w2 _ 2 _ _ _ hr2
 have hml2 : w.heap.size < w2.heap.size := Nat.lt_of_lt_of_le hml hb2.size
 have HT2 := Lib.hid hT2
 have HB2 := Lib.hid (HB1.out.trans (hb2.mono HB1.out.size))
 have hgw : w.heap.size < gt := by omega
 have HR2 := Lib.hid hr2
 clear hr2 hb2 hT2 HNW HB1 HR1 HW1
 go_wp2_with fail
 refine (HRR.out _).mono ?_
 rintro e w3 ⟨rfl, hb3⟩
 have hr3 := (hb3.block _ hml2).trans HR2.out
 have c0 : w3.cell? ⟨w.heap.size, 0, none⟩ = some (.int .i64 c.tout) := cell_of_row w3 _ 0 _ _ _ hr3
 have c1 : w3.cell? ⟨w.heap.size, 1, none⟩ = some (.int .i64 c.ind) := cell_of_row w3 _ 1 _ _ _ hr3
 have c2 : w3.cell? ⟨w.heap.size, 2, none⟩ = some (.int .i64 c.gr) := cell_of_row w3 _ 2 _ _ _ hr3
 have hT3 := HT2.out.keep (hb3.block _ HT2.out.lt)
 have hgl := hT3.lt
 have hB3 := HB2.out.trans (hb3.mono HB2.out.size)
 obtain ⟨h0, h1, hb, hs⟩ := alloc2 w3 (.cells #[.int .u64 seed, .slice none 0 0] 117) (.cells #[.int .i64 c.tout, .int .i64 c.ind, .int .i64 c.gr, .pointer (some ⟨gt, 0, none⟩), .pointer (some ⟨w3.heap.size, 0, none⟩), .int .i64 0, .int .i64 0, .bool false, .int .i64 0, .int .i64 0, .int .i64 0, .int .i64 inc, .int .i64 0, .int .i64 0, .int .i64 0, .int .i64 0, .int .i64 0, .int .i64 0, .int .i64 0, .int .i64 0, .slice none 0 0, .bool false] 83)
 have hres : ∀ W : World, W.heap = ((w3.alloc (.cells #[.int .u64 seed, .slice none 0 0] 117)).alloc (.cells #[.int .i64 c.tout, .int .i64 c.ind, .int .i64 c.gr, .pointer (some ⟨gt, 0, none⟩), .pointer (some ⟨w3.heap.size, 0, none⟩), .int .i64 0, .int .i64 0, .bool false, .int .i64 0, .int .i64 0, .int .i64 0, .int .i64 inc, .int .i64 0, .int .i64 0, .int .i64 0, .int .i64 0, .int .i64 0, .int .i64 0, .int .i64 0, .int .i64 0, .slice none 0 0, .bool false] 83)).heap → W.os = w3.os → W.tape = w3.tape → W.output = w3.output →
   ∃ R : RM, R.g = w3.heap.size + 1 ∧ RAt W R (Det.new self inc c seed) ∧ (∀ k ∈ R.own, w.heap.size ≤ k) ∧ Below w.heap.size w W := fun W e1 e2 e3 e4 => by
  refine ⟨⟨w3.heap.size + 1, gt, w3.heap.size, .slice none 0 0, none, 0, 0, 0, fun _ => 0⟩, rfl, ⟨?_, ?_, ?_, Owns.nil _ _ _ _ _, ?_, ⟨fun p hp => (nomatch hp), fun n v _ hv => (nomatch hv)⟩⟩, ?_, ?_⟩
  ·show W.heap[w3.heap.size + 1]? = _
   rw [e1]; exact h1
  ·exact hT3.keep (by rw [e1]; exact hb.block _ hgl)
  ·exact ⟨.slice none 0 0, ⟨by rw [e1]; exact h0⟩, SlAt.nil _ _, fun h => absurd rfl h, (fun b h => nomatch h), fun b h => nomatch h⟩
  ·show [w3.heap.size + 1, gt, w3.heap.size].Nodup
   simp only [List.nodup_cons, List.mem_cons, List.not_mem_nil, or_false, not_or, not_false_eq_true, List.nodup_nil, and_true]
   omega
  ·intro k hk
   replace hk : k ∈ [w3.heap.size + 1, gt, w3.heap.size] := hk
   simp only [List.mem_cons, List.not_mem_nil, or_false] at hk
   have := hB3.size
   omega
  ·have h5 := hB3.trans (hb.mono hB3.size)
   exact ⟨e2.trans hB3.os, e3.trans hB3.tape, e4.trans hB3.output, by rw [e1]; exact h5.size, fun j hj => by rw [e1]; exact h5.block j hj⟩
 have HRES := Lib.hid hres
 clear hres hr3 hb3 hT3 hB3 h0 h1 hb hs HRR HT2 HB2 HR2
 go_wp2_with fail
 go_ret2
 obtain ⟨R, hR, h⟩ := HRES.out _ rfl rfl rfl rfl
 exact ⟨R, by rw [hR]; rfl, h⟩
end Go.Proofs.YtejihgfigclppaaGreat
namespace Go.Proofs.YtejihgfigclppaaGreat
open Go.Shelf Go.RowKit Go.Lib Go.Sort
set_option linter.unusedVariables false
set_option linter.unusedSimpArgs false
set_option maxHeartbeats 8000000 in
theorem rnew20_bad (self inc : Int) (c : DConf) (seed : Int) (w : World) (h : ¬ (Mb.may ⟨self, 1, inc⟩ ∧ c.right)) :
  Calls Tryz.prog 25 #[.int .i64 self, .int .i64 inc, .agg #[.int .i64 c.tout, .int .i64 c.ind, .int .i64 c.gr], .int .u64 seed] w fun e w' => e = .returned (.tuple #[.pointer none, .int .i64 2]) ∧ Below w.heap.size w w' := by
 obtain ⟨w1, hw1⟩ : ∃ w1, w.alloc (.cells #[.int .i64 c.tout, .int .i64 c.ind, .int .i64 c.gr] 23) = w1 := ⟨_, rfl⟩
 have hb1 : Below w.heap.size w w1 := by rw [← hw1]; exact (Below.refl _ _).alloc (Nat.le_refl _) _
 have hr1 : w1.heap[w.heap.size]? = some (.cells #[.int .i64 c.tout, .int .i64 c.ind, .int .i64 c.gr] 23) := by rw [← hw1]; exact heap_alloc_new w _
 have hml : w.heap.size < w1.heap.size := (Array.getElem?_eq_some_iff.1 hr1).1
 have HB1 := Lib.hid hb1
 have HR1 := Lib.hid hr1
 have HW1 := Lib.hid hw1
 clear hb1 hr1 hw1
 by_cases hm : Mb.may ⟨self, 1, inc⟩
 ·have hrr := fun W => refRight20_any c W
  rw [decide_eq_false fun hc => h ⟨hm, hc⟩] at hrr
  have HRR := Lib.hid hrr
  have HNW := Lib.hid (rnew18_good self inc w1 hm)
  clear hrr hm h
  go_enter Tryz.func25, Tryz.ntmps25
  go_wp2_with fail
  rw [HW1.out]
  refine HNW.out.mono ?_
  rintro e w2 ⟨gt, rfl, hg, hT2, hb2⟩
  have hr2 := (hb2.block _ hml).trans HR1.out
  have c0 : w2.cell? ⟨w.heap.size, 0, none⟩ = some (.int .i64 c.tout) := cell_of_row w2 _ 0 _ _ _ hr2
  have c1 : w2.cell? ⟨w.heap.size, 1, none⟩ = some (.int .i64 c.ind) := cell_of_row w2 _ 1 _ _ _ hr2
  have c2 : w2.cell? ⟨w.heap.size, 2, none⟩ = some (.int .i64 c.gr) := cell_of_row w2 _ 2 _ _ _ hr2
  have HB2 := Lib.hid (HB1.out.trans (hb2.mono HB1.out.size))
  clear hr2 hb2 hT2 HNW HB1 HR1 HW1
  go_wp2_with fail
  refine (HRR.out _).mono ?_
  rintro e w3 ⟨rfl, hb3⟩
  have HB3 := Lib.hid (HB2.out.trans (hb3.mono HB2.out.size))
  clear hb3 HRR HB2
  go_wp2_with fail
  go_ret2
  exact ⟨rfl, HB3.out⟩
 ·have HNW := Lib.hid (rnew18_bad self inc w1 hm)
  clear hm h
  go_enter Tryz.func25, Tryz.ntmps25
  go_wp2_with fail
  rw [HW1.out]
  refine HNW.out.mono ?_
  rintro e w2 ⟨rfl, hb2⟩
  have HB2 := Lib.hid (HB1.out.trans (hb2.mono HB1.out.size))
  clear hb2 HNW HB1 HR1 HW1
  go_wp2_with fail
  go_ret2
  exact ⟨rfl, HB2.out⟩
end Go.Proofs.YtejihgfigclppaaGreat
