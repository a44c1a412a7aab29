/-
  The reference's table of words: May, Stronger, New, Hear.
  The reference's table takes a word in; is made.
  What the reference's table tells: all words, who is there, the others; it is made.
  The reference's others.
-/
import Derived.Test.YtejihgfigclppaaGreatMMembA
import Derived.Test.YtejihgfigclppaaGreatMBookP
import Derived.Test.YtejihgfigclppaaGreatMSwimP
import Derived.Test.YtejihgfigclppaaGreatMSwimQ
import Derived.Test.YtejihgfigclppaaGreatMDotP
namespace Go.Proofs.YtejihgfigclppaaGreat
open Go.Shelf Go.RowKit Go.Lib Go.Sort
set_option linter.unusedVariables false
set_option linter.unusedSimpArgs false
def rWd (t : Tab) (k : Nat) : Mb := match t k with | none => ⟨0, 0, 0⟩ | some w => ⟨(k : Int), w.st, w.inc⟩
def rtL (t : Tab) : Array Value := #[.int .i64 (rWd t 0).node, .int .i64 (rWd t 0).st, .int .i64 (rWd t 0).inc, .int .i64 (rWd t 1).node, .int .i64 (rWd t 1).st, .int .i64 (rWd t 1).inc, .int .i64 (rWd t 2).node, .int .i64 (rWd t 2).st, .int .i64 (rWd t 2).inc, .int .i64 (rWd t 3).node, .int .i64 (rWd t 3).st, .int .i64 (rWd t 3).inc, .int .i64 (rWd t 4).node, .int .i64 (rWd t 4).st, .int .i64 (rWd t 4).inc, .int .i64 (rWd t 5).node, .int .i64 (rWd t 5).st, .int .i64 (rWd t 5).inc, .int .i64 (rWd t 6).node, .int .i64 (rWd t 6).st, .int .i64 (rWd t 6).inc, .int .i64 (rWd t 7).node, .int .i64 (rWd t 7).st, .int .i64 (rWd t 7).inc]
def rtArr (self : Int) (t : Tab) : Array Value := #[.int .i64 self, .int .i64 (rWd t 0).node, .int .i64 (rWd t 0).st, .int .i64 (rWd t 0).inc, .int .i64 (rWd t 1).node, .int .i64 (rWd t 1).st, .int .i64 (rWd t 1).inc, .int .i64 (rWd t 2).node, .int .i64 (rWd t 2).st, .int .i64 (rWd t 2).inc, .int .i64 (rWd t 3).node, .int .i64 (rWd t 3).st, .int .i64 (rWd t 3).inc, .int .i64 (rWd t 4).node, .int .i64 (rWd t 4).st, .int .i64 (rWd t 4).inc, .int .i64 (rWd t 5).node, .int .i64 (rWd t 5).st, .int .i64 (rWd t 5).inc, .int .i64 (rWd t 6).node, .int .i64 (rWd t 6).st, .int .i64 (rWd t 6).inc, .int .i64 (rWd t 7).node, .int .i64 (rWd t 7).st, .int .i64 (rWd t 7).inc]
def RTab (W : World) (gt : Nat) (self : Int) (t : Tab) : Prop := W.heap[gt]? = some (.cells (rtArr self t) 122)
theorem RTab.lt {W : World} {gt : Nat} {self : Int} {t : Tab} (h : RTab W gt self t) : gt < W.heap.size := (Array.getElem?_eq_some_iff.1 h).1
theorem RTab.keep {W W' : World} {gt : Nat} {self : Int} {t : Tab} (h : RTab W gt self t) (hb : W'.heap[gt]? = W.heap[gt]?) : RTab W' gt self t := hb.trans h
theorem RTab.self {W : World} {gt : Nat} {self : Int} {t : Tab} (h : RTab W gt self t) : W.cell? ⟨gt, 0, none⟩ = some (.int .i64 self) := cell_of_row W gt 0 _ _ _ h
theorem RTab.c0 {W : World} {gt : Nat} {self : Int} {t : Tab} (h : RTab W gt self t) {k : Nat} (hk : k < 8) : W.cell? ⟨gt, 1 + k * 3, none⟩ = some (.int .i64 (rWd t k).node) := by
 refine (cell_of_row W gt _ _ _ _ h).trans ?_
 rcases (show k = 0 ∨ k = 1 ∨ k = 2 ∨ k = 3 ∨ k = 4 ∨ k = 5 ∨ k = 6 ∨ k = 7 by omega) with rfl | rfl | rfl | rfl | rfl | rfl | rfl | rfl <;> rfl
theorem RTab.c1 {W : World} {gt : Nat} {self : Int} {t : Tab} (h : RTab W gt self t) {k : Nat} (hk : k < 8) : W.cell? ⟨gt, 1 + k * 3 + 1, none⟩ = some (.int .i64 (rWd t k).st) := by
 refine (cell_of_row W gt _ _ _ _ h).trans ?_
 rcases (show k = 0 ∨ k = 1 ∨ k = 2 ∨ k = 3 ∨ k = 4 ∨ k = 5 ∨ k = 6 ∨ k = 7 by omega) with rfl | rfl | rfl | rfl | rfl | rfl | rfl | rfl <;> rfl
theorem RTab.c2 {W : World} {gt : Nat} {self : Int} {t : Tab} (h : RTab W gt self t) {k : Nat} (hk : k < 8) : W.cell? ⟨gt, 1 + k * 3 + 2, none⟩ = some (.int .i64 (rWd t k).inc) := by
 refine (cell_of_row W gt _ _ _ _ h).trans ?_
 rcases (show k = 0 ∨ k = 1 ∨ k = 2 ∨ k = 3 ∨ k = 4 ∨ k = 5 ∨ k = 6 ∨ k = 7 by omega) with rfl | rfl | rfl | rfl | rfl | rfl | rfl | rfl <;> rfl
theorem RTab.frozen {W : World} {gt : Nat} {self : Int} {t : Tab} (h : RTab W gt self t) (k : Nat) : W.frozen? ⟨gt, k, none⟩ = false := by unfold RTab at h; simp [World.frozen?, h]
theorem RTab.set {W : World} {gt : Nat} {self : Int} {t : Tab} (h : RTab W gt self t) {k : Nat} (hk : k < 8) (s i : Int) : RTab (((W.setCell ⟨gt, 1 + k * 3, none⟩ (.int .i64 (k : Int))).setCell ⟨gt, 1 + k * 3 + 1, none⟩ (.int .i64 s)).setCell ⟨gt, 1 + k * 3 + 2, none⟩ (.int .i64 i)) gt self (updT t k ⟨s, i⟩) := by
 refine (heap_cellSame _ _ _ _ _ _ (heap_cellSame _ _ _ _ _ _ (heap_cellSame _ _ _ _ _ _ h))).trans ?_
 rcases (show k = 0 ∨ k = 1 ∨ k = 2 ∨ k = 3 ∨ k = 4 ∨ k = 5 ∨ k = 6 ∨ k = 7 by omega) with rfl | rfl | rfl | rfl | rfl | rfl | rfl | rfl <;> rfl
theorem rWd_none {t : Tab} {k : Nat} (h : t k = none) : rWd t k = ⟨0, 0, 0⟩ := by unfold rWd; rw [h]
theorem rWd_some {t : Tab} {k : Nat} {w : Wd} (h : t k = some w) : rWd t k = ⟨(k : Int), w.st, w.inc⟩ := by unfold rWd; rw [h]
set_option maxHeartbeats 8000000 in
theorem may18_any (n s i : Int) (w : World) : Calls Tryz.prog 96 #[.agg #[.int .i64 n, .int .i64 s, .int .i64 i]] w fun e w' => e = .returned (.bool (decide (Mb.may ⟨n, s, i⟩))) ∧ Below w.heap.size w w' := by
 have HB := Lib.hid ((Below.refl w.heap.size w).alloc (Nat.le_refl _) (.cells #[.int .i64 n, .int .i64 s, .int .i64 i] 45))
 by_cases k1 : 0 ≤ n
 ·by_cases k2 : n < 8
  ·by_cases k3 : 1 ≤ s
   ·by_cases k4 : s ≤ 4
    ·by_cases k5 : 0 ≤ i
     ·by_cases k6 : i ≤ 1099511627776
      ·rw [show decide (Mb.may ⟨n, s, i⟩) = true from decide_eq_true ⟨k1, by show n ≤ 7; omega, k3, k4, k5, k6⟩]
       go_enter Tryz.func96, Tryz.ntmps96
       go_wp2_with fail
       go_ret
       exact ⟨rfl, HB.out⟩
      ·rw [show decide (Mb.may ⟨n, s, i⟩) = false from decide_eq_false fun hm => by obtain ⟨q1, q2, q3, q4, q5, q6⟩ := hm; dsimp only at q1 q2 q3 q4 q5 q6; omega]
       go_enter Tryz.func96, Tryz.ntmps96
       go_wp2_with fail
       go_ret
       exact ⟨rfl, HB.out⟩
     ·rw [show decide (Mb.may ⟨n, s, i⟩) = false from decide_eq_false fun hm => by obtain ⟨q1, q2, q3, q4, q5, q6⟩ := hm; dsimp only at q1 q2 q3 q4 q5 q6; omega]
      go_enter Tryz.func96, Tryz.ntmps96
      go_wp2_with fail
      go_ret
      exact ⟨rfl, HB.out⟩
    ·rw [show decide (Mb.may ⟨n, s, i⟩) = false from decide_eq_false fun hm => by obtain ⟨q1, q2, q3, q4, q5, q6⟩ := hm; dsimp only at q1 q2 q3 q4 q5 q6; omega]
     go_enter Tryz.func96, Tryz.ntmps96
     go_wp2_with fail
     go_ret
     exact ⟨rfl, HB.out⟩
   ·rw [show decide (Mb.may ⟨n, s, i⟩) = false from decide_eq_false fun hm => by obtain ⟨q1, q2, q3, q4, q5, q6⟩ := hm; dsimp only at q1 q2 q3 q4 q5 q6; omega]
    go_enter Tryz.func96, Tryz.ntmps96
    go_wp2_with fail
    go_ret
    exact ⟨rfl, HB.out⟩
  ·rw [show decide (Mb.may ⟨n, s, i⟩) = false from decide_eq_false fun hm => by obtain ⟨q1, q2, q3, q4, q5, q6⟩ := hm; dsimp only at q1 q2 q3 q4 q5 q6; omega]
   go_enter Tryz.func96, Tryz.ntmps96
   go_wp2_with fail
   go_ret
   exact ⟨rfl, HB.out⟩
 ·rw [show decide (Mb.may ⟨n, s, i⟩) = false from decide_eq_false fun hm => by obtain ⟨q1, q2, q3, q4, q5, q6⟩ := hm; dsimp only at q1 q2 q3 q4 q5 q6; omega]
  go_enter Tryz.func96, Tryz.ntmps96
  go_wp2_with fail
  go_ret
  exact ⟨rfl, HB.out⟩
set_option maxHeartbeats 8000000 in
theorem stronger18_any (n s i n' s' i' : Int) (w : World) : Calls Tryz.prog 114 #[.agg #[.int .i64 n, .int .i64 s, .int .i64 i], .agg #[.int .i64 n', .int .i64 s', .int .i64 i']] w fun e w' => e = .returned (.bool (decide (Wd.beats ⟨s, i⟩ ⟨s', i'⟩))) ∧ Below w.heap.size w w' := by
 have HB := Lib.hid (((Below.refl w.heap.size w).alloc (Nat.le_refl _) (.cells #[.int .i64 n, .int .i64 s, .int .i64 i] 45)).alloc (by simp) (.cells #[.int .i64 n', .int .i64 s', .int .i64 i'] 45))
 by_cases k1 : i' < i
 ·rw [show decide (Wd.beats ⟨s, i⟩ ⟨s', i'⟩) = true from decide_eq_true (.inl k1)]
  go_enter Tryz.func114, Tryz.ntmps114
  go_wp2_with fail
  go_ret
  exact ⟨rfl, HB.out⟩
 ·by_cases k2 : i = i'
  ·have e2 : (i == i') = true := by simpa using k2
   by_cases k3 : s' < s
   ·rw [show decide (Wd.beats ⟨s, i⟩ ⟨s', i'⟩) = true from decide_eq_true (.inr ⟨k2, k3⟩)]
    clear k2
    go_enter Tryz.func114, Tryz.ntmps114
    go_wp2_with fail
    go_ret
    exact ⟨rfl, HB.out⟩
   ·rw [show decide (Wd.beats ⟨s, i⟩ ⟨s', i'⟩) = false from decide_eq_false fun h => h.elim k1 fun h => k3 h.2]
    clear k2
    go_enter Tryz.func114, Tryz.ntmps114
    go_wp2_with fail
    go_ret
    exact ⟨rfl, HB.out⟩
  ·have e2 : (i == i') = false := by simpa using k2
   rw [show decide (Wd.beats ⟨s, i⟩ ⟨s', i'⟩) = false from decide_eq_false fun h => h.elim k1 fun h => k2 h.1]
   clear k2
   go_enter Tryz.func114, Tryz.ntmps114
   go_wp2_with fail
   go_ret
   exact ⟨rfl, HB.out⟩
end Go.Proofs.YtejihgfigclppaaGreat
namespace Go.Proofs.YtejihgfigclppaaGreat
open Go.Shelf Go.RowKit Go.Lib Go.Sort
set_option linter.unusedVariables false
set_option linter.unusedSimpArgs false
theorem news_none {t : Tab} {k : Nat} {s i : Int} (h : t k = none) : newsT t ⟨(k : Int), s, i⟩ = true := by unfold newsT; rw [show (Mb.node ⟨(k : Int), s, i⟩).toNat = k from Int.toNat_natCast k, h]
theorem news_some {t : Tab} {k : Nat} {s i : Int} {wd : Wd} (h : t k = some wd) : newsT t ⟨(k : Int), s, i⟩ = decide (Wd.beats ⟨s, i⟩ ⟨wd.st, wd.inc⟩) := by unfold newsT; rw [show (Mb.node ⟨(k : Int), s, i⟩).toNat = k from Int.toNat_natCast k, h]
theorem hearT_news {t : Tab} {k : Nat} {s i : Int} (hm : Mb.may ⟨(k : Int), s, i⟩) (hn : newsT t ⟨(k : Int), s, i⟩ = true) : hearT t ⟨(k : Int), s, i⟩ = updT t k ⟨s, i⟩ := by
 unfold hearT
 rw [if_pos ⟨hm, hn⟩]
 show updT t (Int.toNat (k : Int)) ⟨s, i⟩ = _
 rw [Int.toNat_natCast]
theorem hearT_old {t : Tab} {m : Mb} (hn : newsT t m = false) : hearT t m = t := by
 unfold hearT
 rw [if_neg fun h => by rw [hn] at h; exact absurd h.2 (by decide)]
theorem hearT_bad {t : Tab} {m : Mb} (hm : ¬ m.may) : hearT t m = t := by
 unfold hearT
 rw [if_neg fun h => hm h.1]
theorem tset3 (gt : Nat) (w : World) (o1 o2 o3 : Nat) (a b c : Value) : Touch (fun k => k = gt) w (((w.setCell ⟨gt, o1, none⟩ a).setCell ⟨gt, o2, none⟩ b).setCell ⟨gt, o3, none⟩ c) :=
 ((touch_set (fun k => k = gt) w ⟨gt, o1, none⟩ a rfl).trans (touch_set (fun k => k = gt) _ ⟨gt, o2, none⟩ b rfl) fun _ _ h => h).trans (touch_set (fun k => k = gt) _ ⟨gt, o3, none⟩ c rfl) fun _ _ h => h
set_option maxRecDepth 100000 in
set_option maxHeartbeats 16000000 in
theorem rhear_any (gt : Nat) (self : Int) (t : Tab) (ht : TabOk t) (m : Mb) (w : World) (h : RTab w gt self t) :
  Calls Tryz.prog 97 #[.pointer (some ⟨gt, 0, none⟩), .agg #[.int .i64 m.node, .int .i64 m.st, .int .i64 m.inc]] w fun e w' => (∃ er, e = .returned (.tuple #[.bool (decide m.may && newsT t m), .int .i64 er])) ∧ RTab w' gt self (hearT t m) ∧ Touch (fun k => k = gt) w w' := by
 have hp : Tryz.prog.follows .mixedOrders = true := by kernel_rfl
 obtain ⟨n, s, i⟩ := m
 obtain ⟨w1, hw1⟩ : ∃ w1, w.alloc (.cells #[.int .i64 n, .int .i64 s, .int .i64 i] 45) = w1 := ⟨_, rfl⟩
 have hb1 : Below w.heap.size w w1 := by rw [← hw1]; exact (Below.refl _ _).alloc (Nat.le_refl _) _
 have hr1 : w1.heap[w.heap.size]? = some (.cells #[.int .i64 n, .int .i64 s, .int .i64 i] 45) := by rw [← hw1]; exact heap_alloc_new w _
 have hml : w.heap.size < w1.heap.size := (Array.getElem?_eq_some_iff.1 hr1).1
 have m0 : w1.cell? ⟨w.heap.size, 0, none⟩ = some (.int .i64 n) := cell_of_row w1 _ 0 _ _ _ hr1
 have m1 : w1.cell? ⟨w.heap.size, 1, none⟩ = some (.int .i64 s) := cell_of_row w1 _ 1 _ _ _ hr1
 have m2 : w1.cell? ⟨w.heap.size, 2, none⟩ = some (.int .i64 i) := cell_of_row w1 _ 2 _ _ _ hr1
 have HH := Lib.hid h
 have HB1 := Lib.hid hb1
 have HR1 := Lib.hid hr1
 have HW1 := Lib.hid hw1
 have HMY := Lib.hid (may18_any n s i w1)
 have HOK := Lib.hid ht
 clear h hb1 hr1 hw1 ht
 dsimp only
 by_cases hm : Mb.may ⟨n, s, i⟩
 ·have hmy := HMY.out
  rw [decide_eq_true hm] at hmy
  have HMY := Lib.hid hmy
  clear hmy
  obtain ⟨k, hk⟩ : ∃ k : Nat, n = (k : Int) := ⟨n.toNat, by have := hm.1; dsimp only at this; omega⟩
  subst hk
  have hk8 : k < 8 := by have := hm.2.1; dsimp only at this; omega
  rw [decide_eq_true hm, Bool.true_and]
  obtain ⟨nb, hnb⟩ : ∃ nb, newsT t ⟨(k : Int), s, i⟩ = nb := ⟨_, rfl⟩
  rw [hnb]
  have HM := Lib.hid hm
  have HNB := Lib.hid hnb
  clear hm hnb
  go_enter Tryz.func97, Tryz.ntmps97
  go_wp2_with fail
  rw [HW1.out]
  refine HMY.out.mono ?_
  rintro e w2 ⟨rfl, hb2⟩
  have hb02 := HB1.out.trans (hb2.mono HB1.out.size)
  have hr2 := (hb2.block _ hml).trans HR1.out
  have hT2 := HH.out.keep (hb02.block gt HH.out.lt)
  have m0 : w2.cell? ⟨w.heap.size, 0, none⟩ = some (.int .i64 (k : Int)) := cell_of_row w2 _ 0 _ _ _ hr2
  have m1 : w2.cell? ⟨w.heap.size, 1, none⟩ = some (.int .i64 s) := cell_of_row w2 _ 1 _ _ _ hr2
  have m2 : w2.cell? ⟨w.heap.size, 2, none⟩ = some (.int .i64 i) := cell_of_row w2 _ 2 _ _ _ hr2
  have t0 := hT2.c0 hk8
  have t1 := hT2.c1 hk8
  have t2 := hT2.c2 hk8
  have hml2 : w.heap.size < w2.heap.size := Nat.lt_of_lt_of_le hml hb2.size
  have hgl2 : gt < w2.heap.size := hT2.lt
  have hgw : gt < w.heap.size := HH.out.lt
  have hkz : (k : Int) < 8 := by omega
  have hkz0 : ¬ (k : Int) < 0 := by omega
  have HT2 := Lib.hid hT2
  have HB02 := Lib.hid hb02
  have HR2 := Lib.hid hr2
  clear hb2 hb02 hr2 hT2 HMY HB1 HR1 HW1
  go_wp2_with fail
  go_cut [6] (fun s6 wx => ∃ b, s6 = .pointer (some ⟨b, 0, none⟩) ∧ w2.heap.size ≤ b ∧ b < wx.heap.size ∧ Hid (wx.heap[b]? = some (.cells #[.int .i64 (rWd t k).node, .int .i64 (rWd t k).st, .int .i64 (rWd t k).inc] 45)) ∧ Hid (Below w2.heap.size w2 wx))
  case first =>
   go_region_law (fail)
   all_goals
    go_wp2_with fail
    go_meet
    exact ⟨w2.heap.size, rfl, Nat.le_refl _, by simp [World.drew], heap_alloc_new w2 _, below_drew ((Below.refl _ _).alloc (Nat.le_refl _) _)⟩
  case rest =>
   obtain ⟨b, rfl, hb0, hbl, HRB, HBX⟩ := hcut
   have hBC := HB02.out.trans (HBX.out.mono HB02.out.size)
   have hTC := HT2.out.keep (HBX.out.block gt hgl2)
   have hrc := (HBX.out.block _ hml2).trans HR2.out
   have m0 : wc.cell? ⟨w.heap.size, 0, none⟩ = some (.int .i64 (k : Int)) := cell_of_row wc _ 0 _ _ _ hrc
   have m1 : wc.cell? ⟨w.heap.size, 1, none⟩ = some (.int .i64 s) := cell_of_row wc _ 1 _ _ _ hrc
   have m2 : wc.cell? ⟨w.heap.size, 2, none⟩ = some (.int .i64 i) := cell_of_row wc _ 2 _ _ _ hrc
   have HTC := Lib.hid hTC
   have HBC := Lib.hid hBC
   have HRC := Lib.hid hrc
   have hmlc : w.heap.size < wc.heap.size := Nat.lt_of_lt_of_le hml2 HBX.out.size
   clear hBC hTC hrc t0 t1 t2 HBX HT2 HB02 HR2
   have hfin : ∀ W : World, W.heap = (((wc.setCell ⟨gt, 1 + k * 3, none⟩ (.int .i64 (k : Int))).setCell ⟨gt, 1 + k * 3 + 1, none⟩ (.int .i64 s)).setCell ⟨gt, 1 + k * 3 + 2, none⟩ (.int .i64 i)).heap → W.os = wc.os → W.tape = wc.tape → W.output = wc.output → newsT t ⟨(k : Int), s, i⟩ = true → RTab W gt self (hearT t ⟨(k : Int), s, i⟩) ∧ Touch (fun k => k = gt) w W := fun W h1 h2 h3 h4 h5 => by
    rw [hearT_news HM.out h5]
    refine ⟨(HTC.out.set hk8 s i).keep (by rw [h1]), ?_⟩
    have hT := (Touch.of_below (L := fun k => k = gt) HBC.out (Nat.le_refl _)).trans (tset3 gt wc (1 + k * 3) (1 + k * 3 + 1) (1 + k * 3 + 2) (.int .i64 (k : Int)) (.int .i64 s) (.int .i64 i)) fun _ _ h => h
    exact ⟨h2.trans hT.os, h3.trans hT.tape, h4.trans hT.output, by rw [h1]; exact hT.size, fun j hj hL => by rw [h1]; exact hT.block j hj hL⟩
   have HFIN := Lib.hid hfin
   clear hfin
   cases htk : t k with
   | none =>
    have b1 : wc.cell? ⟨b, 1, none⟩ = some (.int .i64 0) := by
     have := cell_of_row wc b 1 _ _ _ HRB.out
     rw [rWd_none htk] at this
     exact this
    have hnw := news_none (s := s) (i := i) htk
    obtain rfl : nb = true := HNB.out.symm.trans hnw
    have zc := HTC.out.frozen
    have z0 := zc (1 + k * 3)
    have z1 := zc (1 + k * 3 + 1)
    have z2 := zc (1 + k * 3 + 2)
    have g0 := HTC.out.c0 hk8
    have g1 := HTC.out.c1 hk8
    have g2 := HTC.out.c2 hk8
    clear zc htk hnw
    go_wp2_with fail
    go_region_law (fail)
    all_goals
     go_wp2_with fail
     go_ret2
     exact ⟨⟨0, rfl⟩, HFIN.out _ rfl rfl rfl rfl HNB.out⟩
   | some wd =>
    have hrb := HRB.out
    rw [rWd_some htk] at hrb
    have b0 : wc.cell? ⟨b, 0, none⟩ = some (.int .i64 (k : Int)) := cell_of_row wc b 0 _ _ _ hrb
    have b1 : wc.cell? ⟨b, 1, none⟩ = some (.int .i64 wd.st) := cell_of_row wc b 1 _ _ _ hrb
    have b2 : wc.cell? ⟨b, 2, none⟩ = some (.int .i64 wd.inc) := cell_of_row wc b 2 _ _ _ hrb
    have hst : (wd.st != 0) = true := by have := (HOK.out k wd htk).2.1; simp; omega
    have hnw := news_some (s := s) (i := i) htk
    rw [HNB.out] at hnw
    have hsg := stronger18_any (k : Int) s i (k : Int) wd.st wd.inc wc
    rw [← hnw] at hsg
    have HSG := Lib.hid hsg
    clear hrb htk hnw hsg
    go_wp2_with fail
    refine HSG.out.mono ?_
    rintro e w5 ⟨rfl, hb5⟩
    cases nb with
    | false =>
     have hT5 := HTC.out.keep (hb5.block gt HTC.out.lt)
     have hB5 := HBC.out.trans (hb5.mono HBC.out.size)
     have HRES : Hid (RTab w5 gt self (hearT t ⟨(k : Int), s, i⟩) ∧ Touch (fun k => k = gt) w w5) := by
      rw [hearT_old HNB.out]
      exact ⟨hT5, Touch.of_below hB5 (Nat.le_refl _)⟩
     clear hT5 hB5 hb5
     go_wp2_with fail
     go_ret2
     exact ⟨⟨0, rfl⟩, HRES.out⟩
    | true =>
     have hr5 := (hb5.block _ hmlc).trans HRC.out
     have hT5 := HTC.out.keep (hb5.block gt HTC.out.lt)
     have hB5 := HBC.out.trans (hb5.mono HBC.out.size)
     have m0 : w5.cell? ⟨w.heap.size, 0, none⟩ = some (.int .i64 (k : Int)) := cell_of_row w5 _ 0 _ _ _ hr5
     have m1 : w5.cell? ⟨w.heap.size, 1, none⟩ = some (.int .i64 s) := cell_of_row w5 _ 1 _ _ _ hr5
     have m2 : w5.cell? ⟨w.heap.size, 2, none⟩ = some (.int .i64 i) := cell_of_row w5 _ 2 _ _ _ hr5
     have zc := hT5.frozen
     have z0 := zc (1 + k * 3)
     have z1 := zc (1 + k * 3 + 1)
     have z2 := zc (1 + k * 3 + 2)
     have g0 := hT5.c0 hk8
     have g1 := hT5.c1 hk8
     have g2 := hT5.c2 hk8
     have HTC := Lib.hid hT5
     have HBC := Lib.hid hB5
     clear zc hr5 hT5 hB5 hb5 HSG HFIN b0 b1 b2
     have hfin : ∀ W : World, W.heap = (((w5.setCell ⟨gt, 1 + k * 3, none⟩ (.int .i64 (k : Int))).setCell ⟨gt, 1 + k * 3 + 1, none⟩ (.int .i64 s)).setCell ⟨gt, 1 + k * 3 + 2, none⟩ (.int .i64 i)).heap → W.os = w5.os → W.tape = w5.tape → W.output = w5.output → newsT t ⟨(k : Int), s, i⟩ = true → RTab W gt self (hearT t ⟨(k : Int), s, i⟩) ∧ Touch (fun k => k = gt) w W := fun W h1 h2 h3 h4 h5 => by
      rw [hearT_news HM.out h5]
      refine ⟨(HTC.out.set hk8 s i).keep (by rw [h1]), ?_⟩
      have hT := (Touch.of_below (L := fun k => k = gt) HBC.out (Nat.le_refl _)).trans (tset3 gt w5 (1 + k * 3) (1 + k * 3 + 1) (1 + k * 3 + 2) (.int .i64 (k : Int)) (.int .i64 s) (.int .i64 i)) fun _ _ h => h
      exact ⟨h2.trans hT.os, h3.trans hT.tape, h4.trans hT.output, by rw [h1]; exact hT.size, fun j hj hL => by rw [h1]; exact hT.block j hj hL⟩
     have HFIN := Lib.hid hfin
     clear hfin
     go_wp2_with fail
     go_region_law (fail)
     all_goals
      go_wp2_with fail
      go_ret2
      exact ⟨⟨0, rfl⟩, HFIN.out _ rfl rfl rfl rfl HNB.out⟩
 ·have hmy := HMY.out
  rw [decide_eq_false hm] at hmy
  have HMY := Lib.hid hmy
  rw [decide_eq_false hm, Bool.false_and]
  have HRES : Hid (∀ w' : World, Below w.heap.size w w' → RTab w' gt self (hearT t ⟨n, s, i⟩) ∧ Touch (fun k => k = gt) w w') := fun w' hb => by
   rw [hearT_bad hm]
   exact ⟨HH.out.keep (hb.block gt HH.out.lt), Touch.of_below hb (Nat.le_refl _)⟩
  clear hmy hm
  go_enter Tryz.func97, Tryz.ntmps97
  go_wp2_with fail
  rw [HW1.out]
  refine HMY.out.mono ?_
  rintro e w2 ⟨rfl, hb2⟩
  have HB2 := Lib.hid (HB1.out.trans (hb2.mono HB1.out.size))
  clear hb2 HMY
  go_wp2_with fail
  go_ret2
  exact ⟨⟨2, rfl⟩, HRES.out _ HB2.out⟩
end Go.Proofs.YtejihgfigclppaaGreat
namespace Go.Proofs.YtejihgfigclppaaGreat
open Go.Shelf Go.RowKit Go.Lib Go.Sort
set_option linter.unusedVariables false
set_option linter.unusedSimpArgs false
theorem rt_load {W : World} {gt : Nat} {self : Int} {t : Tab} (h : RTab W gt self t) : Sem.run Tryz.prog (loadCellsFrom ⟨gt, 1, none⟩ 0 24 #[]) W = .ok (rtL t) W := by
 refine run_loadCellsFrom_list Tryz.prog W ⟨gt, 1, none⟩ (rtL t).toList 24 rfl fun j v hv => ?_
 rw [Addr.add_lit, cell_of_row W gt _ _ _ _ h, show 1 + j = j + 1 by omega, ← Array.getElem?_toList]
 exact hv
theorem rt_index (t : Tab) (k : Nat) (hk : k < 8) (W : World) : (Instr.index 120 (.agg (rtL t)) (.int .i64 (k : Int))).run Tryz.prog W = .ok (.agg #[.int .i64 (rWd t k).node, .int .i64 (rWd t k).st, .int .i64 (rWd t k).inc]) W := by
 rcases (show k = 0 ∨ k = 1 ∨ k = 2 ∨ k = 3 ∨ k = 4 ∨ k = 5 ∨ k = 6 ∨ k = 7 by omega) with rfl | rfl | rfl | rfl | rfl | rfl | rfl | rfl <;> kernel_rfl
set_option maxRecDepth 100000 in
set_option maxHeartbeats 8000000 in
theorem rall_any (gt : Nat) (self : Int) (t : Tab) (ht : TabOk t) (w : World) (h : RTab w gt self t) :
  Calls Tryz.prog 33 #[.pointer (some ⟨gt, 0, none⟩)] w fun e w' => ∃ o c, e = .returned (.slice o (allT t).length c) ∧ Owns Mb.cells 3 w.heap.size 45 w' (.slice o (allT t).length c) (allT t) ∧ Below w.heap.size w w' := by
 have HLD := Lib.hid (rt_load h)
 have HIX := Lib.hid (rt_index t)
 have HOK := Lib.hid ht
 generalize hL : rtL t = L at *
 clear h ht hL
 go_enter Tryz.func33, Tryz.ntmps33
 go_wp2_with (refine wpList_loadAgg _ rfl 120 _ rfl 24 (by kernel_rfl) (by kernel_rfl) ⟨gt, 1, none⟩ rfl _ HLD.out ?_)
 clear HLD
 go_loopg [3, 5, 10] 8 (fun gk s3 s5 s10 wr => ∃ (i : Nat) (oq : Option Addr) (cq : Nat), s3 = .slice oq (wordsTo t i).length cq ∧ s10 = .int .i64 i ∧ i ≤ 8 ∧ 8 - i ≤ gk ∧ Hid (Owns Mb.cells 3 w.heap.size 45 wr (.slice oq (wordsTo t i).length cq) (wordsTo t i)) ∧ Hid (Below w.heap.size w wr))
 case atStart => exact ⟨0, none, 0, rfl, rfl, Nat.zero_le _, Nat.le_refl _, Owns.nil _ _ _ _ _, Below.refl _ _⟩
 case round =>
  obtain ⟨i, oq, cq, rfl, rfl, hi, hgk, HQ, HB⟩ := hrel
  have hsz := HB.out.size
  by_cases hlt : i < 8
  ·have hltz : (i : Int) < 8 := by omega
   have hix := fun W => HIX.out i hlt W
   have hwl := wordsTo_len t i
   cases hti : t i with
   | none =>
    rw [rWd_none hti] at hix
    have hnx : wordsTo t (i + 1) = wordsTo t i := by rw [wordsTo, hti]; exact List.append_nil _
    have HNX := Lib.hid hnx
    have HB2 := Lib.hid (HB.out.alloc hsz (.cells #[.int .i64 0, .int .i64 0, .int .i64 0] 45))
    have HQ2 := Lib.hid (HQ.out.below ((Below.refl wr.heap.size wr).alloc (Nat.le_refl _) (.cells #[.int .i64 0, .int .i64 0, .int .i64 0] 45)) (Nat.le_refl _))
    clear hnx hti
    generalize wordsTo t i = l at *
    go_wp2_with fail
    go_roundg (8 - (i + 1))
    case measure => omega
    case rel => exact ⟨i + 1, oq, cq, by rw [HNX.out], by go_num, by omega, Nat.le_refl _, by rw [HNX.out]; exact HQ2.out, HB2.out⟩
   | some wd =>
    rw [rWd_some hti] at hix
    have hst : (wd.st != 0) = true := by have := (HOK.out i wd hti).2.1; simp; omega
    have hnx : wordsTo t (i + 1) = wordsTo t i ++ [⟨(i : Int), wd.st, wd.inc⟩] := by rw [wordsTo, hti]
    have HNX := Lib.hid hnx
    clear hnx hti
    obtain ⟨s, c⟩ := wd
    dsimp only at hst hix
    dsimp only at HNX
    generalize wordsTo t i = l at *
    go_wp2_with (at_builtin; refine wpList_app Mb.cells 3 Mb.cells_len (by decide) Mb.cells_one _ rfl _ _ 40 rfl w.heap.size 45 _ 24 Tryz.underlying40 infoMember rfl _ l rfl ?h1 _ [⟨(i : Int), s, c⟩] rfl ?h2 ?h3 ?h4 ?h5 ?_)
    case h1 => exact HQ.out.below (((Below.refl _ _).alloc (Nat.le_refl _) _).alloc (by simp) _) (Nat.le_refl _)
    case h2 =>
     have hh := slAt_new (enc := Mb.cells) (wr.alloc (.cells #[.int .i64 (i : Int), .int .i64 s, .int .i64 c] 45)) #[.int .i64 (i : Int), .int .i64 s, .int .i64 c] 45 1 1 (0, 0) [⟨(i : Int), s, c⟩] rfl rfl (by decide)
     rw [World.size_alloc] at hh
     exact hh
    case h3 => simp only [List.length_singleton]; omega
    case h4 => simp only [List.length_singleton]; omega
    case h5 => simp only [World.size_alloc]; omega
    intro v' w' hown2 hg2 hv2
    obtain ⟨o5, c5, hvv⟩ := slAt_slice hown2.at
    subst hvv
    have hbw := ((HB.out.alloc hsz (.cells #[.int .i64 (i : Int), .int .i64 s, .int .i64 c] 45)).alloc (by simp only [World.size_alloc]; omega) (.cells #[.int .i64 (i : Int), .int .i64 s, .int .i64 c] 45)).grown hg2 (by simp only [World.size_alloc]; omega) (fun k hk => (HQ.out.lt k hk).1)
    have HOWN2 := Lib.hid hown2
    have HBW := Lib.hid hbw
    clear hown2 hg2 hv2 hbw hix
    go_wp2_with fail
    go_roundg (8 - (i + 1))
    case measure => omega
    case rel => exact ⟨i + 1, o5, c5, by rw [HNX.out], by go_num, by omega, Nat.le_refl _, by rw [HNX.out]; exact HOWN2.out, HBW.out⟩
  ·have hltz : ¬ (i : Int) < 8 := by omega
   obtain rfl : i = 8 := by omega
   go_wp2_with fail
   go_ret
   exact ⟨oq, cq, rfl, HQ.out, HB.out⟩
set_option maxRecDepth 100000 in
set_option maxHeartbeats 8000000 in
theorem rlive_any (gt : Nat) (self : Int) (t : Tab) (ht : TabOk t) (w : World) (h : RTab w gt self t) :
  Calls Tryz.prog 34 #[.pointer (some ⟨gt, 0, none⟩)] w fun e w' => ∃ o c, e = .returned (.slice o (liveT t).length c) ∧ Owns icells 1 w.heap.size 3 w' (.slice o (liveT t).length c) (liveT t) ∧ Below w.heap.size w w' := by
 have HLD := Lib.hid (rt_load h)
 have HIX := Lib.hid (rt_index t)
 have HOK := Lib.hid ht
 generalize hL : rtL t = L at *
 clear h ht hL
 go_enter Tryz.func34, Tryz.ntmps34
 go_wp2_with (refine wpList_loadAgg _ rfl 120 _ rfl 24 (by kernel_rfl) (by kernel_rfl) ⟨gt, 1, none⟩ rfl _ HLD.out ?_)
 clear HLD
 go_loopg [3, 5, 10] 8 (fun gk s3 s5 s10 wr => ∃ (i : Nat) (oq : Option Addr) (cq : Nat), s3 = .slice oq (liveTo t i).length cq ∧ s10 = .int .i64 i ∧ i ≤ 8 ∧ 8 - i ≤ gk ∧ Hid (Owns icells 1 w.heap.size 3 wr (.slice oq (liveTo t i).length cq) (liveTo t i)) ∧ Hid (Below w.heap.size w wr))
 case atStart => exact ⟨0, none, 0, rfl, rfl, Nat.zero_le _, Nat.le_refl _, Owns.nil _ _ _ _ _, Below.refl _ _⟩
 case round =>
  obtain ⟨i, oq, cq, rfl, rfl, hi, hgk, HQ, HB⟩ := hrel
  have hsz := HB.out.size
  by_cases hlt : i < 8
  ·have hltz : (i : Int) < 8 := by omega
   have hix := fun W => HIX.out i hlt W
   have hwl := liveTo_len t i
   obtain ⟨n, s, c, hrw⟩ : ∃ n s c, rWd t i = ⟨n, s, c⟩ := ⟨_, _, _, rfl⟩
   rw [hrw] at hix
   dsimp only at hix
   by_cases hth : s = 1 ∨ s = 2
   ·have hni : n = (i : Int) ∧ liveTo t (i + 1) = liveTo t i ++ [(i : Int)] := by
     cases hti : t i with
     | none => rw [rWd_none hti] at hrw; cases hrw; omega
     | some wd =>
      rw [rWd_some hti] at hrw
      cases hrw
      refine ⟨rfl, ?_⟩
      rw [liveTo, hti]
      dsimp only
      rw [if_pos (by unfold Wd.there; exact decide_eq_true hth)]
    obtain ⟨rfl, hnx⟩ := hni
    have HNX := Lib.hid hnx
    clear hnx hrw
    generalize liveTo t i = l at *
    rcases hth with rfl | rfl
    ·go_wp2_with (at_builtin; refine wpList_app icells 1 icells_len (by decide) icells_one _ rfl _ _ 50 rfl w.heap.size 3 _ 8 Tryz.underlying50 infoInt rfl _ l rfl ?h1 _ [(i : Int)] rfl ?h2 ?h3 ?h4 ?h5 ?_)
     case h1 => exact HQ.out.below (((Below.refl _ _).alloc (Nat.le_refl _) _).alloc (by simp) _) (Nat.le_refl _)
     case h2 =>
      have hh := slAt_new (enc := icells) (wr.alloc (.cells #[.int .i64 (i : Int), .int .i64 1, .int .i64 c] 45)) #[.int .i64 (i : Int)] 3 1 1 (0, 0) [(i : Int)] rfl rfl (by decide)
      rw [World.size_alloc] at hh
      exact hh
     case h3 => simp only [List.length_singleton]; omega
     case h4 => simp only [List.length_singleton]; omega
     case h5 => simp only [World.size_alloc]; omega
     intro v' w' hown2 hg2 hv2
     obtain ⟨o5, c5, hvv⟩ := slAt_slice hown2.at
     subst hvv
     have hbw := ((HB.out.alloc hsz (.cells #[.int .i64 (i : Int), .int .i64 1, .int .i64 c] 45)).alloc (by simp only [World.size_alloc]; omega) (.cells #[.int .i64 (i : Int)] 3)).grown hg2 (by simp only [World.size_alloc]; omega) (fun k hk => (HQ.out.lt k hk).1)
     have HOWN2 := Lib.hid hown2
     have HBW := Lib.hid hbw
     clear hown2 hg2 hv2 hbw hix
     go_wp2_with fail
     go_roundg (8 - (i + 1))
     case measure => omega
     case rel => exact ⟨i + 1, o5, c5, by rw [HNX.out], by go_num, by omega, Nat.le_refl _, by rw [HNX.out]; exact HOWN2.out, HBW.out⟩
    ·go_wp2_with (at_builtin; refine wpList_app icells 1 icells_len (by decide) icells_one _ rfl _ _ 50 rfl w.heap.size 3 _ 8 Tryz.underlying50 infoInt rfl _ l rfl ?g1 _ [(i : Int)] rfl ?g2 ?g3 ?g4 ?g5 ?_)
     case g1 => exact HQ.out.below (((Below.refl _ _).alloc (Nat.le_refl _) _).alloc (by simp) _) (Nat.le_refl _)
     case g2 =>
      have hh := slAt_new (enc := icells) (wr.alloc (.cells #[.int .i64 (i : Int), .int .i64 2, .int .i64 c] 45)) #[.int .i64 (i : Int)] 3 1 1 (0, 0) [(i : Int)] rfl rfl (by decide)
      rw [World.size_alloc] at hh
      exact hh
     case g3 => simp only [List.length_singleton]; omega
     case g4 => simp only [List.length_singleton]; omega
     case g5 => simp only [World.size_alloc]; omega
     intro v' w' hown2 hg2 hv2
     obtain ⟨o5, c5, hvv⟩ := slAt_slice hown2.at
     subst hvv
     have hbw := ((HB.out.alloc hsz (.cells #[.int .i64 (i : Int), .int .i64 2, .int .i64 c] 45)).alloc (by simp only [World.size_alloc]; omega) (.cells #[.int .i64 (i : Int)] 3)).grown hg2 (by simp only [World.size_alloc]; omega) (fun k hk => (HQ.out.lt k hk).1)
     have HOWN2 := Lib.hid hown2
     have HBW := Lib.hid hbw
     clear hown2 hg2 hv2 hbw hix
     go_wp2_with fail
     go_roundg (8 - (i + 1))
     case measure => omega
     case rel => exact ⟨i + 1, o5, c5, by rw [HNX.out], by go_num, by omega, Nat.le_refl _, by rw [HNX.out]; exact HOWN2.out, HBW.out⟩
   ·have hnx : liveTo t (i + 1) = liveTo t i := by
     rw [liveTo]
     cases hti : t i with
     | none => exact List.append_nil _
     | some wd =>
      rw [rWd_some hti] at hrw
      cases hrw
      dsimp only
      rw [if_neg (by unfold Wd.there; rw [decide_eq_false hth]; decide)]
      exact List.append_nil _
    have f1 : (s == 1) = false := by simp; omega
    have f2 : (s == 2) = false := by simp; omega
    have HNX := Lib.hid hnx
    have HB2 := Lib.hid (HB.out.alloc hsz (.cells #[.int .i64 n, .int .i64 s, .int .i64 c] 45))
    have HQ2 := Lib.hid (HQ.out.below ((Below.refl wr.heap.size wr).alloc (Nat.le_refl _) (.cells #[.int .i64 n, .int .i64 s, .int .i64 c] 45)) (Nat.le_refl _))
    clear hnx hrw hth
    generalize liveTo t i = l at *
    go_wp2_with fail
    go_roundg (8 - (i + 1))
    case measure => omega
    case rel => exact ⟨i + 1, oq, cq, by rw [HNX.out], by go_num, by omega, Nat.le_refl _, by rw [HNX.out]; exact HQ2.out, HB2.out⟩
  ·have hltz : ¬ (i : Int) < 8 := by omega
   obtain rfl : i = 8 := by omega
   go_wp2_with fail
   go_ret
   exact ⟨oq, cq, rfl, HQ.out, HB.out⟩
end Go.Proofs.YtejihgfigclppaaGreat
namespace Go.Proofs.YtejihgfigclppaaGreat
open Go.Shelf Go.RowKit Go.Lib Go.Sort
set_option linter.unusedVariables false
set_option linter.unusedSimpArgs false
set_option maxHeartbeats 8000000 in
theorem rothers_any (gt : Nat) (self : Int) (t : Tab) (ht : TabOk t) (w : World) (h : RTab w gt self t) :
  Calls Tryz.prog 35 #[.pointer (some ⟨gt, 0, none⟩)] w fun e w' => ∃ o c, e = .returned (.slice o (othersT self t).length c) ∧ Owns icells 1 w.heap.size 3 w' (.slice o (othersT self t).length c) (othersT self t) ∧ Below w.heap.size w w' := by
 have hlt := h.lt
 have hlv := rlive_any gt self t ht w h
 have hll := liveT_len t
 have HT := Lib.hid h
 have HO := Lib.hid (show othersT self t = (liveT t).filter fun n => !decide (n = self) from rfl)
 generalize othersT self t = os at *
 generalize liveT t = lv at *
 have HLV := Lib.hid hlv
 clear hlv h
 go_enter Tryz.func35, Tryz.ntmps35
 go_wp2_with fail
 refine HLV.out.mono ?_
 rintro e w2 ⟨o2, c2, rfl, ho2, hb2⟩
 have HO2 := Lib.hid ho2
 have HB2 := Lib.hid hb2
 clear ho2 hb2 HLV
 go_wp2_with fail
 go_loopg [3, 5, 9] lv.length (fun gk s3 s5 s9 wr => ∃ (i : Nat) (oq : Option Addr) (cq : Nat), s9 = .int .i64 i ∧ s3 = .slice oq ((lv.take i).filter fun n => !decide (n = self)).length cq ∧ i ≤ lv.length ∧ lv.length - i ≤ gk ∧ Hid (Owns icells 1 w2.heap.size 3 wr (.slice oq ((lv.take i).filter fun n => !decide (n = self)).length cq) ((lv.take i).filter fun n => !decide (n = self))) ∧ Hid (Below w2.heap.size w2 wr))
 case atStart => exact ⟨0, none, 0, rfl, rfl, Nat.zero_le _, Nat.le_refl _, Owns.nil _ _ _ _ _, Below.refl _ _⟩
 case round =>
  obtain ⟨i, oq, cq, rfl, rfl, hi, hgk, HQ, HBR⟩ := hrel
  have hsz := HBR.out.size
  by_cases hlt2 : i < lv.length
  ·have hltz : (i : Int) < (lv.length : Int) := by omega
   have hsl := HO2.out.at.below icells_len (by decide) HBR.out (Nat.le_refl _)
   obtain ⟨g, off, rfl⟩ := hsl.plain icells_len (by decide) (by intro e; rw [e] at hlt2; exact absurd hlt2 (by simp))
   have c0 := hsl.cell icells_len (i := i) (c := 0) hlt2 (by decide)
   simp only [icells, Nat.mul_one, Nat.add_zero, List.getElem?_cons_zero] at c0
   have hs0 := ((HT.out.keep (HB2.out.block gt hlt)).keep (HBR.out.block gt (Nat.lt_of_lt_of_le hlt HB2.out.size))).self
   have hself : wr.cell? ⟨gt, 0, none⟩ = some (.int .i64 self) := hs0
   have htk : lv.take (i + 1) = lv.take i ++ [lv[i]] := by rw [List.take_add_one, List.getElem?_eq_getElem hlt2]; rfl
   have hfl : ((lv.take i).filter fun n => !decide (n = self)).length ≤ 8 := Nat.le_trans (List.length_filter_le _ _) (by rw [List.length_take]; omega)
   have HTK := Lib.hid htk
   clear hsl hs0 htk
   generalize lv[i] = x at *
   generalize hfq : (lv.take i).filter (fun n => !decide (n = self)) = fq at *
   have HFQ := Lib.hid hfq
   clear hfq
   by_cases hx : x = self
   ·have hnx : (lv.take (i + 1)).filter (fun n => !decide (n = self)) = fq := by rw [HTK.out, List.filter_append, HFQ.out]; simp [hx]
    have HNX := Lib.hid hnx
    clear hnx
    go_wp2_with fail
    go_roundg (lv.length - (i + 1))
    case measure => omega
    case rel => exact ⟨i + 1, oq, cq, by go_num, by rw [HNX.out], by omega, Nat.le_refl _, by rw [HNX.out]; exact HQ.out, HBR.out⟩
   ·have hnx : (lv.take (i + 1)).filter (fun n => !decide (n = self)) = fq ++ [x] := by rw [HTK.out, List.filter_append, HFQ.out]; simp [hx]
    have HNX := Lib.hid hnx
    clear hnx
    go_wp2_with (at_builtin; refine wpList_app icells 1 icells_len (by decide) icells_one _ rfl _ _ 50 rfl w2.heap.size 3 _ 8 Tryz.underlying50 infoInt rfl _ fq rfl ?h1 _ [x] rfl ?h2 ?h3 ?h4 ?h5 ?_)
    case h1 => exact HQ.out.below ((Below.refl _ _).alloc (Nat.le_refl _) _) (Nat.le_refl _)
    case h2 => exact slAt_new (enc := icells) wr #[.int .i64 x] 3 1 1 (0, 0) [x] rfl rfl (by decide)
    case h3 => simp only [List.length_singleton]; omega
    case h4 => simp only [List.length_singleton]; omega
    case h5 => rw [World.size_alloc]; omega
    intro v' w' hown2 hg2 hv2
    obtain ⟨o5, c5, hvv⟩ := slAt_slice hown2.at
    subst hvv
    have hbw := (HBR.out.alloc hsz (.cells #[.int .i64 x] 3)).grown hg2 (by rw [World.size_alloc]; omega) (fun k hk => (HQ.out.lt k hk).1)
    have HOWN2 := Lib.hid hown2
    have HBW := Lib.hid hbw
    clear hown2 hg2 hv2 hbw
    go_wp2_with fail
    go_roundg (lv.length - (i + 1))
    case measure => omega
    case rel => exact ⟨i + 1, o5, c5, by go_num, by rw [HNX.out], by omega, Nat.le_refl _, by rw [HNX.out]; exact HOWN2.out, HBW.out⟩
  ·have hltz : ¬ (i : Int) < (lv.length : Int) := by omega
   obtain rfl : i = lv.length := by omega
   have hq := HQ.out
   rw [List.take_length] at hq
   go_wp2_with fail
   go_ret
   rw [HO.out]
   exact ⟨oq, cq, rfl, hq.lower HB2.out.size, HB2.out.trans (HBR.out.mono HB2.out.size)⟩
end Go.Proofs.YtejihgfigclppaaGreat
