/-
  The table of what is known of nodes as it lies in memory; its methods walked, but for those that go over all words.
  The table hears a word; what it knows of a node.
-/
import Derived.Test.YtejihgfigclppaaGreatMRd
import Derived.Test.YtejihgfigclppaaGreatMDraw
import Derived.Test.YtejihgfigclppaaGreatMSat
import Derived.BigQuiet
import Derived.Deep.QuietTactic
import Derived.Deep.DeepCutAuto
namespace Go.Proofs.YtejihgfigclppaaGreat
open Go.Shelf Go.RowKit Go.Lib Go.Sort
set_option linter.unusedVariables false
set_option linter.unusedSimpArgs false
theorem Grew.drewK {w w1 : World} (h : Grew w w1) (n : Nat) : Grew w (w1.drewN n) := by
 obtain ⟨q, os, rfl⟩ := h
 exact ⟨q + n, os, by simp [grow, World.drewN, Nat.add_assoc]⟩
def knB (t : Tab) (i : Nat) : Value := .bool (t i).isSome
def wN (t : Tab) (i : Nat) : Value := .int .i64 (if (t i).isSome then (i : Int) else 0)
def wS (t : Tab) (i : Nat) : Value := .int .i64 ((t i).map (·.st)|>.getD 0)
def wI (t : Tab) (i : Nat) : Value := .int .i64 ((t i).map (·.inc)|>.getD 0)
def tcells (self : Int) (t : Tab) : Array Value :=
 #[.int .i64 self, knB t 0, knB t 1, knB t 2, knB t 3, knB t 4, knB t 5, knB t 6, knB t 7,
  wN t 0, wS t 0, wI t 0, wN t 1, wS t 1, wI t 1, wN t 2, wS t 2, wI t 2, wN t 3, wS t 3, wI t 3,
  wN t 4, wS t 4, wI t 4, wN t 5, wS t 5, wI t 5, wN t 6, wS t 6, wI t 6, wN t 7, wS t 7, wI t 7]
theorem eight {n : Nat} (hn : n < 8) : n = 0 ∨ n = 1 ∨ n = 2 ∨ n = 3 ∨ n = 4 ∨ n = 5 ∨ n = 6 ∨ n = 7 := by omega
theorem tcells_known (self : Int) (t : Tab) {n : Nat} (hn : n < 8) : (tcells self t)[1 + n]? = some (knB t n) := by
 rcases eight hn with rfl | rfl | rfl | rfl | rfl | rfl | rfl | rfl <;> rfl
theorem tcells_node (self : Int) (t : Tab) {n : Nat} (hn : n < 8) : (tcells self t)[9 + n * 3]? = some (wN t n) := by
 rcases eight hn with rfl | rfl | rfl | rfl | rfl | rfl | rfl | rfl <;> rfl
theorem tcells_st (self : Int) (t : Tab) {n : Nat} (hn : n < 8) : (tcells self t)[9 + n * 3 + 1]? = some (wS t n) := by
 rcases eight hn with rfl | rfl | rfl | rfl | rfl | rfl | rfl | rfl <;> rfl
theorem tcells_inc (self : Int) (t : Tab) {n : Nat} (hn : n < 8) : (tcells self t)[9 + n * 3 + 2]? = some (wI t n) := by
 rcases eight hn with rfl | rfl | rfl | rfl | rfl | rfl | rfl | rfl <;> rfl
theorem tcells_set (self : Int) (t : Tab) {n : Nat} (hn : n < 8) (w : Wd) :
  ((((tcells self t).setIfInBounds (1 + n) (.bool true)).setIfInBounds (9 + n * 3) (.int .i64 (n : Int))).setIfInBounds (9 + n * 3 + 1) (.int .i64 w.st)).setIfInBounds (9 + n * 3 + 2) (.int .i64 w.inc) = tcells self (updT t n w) := by
 rcases eight hn with rfl | rfl | rfl | rfl | rfl | rfl | rfl | rfl <;> rfl
def TabAt (W : World) (b : Nat) (self : Int) (t : Tab) : Prop := W.heap[b]? = some (.cells (tcells self t) 135)
theorem TabAt.lt {W : World} {b : Nat} {self : Int} {t : Tab} (h : TabAt W b self t) : b < W.heap.size := (Array.getElem?_eq_some_iff.1 h).1
theorem TabAt.cell {W : World} {b : Nat} {self : Int} {t : Tab} (h : TabAt W b self t) (k : Nat) : W.cell? ⟨b, k, none⟩ = (tcells self t)[k]? := cell_of_row _ b k _ _ _ h
theorem TabAt.frozen {W : World} {b : Nat} {self : Int} {t : Tab} (h : TabAt W b self t) (k : Nat) : W.frozen? ⟨b, k, none⟩ = false := by simp [World.frozen?, show W.heap[b]? = _ from h]
theorem TabAt.keep {W W' : World} {b : Nat} {self : Int} {t : Tab} (h : TabAt W b self t) (hb : W'.heap[b]? = W.heap[b]?) : TabAt W' b self t := hb.trans h
theorem TabAt.set {W : World} {b : Nat} {self : Int} {t : Tab} (h : TabAt W b self t) {n : Nat} (hn : n < 8) (w : Wd) :
  TabAt ((((W.setCell ⟨b, 1 + n, none⟩ (.bool true)).setCell ⟨b, 9 + n * 3, none⟩ (.int .i64 (n : Int))).setCell ⟨b, 9 + n * 3 + 1, none⟩ (.int .i64 w.st)).setCell ⟨b, 9 + n * 3 + 2, none⟩ (.int .i64 w.inc)) b self (updT t n w) := by
 unfold TabAt at *
 rw [heap_setCell_same _ _ _ _ _ _ _ (heap_setCell_same _ _ _ _ _ _ _ (heap_setCell_same _ _ _ _ _ _ _ (heap_setCell_same _ _ _ _ _ _ _ h))), tcells_set self t hn]
theorem within_is (n lo hi : Int) (h : lo ≤ hi) (w : World) : ∃ v : Int, (v == n) = decide (lo ≤ n ∧ n ≤ hi) ∧ ∀ W, Calls Tryz.prog 62 #[.int .i64 n, .int .i64 lo, .int .i64 hi] W fun e w' => e = .returned (.int .i64 v) ∧ w' = W := by
 refine ⟨if hi < n then hi else if n < lo then lo else n, ?_, fun W => (withinS_any n lo hi W).mono fun e w' hh => ⟨hh.1, hh.2.symm⟩⟩
 by_cases h1 : hi < n
 ·rw [if_pos h1, decide_eq_false (by omega)]
  exact beq_eq_false_iff_ne.2 (by omega)
 ·rw [if_neg h1]
  by_cases h2 : n < lo
  ·rw [if_pos h2, decide_eq_false (by omega)]
   exact beq_eq_false_iff_ne.2 (by omega)
  ·rw [if_neg h2, decide_eq_true (by omega)]
   exact beq_self_eq_true n
set_option maxRecDepth 100000 in
set_option maxHeartbeats 4000000 in
theorem mayW_any (m : Mb) (w : World) : Calls Tryz.prog 103 #[.agg #[.int .i64 m.node, .int .i64 m.st, .int .i64 m.inc]] w fun e w' => e = .returned (.bool (decide m.may)) ∧ Grew w w' := by
 obtain ⟨n, s, i⟩ := m
 obtain ⟨v1, h1, c1⟩ := within_is n 0 7 (by omega) w
 obtain ⟨v2, h2, c2⟩ := within_is s 1 4 (by omega) w
 obtain ⟨v3, h3, c3⟩ := within_is i 0 1099511627776 (by omega) w
 have hall : decide (Mb.may ⟨n, s, i⟩) = (decide (0 ≤ n ∧ n ≤ 7) && (decide (1 ≤ s ∧ s ≤ 4) && decide (0 ≤ i ∧ i ≤ 1099511627776))) := by
  rw [Bool.eq_iff_iff]
  constructor
  ·intro h
   obtain ⟨a, b, c, d, e, f⟩ : Mb.may ⟨n, s, i⟩ := of_decide_eq_true h
   rw [Bool.and_eq_true, Bool.and_eq_true, decide_eq_true_iff, decide_eq_true_iff, decide_eq_true_iff]
   exact ⟨⟨a, b⟩, ⟨c, d⟩, ⟨e, f⟩⟩
  ·intro h
   rw [Bool.and_eq_true, Bool.and_eq_true, decide_eq_true_iff, decide_eq_true_iff, decide_eq_true_iff] at h
   obtain ⟨⟨a, b⟩, ⟨c, d⟩, ⟨e, f⟩⟩ := h
   exact decide_eq_true (show Mb.may ⟨n, s, i⟩ from ⟨a, b, c, d, e, f⟩)
 rw [hall]
 dsimp only
 generalize decide (0 ≤ n ∧ n ≤ 7) = b1 at *
 generalize decide (1 ≤ s ∧ s ≤ 4) = b2 at *
 generalize decide (0 ≤ i ∧ i ≤ 1099511627776) = b3 at *
 have C1 := Lib.hid c1
 have C2 := Lib.hid c2
 have C3 := Lib.hid c3
 clear c1 c2 c3 hall
 have hp : Tryz.prog.follows .mixedOrders = true := by kernel_rfl
 go_enter Tryz.func103, Tryz.ntmps103
 go_wp2_with fail
 cases b1 with
 | false =>
  go_quiet (first | (go_at_call_of 62 (Value.int .i64 n); refine Calls.quiet_of_same (C1.out _)))
  go_wp2_with fail
  go_ret
  exact ⟨rfl, ((Grew.refl _).alloc _).drewK _⟩
 | true =>
  cases b2 with
  | false =>
   go_quiet (first | (go_at_call_of 62 (Value.int .i64 n); refine Calls.quiet_of_same (C1.out _)) | (go_at_call_of 62 (Value.int .i64 s); refine Calls.quiet_of_same (C2.out _)))
   go_wp2_with fail
   go_ret
   exact ⟨rfl, ((Grew.refl _).alloc _).drewK _⟩
  | true =>
   go_quiet (first | (go_at_call_of 62 (Value.int .i64 n); refine Calls.quiet_of_same (C1.out _)) | (go_at_call_of 62 (Value.int .i64 s); refine Calls.quiet_of_same (C2.out _)) | (go_at_call_of 62 (Value.int .i64 i); refine Calls.quiet_of_same (C3.out _)))
   go_wp2_with fail
   go_ret
   exact ⟨rfl, ((Grew.refl _).alloc _).drewK _⟩
def cmpW (a b : Wd) : Int := if b.inc < a.inc then 1 else if a.inc < b.inc then -1 else if b.st < a.st then 1 else if a.st < b.st then -1 else 0
theorem cmpW_pos (a b : Wd) : 0 < cmpW a b ↔ a.beats b := by
 unfold cmpW Wd.beats
 split
 ·simp [*]
 ·split
  ·constructor
   ·intro h; omega
   ·intro h; omega
  ·split
   ·constructor
    ·intro h; omega
    ·intro h; omega
   ·split
    ·constructor
     ·intro h; omega
     ·intro h; omega
    ·constructor
     ·intro h; omega
     ·intro h; omega
set_option maxHeartbeats 2000000 in
theorem compareW_any (n k : Int) (a b : Wd) (w : World) : Calls Tryz.prog 104 #[.agg #[.int .i64 n, .int .i64 a.st, .int .i64 a.inc], .agg #[.int .i64 k, .int .i64 b.st, .int .i64 b.inc]] w fun e w' => e = .returned (.int .i64 (cmpW a b)) ∧ Grew w w' := by
 obtain ⟨s, i⟩ := a
 obtain ⟨s', i'⟩ := b
 obtain ⟨z, hz⟩ : ∃ z, cmpW ⟨s, i⟩ ⟨s', i'⟩ = z := ⟨_, rfl⟩
 rw [hz]
 unfold cmpW at hz
 dsimp only at *
 have hg : Hid (Grew w ((w.alloc (.cells #[.int .i64 n, .int .i64 s, .int .i64 i] 132)).alloc (.cells #[.int .i64 k, .int .i64 s', .int .i64 i'] 132))) := ((Grew.refl _).alloc _).alloc _
 by_cases h1 : i' < i
 ·rw [if_pos h1] at hz
  subst hz
  go_enter Tryz.func104, Tryz.ntmps104
  go_wp2_with fail
  go_ret
  exact ⟨rfl, hg.out⟩
 ·rw [if_neg h1] at hz
  by_cases h2 : i < i'
  ·rw [if_pos h2] at hz
   subst hz
   go_enter Tryz.func104, Tryz.ntmps104
   go_wp2_with fail
   go_ret
   exact ⟨rfl, hg.out⟩
  ·rw [if_neg h2] at hz
   by_cases h3 : s' < s
   ·rw [if_pos h3] at hz
    subst hz
    go_enter Tryz.func104, Tryz.ntmps104
    go_wp2_with fail
    go_ret
    exact ⟨rfl, hg.out⟩
   ·rw [if_neg h3] at hz
    by_cases h4 : s < s'
    ·rw [if_pos h4] at hz
     subst hz
     go_enter Tryz.func104, Tryz.ntmps104
     go_wp2_with fail
     go_ret
     exact ⟨rfl, hg.out⟩
    ·rw [if_neg h4] at hz
     subst hz
     go_enter Tryz.func104, Tryz.ntmps104
     go_wp2_with fail
     go_ret
     exact ⟨rfl, hg.out⟩
end Go.Proofs.YtejihgfigclppaaGreat
namespace Go.Proofs.YtejihgfigclppaaGreat
open Go.Shelf Go.RowKit Go.Lib Go.Sort
set_option linter.unusedVariables false
set_option linter.unusedSimpArgs false
set_option maxRecDepth 100000 in
set_option maxHeartbeats 8000000 in
theorem hearTab_any (b : Nat) (self : Int) (t : Tab) (m : Mb) (w : World) (h : TabAt w b self t) :
  Calls Tryz.prog 70 #[.pointer (some ⟨b, 0, none⟩), .agg #[.int .i64 m.node, .int .i64 m.st, .int .i64 m.inc]] w fun e w' => ∃ z : Int, e = .returned (.tuple #[.bool (decide m.may && newsT t m), .int .i64 z]) ∧ (m.may → z = 0) ∧ (¬ m.may → z = 2) ∧ TabAt w' b self (hearT t m) ∧ w.grownBy w' (some b) := by
 have hlt := h.lt
 have hMW := mayW_any m
 obtain ⟨n, s, i⟩ := m
 dsimp only at *
 have hm2 := (alloc2 w (.cells #[.int .i64 n, .int .i64 s, .int .i64 i] 45) (.cells #[.int .i64 n, .int .i64 s, .int .i64 i] 132)).2.1
 obtain ⟨r0, r1, hb2, hs2⟩ := alloc2 w (.cells #[.int .i64 n, .int .i64 s, .int .i64 i] 45) (.cells #[.int .i64 n, .int .i64 s, .int .i64 i] 132)
 have hT := h.keep (hb2.block b hlt)
 have HMW := Lib.hid hMW
 have HT := Lib.hid hT
 have HB2 := Lib.hid hb2
 have hl1 := fun (k : Nat) => cell_of_row _ (w.heap.size + 1) k _ _ _ r1
 have HR1 := Lib.hid r1
 clear hMW hT hb2 r0 hm2 h r1
 cases hmay : decide (Mb.may ⟨n, s, i⟩) with
 | false =>
  have HM := Lib.hid hmay
  simp only [hmay] at HMW
  clear hmay
  go_enter Tryz.func70, Tryz.ntmps70
  go_wp2_with fail
  refine (HMW.out _).mono ?_
  rintro e w3 ⟨rfl, hg3⟩
  go_wp2_with fail
  go_ret2
  have hnm : ¬ Mb.may ⟨n, s, i⟩ := of_decide_eq_false HM.out
  have hb3 := hg3.below
  refine ⟨2, rfl, fun hh => absurd hh hnm, fun _ => rfl, ?_, ?_⟩
  ·have e : hearT t ⟨n, s, i⟩ = t := if_neg fun hh => hnm hh.1
   rw [e]
   exact HT.out.keep (hb3.block b (by omega))
  ·exact gb_below (World.grownBy.refl w _) (HB2.out.trans (hb3.mono HB2.out.size)) (Nat.le_refl _)
 | true =>
  have hm : Mb.may ⟨n, s, i⟩ := of_decide_eq_true hmay
  have HMAY := Lib.hid hm
  obtain ⟨k, rfl⟩ : ∃ k : Nat, n = (k : Int) := ⟨n.toNat, by have : (0 : Int) ≤ n := hm.1; omega⟩
  have hk : k < 8 := by have : (k : Int) ≤ 7 := hm.2.1; omega
  have hkz : (k : Int) < 8 := by omega
  simp only [hmay] at HMW
  clear hmay hm
  go_enter Tryz.func70, Tryz.ntmps70
  go_wp2_with fail
  refine (HMW.out _).mono ?_
  rintro e w3 ⟨rfl, hg3⟩
  have hb3 := hg3.below
  have hT3 := HT.out.keep (hb3.block b (by omega))
  have hl3 := fun (j : Nat) => (hb3.cell (p := ⟨w.heap.size + 1, j, none⟩) (by show w.heap.size + 1 < _; omega)).trans (hl1 j)
  have HB3 := Lib.hid (HB2.out.trans (hb3.mono HB2.out.size))
  have hs3 : w.heap.size + 2 ≤ w3.heap.size := by have := hb3.size; omega
  have q0 := hl3 0
  have q1 := hl3 1
  have q2 := hl3 2
  simp only [List.getElem?_toArray, List.getElem?_cons_zero, List.getElem?_cons_succ] at q0 q1 q2
  clear hl1 hl3 hb3 hg3 HMW hs2 HT HB2
  generalize (w.alloc (.cells #[.int .i64 k, .int .i64 s, .int .i64 i] 45)).alloc (.cells #[.int .i64 k, .int .i64 s, .int .i64 i] 132) = wx at *
  have k0 := (hT3.cell (1 + k)).trans (tcells_known self t hk)
  have k1 := (hT3.cell (9 + k * 3)).trans (tcells_node self t hk)
  have k2 := (hT3.cell (9 + k * 3 + 1)).trans (tcells_st self t hk)
  have k3 := (hT3.cell (9 + k * 3 + 2)).trans (tcells_inc self t hk)
  unfold knB at k0
  unfold wN at k1
  unfold wS at k2
  unfold wI at k3
  have HT3 := Lib.hid hT3
  clear hT3
  cases htk : t k with
  | none =>
   rw [htk] at k0 k1 k2 k3
   simp only [Option.isSome_none, Option.map_none, Option.getD_none, Bool.false_eq_true, if_false] at k0 k1 k2 k3
   have hp : Tryz.prog.follows .mixedOrders = true := by kernel_rfl
   have hnw : newsT t ⟨(k : Int), s, i⟩ = true := by unfold newsT; rw [show (Mb.node ⟨(k : Int), s, i⟩).toNat = k from Int.toNat_natCast k, htk]
   go_wp2_with fail
   go_quiet (fail)
   go_wp2_with fail
   have hg4 : Grew w3 (w3.drewN nq) := ⟨nq, #[], by rw [grow_empty]⟩
   have hb4 := hg4.below
   have hT4 := HT3.out.keep (hb4.block b HT3.out.lt)
   have u0 := (hb4.cell (p := ⟨b, 1 + k, none⟩) HT3.out.lt).trans k0
   have u1 := (hb4.cell (p := ⟨b, 9 + k * 3, none⟩) HT3.out.lt).trans k1
   have u2 := (hb4.cell (p := ⟨b, 9 + k * 3 + 1, none⟩) HT3.out.lt).trans k2
   have u3 := (hb4.cell (p := ⟨b, 9 + k * 3 + 2, none⟩) HT3.out.lt).trans k3
   have p0 := (hb4.cell (p := ⟨w.heap.size + 1, 0, none⟩) (by show w.heap.size + 1 < _; omega)).trans q0
   have p1 := (hb4.cell (p := ⟨w.heap.size + 1, 1, none⟩) (by show w.heap.size + 1 < _; omega)).trans q1
   have p2 := (hb4.cell (p := ⟨w.heap.size + 1, 2, none⟩) (by show w.heap.size + 1 < _; omega)).trans q2
   have HT4 := Lib.hid hT4
   have HB4 := Lib.hid (HB3.out.trans (hb4.mono HB3.out.size))
   have f0 := hT4.frozen (1 + k)
   have f1 := hT4.frozen (9 + k * 3)
   have f2 := hT4.frozen (9 + k * 3 + 1)
   have f3 := hT4.frozen (9 + k * 3 + 2)
   clear hg4 hb4 hT4 HT3 HB3 k0 k1 k2 k3 q0 q1 q2
   generalize w3.drewN nq = w4 at *
   have hfin : TabAt (((((w4.setCell ⟨b, 1 + k, none⟩ (.bool true)).setCell ⟨b, 9 + k * 3, none⟩ (.int .i64 (k : Int))).setCell ⟨b, 9 + k * 3 + 1, none⟩ (.int .i64 s)).setCell ⟨b, 9 + k * 3 + 2, none⟩ (.int .i64 i)).drew) b self (updT t k ⟨s, i⟩) ∧ w.grownBy (((((w4.setCell ⟨b, 1 + k, none⟩ (.bool true)).setCell ⟨b, 9 + k * 3, none⟩ (.int .i64 (k : Int))).setCell ⟨b, 9 + k * 3 + 1, none⟩ (.int .i64 s)).setCell ⟨b, 9 + k * 3 + 2, none⟩ (.int .i64 i)).drew) (some b) := by
    have h0 : TabAt w4 b self t := HT4.out
    refine ⟨h0.set hk ⟨s, i⟩, ?_⟩
    have g0 : w.grownBy w4 (some b) := gb_below (World.grownBy.refl w (some b)) HB4.out (Nat.le_refl _)
    exact gb_then (gb_then (gb_then (gb_then (gb_then g0 (gb_set _ b _ _) fun j hj => .inr hj) (gb_set _ b _ _) fun j hj => .inr hj) (gb_set _ b _ _) fun j hj => .inr hj) (gb_set _ b _ _) fun j hj => .inr hj) (gb_drew _ (some b)) fun j hj => .inr hj
   have HF := Lib.hid hfin
   have hnews : hearT t ⟨(k : Int), s, i⟩ = updT t k ⟨s, i⟩ := if_pos ⟨HMAY.out, hnw⟩
   have HNW := Lib.hid hnw
   have HNE := Lib.hid hnews
   clear hfin HT4 hnews hnw
   go_region_law (fail)
   all_goals (go_wp2_with fail; go_ret2; exact ⟨0, by rw [HNW.out]; rfl, fun _ => rfl, fun hh => absurd HMAY.out hh, by rw [HNE.out]; exact HF.out.1, HF.out.2⟩)
  | some wd =>
   rw [htk] at k0 k1 k2 k3
   simp only [Option.isSome_some, Option.map_some, Option.getD_some, if_true] at k0 k1 k2 k3
   have hp : Tryz.prog.follows .mixedOrders = true := by kernel_rfl
   have hcm := fun W => compareW_any (k : Int) (k : Int) ⟨s, i⟩ wd W
   have hz := cmpW_pos ⟨s, i⟩ wd
   have hnt : newsT t ⟨(k : Int), s, i⟩ = decide ((⟨s, i⟩ : Wd).beats wd) := by unfold newsT; rw [show (Mb.node ⟨(k : Int), s, i⟩).toNat = k from Int.toNat_natCast k, htk]
   generalize cmpW ⟨s, i⟩ wd = z at *
   have HCM := Lib.hid hcm
   clear hcm
   have hlx : w.heap.size + 1 < w3.heap.size := by omega
   have hlb := HT3.out.lt
   have c0 := cell_grown (o := 1 + k) hlb k0
   have c1 := cell_grown (o := 9 + k * 3) hlb k1
   have c2 := cell_grown (o := 9 + k * 3 + 1) hlb k2
   have c3 := cell_grown (o := 9 + k * 3 + 2) hlb k3
   have d0 := cell_grown (o := 0) hlx q0
   have d1 := cell_grown (o := 1) hlx q1
   have d2 := cell_grown (o := 2) hlx q2
   by_cases hb : (⟨s, i⟩ : Wd).beats wd
   ·have hz1 : ¬ z ≤ 0 := Int.not_le.2 (hz.2 hb)
    have hnw : newsT t ⟨(k : Int), s, i⟩ = true := by rw [hnt]; exact decide_eq_true hb
    clear hnt hz
    go_wp2_with fail
    go_quiet_grown (first | (go_at_call 104; refine Calls.grown_of (HCM.out _)))
    go_wp2_with fail
    clear c0 c1 c2 c3 d0 d1 d2
    have hg4 : Grew w3 (grow (w3.drewN nq) osq) := ⟨nq, osq, rfl⟩
    have hb4 := hg4.below
    have hT4 := HT3.out.keep (hb4.block b HT3.out.lt)
    have u0 := (hb4.cell (p := ⟨b, 1 + k, none⟩) HT3.out.lt).trans k0
    have u1 := (hb4.cell (p := ⟨b, 9 + k * 3, none⟩) HT3.out.lt).trans k1
    have u2 := (hb4.cell (p := ⟨b, 9 + k * 3 + 1, none⟩) HT3.out.lt).trans k2
    have u3 := (hb4.cell (p := ⟨b, 9 + k * 3 + 2, none⟩) HT3.out.lt).trans k3
    have p0 := (hb4.cell (p := ⟨w.heap.size + 1, 0, none⟩) (by show w.heap.size + 1 < _; omega)).trans q0
    have p1 := (hb4.cell (p := ⟨w.heap.size + 1, 1, none⟩) (by show w.heap.size + 1 < _; omega)).trans q1
    have p2 := (hb4.cell (p := ⟨w.heap.size + 1, 2, none⟩) (by show w.heap.size + 1 < _; omega)).trans q2
    have HT4 := Lib.hid hT4
    have HB4 := Lib.hid (HB3.out.trans (hb4.mono HB3.out.size))
    have f0 := hT4.frozen (1 + k)
    have f1 := hT4.frozen (9 + k * 3)
    have f2 := hT4.frozen (9 + k * 3 + 1)
    have f3 := hT4.frozen (9 + k * 3 + 2)
    clear hg4 hb4 hT4 HT3 HB3 k0 k1 k2 k3 q0 q1 q2
    generalize grow (w3.drewN nq) osq = w4 at *
    have hfin : TabAt (((((w4.setCell ⟨b, 1 + k, none⟩ (.bool true)).setCell ⟨b, 9 + k * 3, none⟩ (.int .i64 (k : Int))).setCell ⟨b, 9 + k * 3 + 1, none⟩ (.int .i64 s)).setCell ⟨b, 9 + k * 3 + 2, none⟩ (.int .i64 i)).drew) b self (updT t k ⟨s, i⟩) ∧ w.grownBy (((((w4.setCell ⟨b, 1 + k, none⟩ (.bool true)).setCell ⟨b, 9 + k * 3, none⟩ (.int .i64 (k : Int))).setCell ⟨b, 9 + k * 3 + 1, none⟩ (.int .i64 s)).setCell ⟨b, 9 + k * 3 + 2, none⟩ (.int .i64 i)).drew) (some b) := by
     have h0 : TabAt w4 b self t := HT4.out
     refine ⟨h0.set hk ⟨s, i⟩, ?_⟩
     have g0 : w.grownBy w4 (some b) := gb_below (World.grownBy.refl w (some b)) HB4.out (Nat.le_refl _)
     exact gb_then (gb_then (gb_then (gb_then (gb_then g0 (gb_set _ b _ _) fun j hj => .inr hj) (gb_set _ b _ _) fun j hj => .inr hj) (gb_set _ b _ _) fun j hj => .inr hj) (gb_set _ b _ _) fun j hj => .inr hj) (gb_drew _ (some b)) fun j hj => .inr hj
    have HF := Lib.hid hfin
    have hnews : hearT t ⟨(k : Int), s, i⟩ = updT t k ⟨s, i⟩ := if_pos ⟨HMAY.out, hnw⟩
    have HNW := Lib.hid hnw
    have HNE := Lib.hid hnews
    clear hfin HT4 hnews hnw
    go_region_law (fail)
    all_goals (go_wp2_with fail; go_ret2; exact ⟨0, by rw [HNW.out]; rfl, fun _ => rfl, fun hh => absurd HMAY.out hh, by rw [HNE.out]; exact HF.out.1, HF.out.2⟩)
   ·have hz1 : z ≤ 0 := Int.not_lt.1 fun h => hb (hz.1 h)
    have hnw : newsT t ⟨(k : Int), s, i⟩ = false := by rw [hnt]; exact decide_eq_false hb
    clear hnt hz
    have HT3 := HT3
    have HNW := Lib.hid hnw
    clear hnw
    go_wp2_with fail
    go_quiet_grown (first | (go_at_call 104; refine Calls.grown_of (HCM.out _)))
    go_wp2_with fail
    go_ret2
    have hg4 : Grew w3 (grow (w3.drewN nq) osq) := ⟨nq, osq, rfl⟩
    have hb4 := hg4.below
    have e : hearT t ⟨(k : Int), s, i⟩ = t := if_neg fun hh => by rw [HNW.out] at hh; exact absurd hh.2 (by decide)
    exact ⟨0, by rw [HNW.out]; rfl, fun _ => rfl, fun hh => absurd HMAY.out hh, by rw [e]; exact HT3.out.keep (hb4.block b HT3.out.lt), gb_below (World.grownBy.refl w _) (HB3.out.trans (hb4.mono HB3.out.size)) (Nat.le_refl _)⟩
end Go.Proofs.YtejihgfigclppaaGreat
