/-
  The table of what is known of nodes as it lies in memory; its methods walked, but for those that go over all words.
-/
import Derived.Test.YtejihgfigclppaaGreatMRd
import Derived.Test.YtejihgfigclppaaGreatMDraw
import Derived.Test.YtejihgfigclppaaGreatMCmp
import Derived.BigQuiet
import Derived.Deep.QuietTactic
namespace Go.Proofs.YtejihgfigclppaaGreat
open Go.Shelf Go.RowKit Go.Lib Go.Sort
set_option linter.unusedVariables false
set_option linter.unusedSimpArgs false
theorem Grew.drewK {w w1 : World} (h : Grew w w1) (n : Nat) : Grew w (w1.drewN n) := by
  obtain ⟨q, os, rfl⟩ := h
  exact ⟨q + n, os, by simp [grow, World.drewN, Nat.add_assoc]⟩
def knB (t : Tab) (i : Nat) : Value := .bool (t i).isSome
def wN (t : Tab) (i : Nat) : Value := .int .i64 (if (t i).isSome then (i : Int) else 0)
def wS (t : Tab) (i : Nat) : Value := .int .i64 ((t i).map (·.st)|>.getD 0)
def wI (t : Tab) (i : Nat) : Value := .int .i64 ((t i).map (·.inc)|>.getD 0)
def tcells (self : Int) (t : Tab) : Array Value :=
  #[.int .i64 self, knB t 0, knB t 1, knB t 2, knB t 3, knB t 4, knB t 5, knB t 6, knB t 7,
    wN t 0, wS t 0, wI t 0, wN t 1, wS t 1, wI t 1, wN t 2, wS t 2, wI t 2, wN t 3, wS t 3, wI t 3,
    wN t 4, wS t 4, wI t 4, wN t 5, wS t 5, wI t 5, wN t 6, wS t 6, wI t 6, wN t 7, wS t 7, wI t 7]
theorem eight {n : Nat} (hn : n < 8) : n = 0 ∨ n = 1 ∨ n = 2 ∨ n = 3 ∨ n = 4 ∨ n = 5 ∨ n = 6 ∨ n = 7 := by omega
theorem tcells_known (self : Int) (t : Tab) {n : Nat} (hn : n < 8) : (tcells self t)[1 + n]? = some (knB t n) := by
  rcases eight hn with rfl | rfl | rfl | rfl | rfl | rfl | rfl | rfl <;> rfl
theorem tcells_node (self : Int) (t : Tab) {n : Nat} (hn : n < 8) : (tcells self t)[9 + n * 3]? = some (wN t n) := by
  rcases eight hn with rfl | rfl | rfl | rfl | rfl | rfl | rfl | rfl <;> rfl
theorem tcells_st (self : Int) (t : Tab) {n : Nat} (hn : n < 8) : (tcells self t)[9 + n * 3 + 1]? = some (wS t n) := by
  rcases eight hn with rfl | rfl | rfl | rfl | rfl | rfl | rfl | rfl <;> rfl
theorem tcells_inc (self : Int) (t : Tab) {n : Nat} (hn : n < 8) : (tcells self t)[9 + n * 3 + 2]? = some (wI t n) := by
  rcases eight hn with rfl | rfl | rfl | rfl | rfl | rfl | rfl | rfl <;> rfl
theorem tcells_set (self : Int) (t : Tab) {n : Nat} (hn : n < 8) (w : Wd) :
    ((((tcells self t).setIfInBounds (1 + n) (.bool true)).setIfInBounds (9 + n * 3) (.int .i64 (n : Int))).setIfInBounds (9 + n * 3 + 1) (.int .i64 w.st)).setIfInBounds (9 + n * 3 + 2) (.int .i64 w.inc) = tcells self (updT t n w) := by
  rcases eight hn with rfl | rfl | rfl | rfl | rfl | rfl | rfl | rfl <;> rfl
/-- the table at block b -/
def TabAt (W : World) (b : Nat) (self : Int) (t : Tab) : Prop := W.heap[b]? = some (.cells (tcells self t) 135)
theorem TabAt.lt {W : World} {b : Nat} {self : Int} {t : Tab} (h : TabAt W b self t) : b < W.heap.size := (Array.getElem?_eq_some_iff.1 h).1
theorem TabAt.cell {W : World} {b : Nat} {self : Int} {t : Tab} (h : TabAt W b self t) (k : Nat) : W.cell? ⟨b, k, none⟩ = (tcells self t)[k]? := cell_of_row _ b k _ _ _ h
theorem TabAt.frozen {W : World} {b : Nat} {self : Int} {t : Tab} (h : TabAt W b self t) (k : Nat) : W.frozen? ⟨b, k, none⟩ = false := by simp [World.frozen?, show W.heap[b]? = _ from h]
theorem TabAt.keep {W W' : World} {b : Nat} {self : Int} {t : Tab} (h : TabAt W b self t) (hb : W'.heap[b]? = W.heap[b]?) : TabAt W' b self t := hb.trans h
theorem TabAt.set {W : World} {b : Nat} {self : Int} {t : Tab} (h : TabAt W b self t) {n : Nat} (hn : n < 8) (w : Wd) :
    TabAt ((((W.setCell ⟨b, 1 + n, none⟩ (.bool true)).setCell ⟨b, 9 + n * 3, none⟩ (.int .i64 (n : Int))).setCell ⟨b, 9 + n * 3 + 1, none⟩ (.int .i64 w.st)).setCell ⟨b, 9 + n * 3 + 2, none⟩ (.int .i64 w.inc)) b self (updT t n w) := by
  unfold TabAt at *
  rw [heap_setCell_same _ _ _ _ _ _ _ (heap_setCell_same _ _ _ _ _ _ _ (heap_setCell_same _ _ _ _ _ _ _ (heap_setCell_same _ _ _ _ _ _ _ h))), tcells_set self t hn]
theorem within_is (n lo hi : Int) (h : lo ≤ hi) (w : World) : ∃ v : Int, (v == n) = decide (lo ≤ n ∧ n ≤ hi) ∧ ∀ W, Calls Tryz.prog 62 #[.int .i64 n, .int .i64 lo, .int .i64 hi] W fun e w' => e = .returned (.int .i64 v) ∧ w' = W := by
  refine ⟨if hi < n then hi else if n < lo then lo else n, ?_, fun W => (withinS_any n lo hi W).mono fun e w' hh => ⟨hh.1, hh.2.symm⟩⟩
  by_cases h1 : hi < n
  · rw [if_pos h1, decide_eq_false (by omega)]
    exact beq_eq_false_iff_ne.2 (by omega)
  · rw [if_neg h1]
    by_cases h2 : n < lo
    · rw [if_pos h2, decide_eq_false (by omega)]
      exact beq_eq_false_iff_ne.2 (by omega)
    · rw [if_neg h2, decide_eq_true (by omega)]
      exact beq_self_eq_true n
set_option maxRecDepth 100000 in
set_option maxHeartbeats 4000000 in
theorem mayW_any (m : Mb) (w : World) : Calls Tryz.prog 103 #[.agg #[.int .i64 m.node, .int .i64 m.st, .int .i64 m.inc]] w fun e w' => e = .returned (.bool (decide m.may)) ∧ Grew w w' := by
  obtain ⟨n, s, i⟩ := m
  obtain ⟨v1, h1, c1⟩ := within_is n 0 7 (by omega) w
  obtain ⟨v2, h2, c2⟩ := within_is s 1 4 (by omega) w
  obtain ⟨v3, h3, c3⟩ := within_is i 0 1099511627776 (by omega) w
  have hall : decide (Mb.may ⟨n, s, i⟩) = (decide (0 ≤ n ∧ n ≤ 7) && (decide (1 ≤ s ∧ s ≤ 4) && decide (0 ≤ i ∧ i ≤ 1099511627776))) := by
    rw [Bool.eq_iff_iff]
    constructor
    · intro h
      obtain ⟨a, b, c, d, e, f⟩ : Mb.may ⟨n, s, i⟩ := of_decide_eq_true h
      rw [Bool.and_eq_true, Bool.and_eq_true, decide_eq_true_iff, decide_eq_true_iff, decide_eq_true_iff]
      exact ⟨⟨a, b⟩, ⟨c, d⟩, ⟨e, f⟩⟩
    · intro h
      rw [Bool.and_eq_true, Bool.and_eq_true, decide_eq_true_iff, decide_eq_true_iff, decide_eq_true_iff] at h
      obtain ⟨⟨a, b⟩, ⟨c, d⟩, ⟨e, f⟩⟩ := h
      exact decide_eq_true (show Mb.may ⟨n, s, i⟩ from ⟨a, b, c, d, e, f⟩)
  rw [hall]
  dsimp only
  generalize decide (0 ≤ n ∧ n ≤ 7) = b1 at *
  generalize decide (1 ≤ s ∧ s ≤ 4) = b2 at *
  generalize decide (0 ≤ i ∧ i ≤ 1099511627776) = b3 at *
  have C1 := Lib.hid c1
  have C2 := Lib.hid c2
  have C3 := Lib.hid c3
  clear c1 c2 c3 hall
  have hp : Tryz.prog.follows .mixedOrders = true := by kernel_rfl
  go_enter Tryz.func103, Tryz.ntmps103
  go_wp2_with fail
  cases b1 with
  | false =>
    go_quiet (first | (go_at_call_of 62 (Value.int .i64 n); refine Calls.quiet_of_same (C1.out _)))
    go_wp2_with fail
    go_ret
    exact ⟨rfl, ((Grew.refl _).alloc _).drewK _⟩
  | true =>
    cases b2 with
    | false =>
      go_quiet (first | (go_at_call_of 62 (Value.int .i64 n); refine Calls.quiet_of_same (C1.out _)) | (go_at_call_of 62 (Value.int .i64 s); refine Calls.quiet_of_same (C2.out _)))
      go_wp2_with fail
      go_ret
      exact ⟨rfl, ((Grew.refl _).alloc _).drewK _⟩
    | true =>
      go_quiet (first | (go_at_call_of 62 (Value.int .i64 n); refine Calls.quiet_of_same (C1.out _)) | (go_at_call_of 62 (Value.int .i64 s); refine Calls.quiet_of_same (C2.out _)) | (go_at_call_of 62 (Value.int .i64 i); refine Calls.quiet_of_same (C3.out _)))
      go_wp2_with fail
      go_ret
      exact ⟨rfl, ((Grew.refl _).alloc _).drewK _⟩
def cmpW (a b : Wd) : Int := if b.inc < a.inc then 1 else if a.inc < b.inc then -1 else if b.st < a.st then 1 else if a.st < b.st then -1 else 0
theorem cmpW_pos (a b : Wd) : 0 < cmpW a b ↔ a.beats b := by
  unfold cmpW Wd.beats
  split
  · simp [*]
  · split
    · constructor
      · intro h; omega
      · intro h; omega
    · split
      · constructor
        · intro h; omega
        · intro h; omega
      · split
        · constructor
          · intro h; omega
          · intro h; omega
        · constructor
          · intro h; omega
          · intro h; omega
set_option maxHeartbeats 2000000 in
/-- how two words on one node compare -/
theorem compareW_any (n k : Int) (a b : Wd) (w : World) : Calls Tryz.prog 104 #[.agg #[.int .i64 n, .int .i64 a.st, .int .i64 a.inc], .agg #[.int .i64 k, .int .i64 b.st, .int .i64 b.inc]] w fun e w' => e = .returned (.int .i64 (cmpW a b)) ∧ Grew w w' := by
  obtain ⟨s, i⟩ := a
  obtain ⟨s', i'⟩ := b
  obtain ⟨z, hz⟩ : ∃ z, cmpW ⟨s, i⟩ ⟨s', i'⟩ = z := ⟨_, rfl⟩
  rw [hz]
  unfold cmpW at hz
  dsimp only at *
  have hg : Hid (Grew w ((w.alloc (.cells #[.int .i64 n, .int .i64 s, .int .i64 i] 132)).alloc (.cells #[.int .i64 k, .int .i64 s', .int .i64 i'] 132))) := ((Grew.refl _).alloc _).alloc _
  by_cases h1 : i' < i
  · rw [if_pos h1] at hz
    subst hz
    go_enter Tryz.func104, Tryz.ntmps104
    go_wp2_with fail
    go_ret
    exact ⟨rfl, hg.out⟩
  · rw [if_neg h1] at hz
    by_cases h2 : i < i'
    · rw [if_pos h2] at hz
      subst hz
      go_enter Tryz.func104, Tryz.ntmps104
      go_wp2_with fail
      go_ret
      exact ⟨rfl, hg.out⟩
    · rw [if_neg h2] at hz
      by_cases h3 : s' < s
      · rw [if_pos h3] at hz
        subst hz
        go_enter Tryz.func104, Tryz.ntmps104
        go_wp2_with fail
        go_ret
        exact ⟨rfl, hg.out⟩
      · rw [if_neg h3] at hz
        by_cases h4 : s < s'
        · rw [if_pos h4] at hz
          subst hz
          go_enter Tryz.func104, Tryz.ntmps104
          go_wp2_with fail
          go_ret
          exact ⟨rfl, hg.out⟩
        · rw [if_neg h4] at hz
          subst hz
          go_enter Tryz.func104, Tryz.ntmps104
          go_wp2_with fail
          go_ret
          exact ⟨rfl, hg.out⟩
end Go.Proofs.YtejihgfigclppaaGreat
