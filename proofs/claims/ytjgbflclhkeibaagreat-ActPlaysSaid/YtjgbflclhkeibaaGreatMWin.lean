/-
  policy.Winner: the policy and the dot of the latest Set of a workload, if there is one.
  Plain facts on plans: what is asked ahead of one, and what comes out. No function of the program is entered.
  The actuator as it lies in memory; New, track, Done, Recent walked; must and caught: what gives up, and what catches it.
-/
import Derived.Test.YtjgbflclhkeibaaGreatMAcc
import Derived.BigQuiet
import Derived.StillTailTactics
import Derived.Test.YtjgbflclhkeibaaGreatMIntRow
import Derived.Test.YtjgbflclhkeibaaGreatMRefOrder
import Derived.Test.YtjgbflclhkeibaaGreatMean
import Derived.Recover
import Derived.WalkLawsBesides
namespace Go.Proofs.YtjgbflclhkeibaaGreat
open Go.Shelf Go.RowKit Go.Lib Go.Sort
set_option linter.unusedVariables false

theorem swo_evLater : SWO evLater where
  irrefl x := by rw [evLater_false]; omega
  trans x y z h1 h2 := by rw [evLater_iff] at *; omega
  ntrans x y z h1 h2 := by rw [evLater_false] at *; omega

def winV : List Ev → Value
  | [] => .tuple #[.agg #[.int .i64 0, .int .i64 0, .int .i64 0, .int .i64 0, .int .i64 0, .int .i64 0, .int .i64 0], .agg #[.int .i64 0, .int .i64 0], .bool false]
  | e :: _ => .tuple #[.agg #[.int .i64 e.pol.mn, .int .i64 e.pol.mx, .int .i64 e.pol.goal, .int .i64 e.pol.slack, .int .i64 e.pol.up, .int .i64 e.pol.down, .int .i64 e.pol.cool], .agg #[.int .i64 e.dot.node, .int .i64 e.dot.seq], .bool true]
def WinPost (ps : List PEv) (work : Int) (w : World) (e : Ending) (w' : World) : Prop :=
  ∃ l, stableOf evLater ((ps.map (·.2)).filter (isSet work)) l ∧ e = .returned (winV l) ∧ Below w.heap.size w w'

set_option maxHeartbeats 4000000 in
theorem winner_any (oa : Option Addr) (cap : Nat) (ps : List PEv) (work : Int) (w : World) (h : EvsAt w (.slice oa ps.length cap) ps) (hl : ps.length ≤ 1000000) (hr : ∀ p ∈ ps, p.2.rem.length ≤ 1000000) :
    Calls Tryz.prog 41 #[.slice oa ps.length cap, .int .i64 work] w (WinPost ps work w) := by
  have hs := fun (W : World) (hE : EvsAt W (.slice oa ps.length cap) ps) => sets_any oa cap ps work W hE hl hr
  have HS := Lib.hid hs
  have HE := Lib.hid h
  clear hs h hr
  go_enter Tryz.func41, Tryz.ntmps41
  go_wp2_with fail
  refine (HS.out _ (HE.out.below (((Below.refl _ _).alloc (Nat.le_refl _) _).alloc (by simp) _) (Nat.le_refl _))).mono ?_
  rintro e w1 ⟨v, qs, rfl, hst, hacc, hb⟩
  obtain ⟨hcell, hfr⟩ := bcell hb
  have hz : w.heap.size + 1 < w1.heap.size := by have := hb.size; simp at this; omega
  have HST := Lib.hid hst
  have HACC := Lib.hid hacc
  have HB := Lib.hid hb
  obtain ⟨ov, cv, rfl⟩ := slAt_slice hacc.row.at
  clear hst hb
  cases qs with
  | nil =>
    clear hacc
    go_wp2_with fail
    refine bodyPost_ret (v := winV []) (by simp [results, Tryz.results41, go_sem, winV, cell_set, hcell]) rfl ⟨[], HST.out, rfl, ?_⟩
    have hb1 : RowKit.Below w.heap.size w w1 := (((RowKit.Below.refl _ _).alloc (Nat.le_refl _) _).alloc (by simp) _).trans (HB.out.mono (by simp; omega))
    clear hcell hfr
    go_grown
  | cons q qs =>
    have hsl := hacc.evs.1
    obtain ⟨b, off, rfl⟩ := slAt_some hsl 0 (by simp)
    obtain ⟨ra, rn, rc, ev, hp, c0, c1, c2, c3, c4, c5, c6, c7, c8, c9, c10, c11, c12, c13⟩ := hsl.ev 0 (by simp)
    have hbs : w.heap.size + 2 ≤ b := by
      have := (hacc.row.lt b rfl).1
      simpa using this
    have HP := Lib.hid hp
    have len0 : (((q :: qs).length : Int) == 0) = false := by simp; omega
    clear hp hsl hacc
    simp only [Nat.zero_mul, Nat.add_zero] at c0 c1 c2 c3 c4 c5 c6 c7 c8 c9 c10 c11 c12 c13
    go_wp2_with fail
    go_region
    all_goals
      go_wp2_with fail
      refine bodyPost_ret (v := winV ((q :: qs).map (·.2))) ?_ rfl ⟨_, HST.out, rfl, ?_⟩
      · have e : q = (⟨ra, rn, rc⟩, ev) := by have := HP.out; simpa using this
        subst e
        simp [results, Tryz.results41, go_sem, winV, cell_set, hcell]
      · have hb1 : RowKit.Below w.heap.size w w1 := (((RowKit.Below.refl _ _).alloc (Nat.le_refl _) _).alloc (by simp) _).trans (HB.out.mono (by simp; omega))
        clear hcell hfr
        go_grown
end Go.Proofs.YtjgbflclhkeibaaGreat
namespace Go.Proofs.YtjgbflclhkeibaaGreat
open Go.Sort
set_option linter.unusedVariables false
structure ACfg where
  self : Int
  window : Int
  keep : Int
  salt : Int
structure Trk where
  wished : List Int
  written : Bool
  at' : Int
def Trk.none : Trk := ⟨[], false, 0⟩
def ACfg.right (c : ACfg) : Prop := 0 ≤ c.self ∧ c.self ≤ 7 ∧ 1 ≤ c.window ∧ c.window ≤ 16 ∧ 1 ≤ c.keep ∧ c.keep ≤ 16
instance (c : ACfg) : Decidable c.right := by unfold ACfg.right; infer_instance
def lastN (k : Nat) (l : List Int) : List Int := l.drop (l.length - k)
theorem lastN_len (k : Nat) (l : List Int) : (lastN k l).length ≤ k := by unfold lastN; rw [List.length_drop]; omega
theorem lastN_snoc (k : Nat) (l : List Int) (x : Int) (hk : 1 ≤ k) : lastN k (lastN k l ++ [x]) = lastN k (l ++ [x]) := by
  unfold lastN
  simp only [List.length_append, List.length_drop, List.length_cons, List.length_nil]
  by_cases h : l.length ≤ k
  · rw [show l.length - k = 0 by omega, List.drop_zero]
    congr 1
  · rw [List.drop_append_of_le_length (by rw [List.length_drop]; omega), List.drop_append_of_le_length (by omega), List.drop_drop]
    congr 2
    omega
/-- the policy of a workload that counts, if there is one -/
def setsOf (evs : List Ev) (work : Int) : List Ev := stSort evLater (evs.filter (isSet work))
def tooEarly (t : Trk) (p : Pol) (tick : Int) : Prop := t.written = true ∧ satSub tick p.cool < t.at'
instance (t : Trk) (p : Pol) (tick : Int) : Decidable (tooEarly t p tick) := by unfold tooEarly; infer_instance
def wishI (c : ACfg) (p : Pol) (evs : List Ev) (work now : Int) : Int := stepI p (loadN evs work c.window 8).1 now
def decideI (c : ACfg) (t : Trk) (p : Pol) (evs : List Ev) (work now : Int) : (Int × Int) × Trk :=
  if stableI t.wished (wishI c p evs work now) now = now then ((0, 15), ⟨lastN c.keep.toNat (t.wished ++ [wishI c p evs work now]), t.written, t.at'⟩)
  else ((stableI t.wished (wishI c p evs work now) now, 0), ⟨lastN c.keep.toNat (t.wished ++ [wishI c p evs work now]), t.written, t.at'⟩)
def knowI (c : ACfg) (t : Trk) (evs : List Ev) (work now tick : Int) : List Ev → (Int × Int) × Trk
  | [] => ((0, 8), t)
  | e :: _ => if e.pol.right ∧ (loadN evs work c.window 8).2 ≠ 0 then if tooEarly t e.pol tick then ((0, 14), t) else decideI c t e.pol evs work now else ((0, 8), t)
def planI (c : ACfg) (t : Trk) (evs : List Ev) (live : List Int) (work now tick : Int) : (Int × Int) × Trk :=
  if 0 ≤ now ∧ now ≤ 1000 then if own (rk live work c.salt) = (c.self, 0) then knowI c t evs work now tick (setsOf evs work) else ((0, 12), t) else ((0, 2), t)
end Go.Proofs.YtjgbflclhkeibaaGreat
namespace Go.Proofs.YtjgbflclhkeibaaGreat
open Go.Shelf Go.RowKit Go.Lib Go.Sort
set_option linter.unusedVariables false
def ACfg.cells (c : ACfg) : Array Value := #[.int .i64 c.self, .int .i64 c.window, .int .i64 c.keep, .int .u64 c.salt]
def acells (c : ACfg) (vs : Nat → Value) (ts : Nat → Trk) : Array Value :=
  #[.int .i64 c.self, .int .i64 c.window, .int .i64 c.keep, .int .u64 c.salt,
    vs 0, .bool (ts 0).written, .int .i64 (ts 0).at', vs 1, .bool (ts 1).written, .int .i64 (ts 1).at', vs 2, .bool (ts 2).written, .int .i64 (ts 2).at', vs 3, .bool (ts 3).written, .int .i64 (ts 3).at',
    vs 4, .bool (ts 4).written, .int .i64 (ts 4).at', vs 5, .bool (ts 5).written, .int .i64 (ts 5).at', vs 6, .bool (ts 6).written, .int .i64 (ts 6).at', vs 7, .bool (ts 7).written, .int .i64 (ts 7).at']
theorem eight_cases {n : Nat} (hn : n < 8) : n = 0 ∨ n = 1 ∨ n = 2 ∨ n = 3 ∨ n = 4 ∨ n = 5 ∨ n = 6 ∨ n = 7 := by omega
theorem acells_wished (c : ACfg) (vs : Nat → Value) (ts : Nat → Trk) {n : Nat} (hn : n < 8) : (acells c vs ts)[4 + n * 3]? = some (vs n) := by
  rcases eight_cases hn with rfl | rfl | rfl | rfl | rfl | rfl | rfl | rfl <;> rfl
theorem acells_written (c : ACfg) (vs : Nat → Value) (ts : Nat → Trk) {n : Nat} (hn : n < 8) : (acells c vs ts)[4 + n * 3 + 1]? = some (.bool (ts n).written) := by
  rcases eight_cases hn with rfl | rfl | rfl | rfl | rfl | rfl | rfl | rfl <;> rfl
theorem acells_at (c : ACfg) (vs : Nat → Value) (ts : Nat → Trk) {n : Nat} (hn : n < 8) : (acells c vs ts)[4 + n * 3 + 2]? = some (.int .i64 (ts n).at') := by
  rcases eight_cases hn with rfl | rfl | rfl | rfl | rfl | rfl | rfl | rfl <;> rfl
def upd {α : Type} (f : Nat → α) (n : Nat) (x : α) : Nat → α := fun m => if m = n then x else f m
theorem upd_same {α : Type} (f : Nat → α) (n : Nat) (x : α) : upd f n x n = x := if_pos rfl
theorem upd_other {α : Type} (f : Nat → α) {n m : Nat} (x : α) (h : m ≠ n) : upd f n x m = f m := if_neg h
theorem upd_id {α : Type} (f : Nat → α) (n : Nat) : upd f n (f n) = f := by
  funext m; unfold upd; split
  · subst_vars; rfl
  · rfl
theorem acells_setW (c : ACfg) (vs : Nat → Value) (ts : Nat → Trk) {n : Nat} (hn : n < 8) (v : Value) (x : List Int) :
    (acells c vs ts).setIfInBounds (4 + n * 3) v = acells c (upd vs n v) (upd ts n ⟨x, (ts n).written, (ts n).at'⟩) := by
  rcases eight_cases hn with rfl | rfl | rfl | rfl | rfl | rfl | rfl | rfl <;> rfl
theorem acells_setD (c : ACfg) (vs : Nat → Value) (ts : Nat → Trk) {n : Nat} (hn : n < 8) (b : Bool) (x : Int) :
    ((acells c vs ts).setIfInBounds (4 + n * 3 + 1) (.bool b)).setIfInBounds (4 + n * 3 + 2) (.int .i64 x) = acells c vs (upd ts n ⟨(ts n).wished, b, x⟩) := by
  rcases eight_cases hn with rfl | rfl | rfl | rfl | rfl | rfl | rfl | rfl <;> rfl
/-- the actuator at block b: how it decides, and what was done with each workload -/
structure AObj (b : Nat) (W : World) (c : ACfg) (vs : Nat → Value) (ts : Nat → Trk) : Prop where
  heap : W.heap[b]? = some (.cells (acells c vs ts) 60)
  row : ∀ n, n < 8 → SlAt icells W (vs n) (ts n).wished ∧ (vs n).ownBlock ≠ some b ∧ (ts n).wished.length ≤ 16
theorem AObj.lt {b : Nat} {W : World} {c : ACfg} {vs : Nat → Value} {ts : Nat → Trk} (h : AObj b W c vs ts) : b < W.heap.size := (Array.getElem?_eq_some_iff.1 h.heap).1
theorem AObj.cell {b : Nat} {W : World} {c : ACfg} {vs : Nat → Value} {ts : Nat → Trk} (h : AObj b W c vs ts) (k : Nat) : W.cell? ⟨b, k, none⟩ = (acells c vs ts)[k]? := cell_of_row _ b k _ _ _ h.heap
theorem AObj.frozen {b : Nat} {W : World} {c : ACfg} {vs : Nat → Value} {ts : Nat → Trk} (h : AObj b W c vs ts) (k : Nat) : W.frozen? ⟨b, k, none⟩ = false := by simp [World.frozen?, h.heap]
theorem AObj.below {b : Nat} {W W' : World} {c : ACfg} {vs : Nat → Value} {ts : Nat → Trk} (h : AObj b W c vs ts) (hb : Below W.heap.size W W') : AObj b W' c vs ts :=
  ⟨(hb.block b h.lt).trans h.heap, fun n hn => ⟨(h.row n hn).1.below icells_len (by decide) hb (Nat.le_refl _), (h.row n hn).2⟩⟩
/-- of two worlds, in the second of which block b alone has turned, and more lies behind -/
theorem AObj.kept {b b2 : Nat} {W W' : World} {c : ACfg} {vs : Nat → Value} {ts : Nat → Trk} (h : AObj b W c vs ts) (hg : W.grownBy W' (some b2)) (h2 : b2 ≠ b) (h3 : ∀ n, n < 8 → (ts n).wished = [] ∨ (vs n).ownBlock ≠ some b2) : AObj b W' c vs ts :=
  ⟨(hg.block b h.lt (fun e => h2 (Option.some.inj e.symm))).trans h.heap, fun n hn => ⟨(h.row n hn).1.grown icells_len (by decide) hg (h3 n hn), (h.row n hn).2⟩⟩
theorem AObj.start {b : Nat} {W : World} (c : ACfg) (h : W.heap[b]? = some (.cells (acells c (fun _ => .slice none 0 0) (fun _ => Trk.none)) 60)) : AObj b W c (fun _ => .slice none 0 0) (fun _ => Trk.none) :=
  ⟨h, fun n _ => ⟨SlAt.nil _ _, by simp [Value.ownBlock], by simp [Trk.none]⟩⟩
theorem actWithin_eq (n lo hi : Int) (w : World) :
    Calls Tryz.prog 19 #[.int .i64 n, .int .i64 lo, .int .i64 hi] w fun e w' => e = .returned (.bool (within n lo hi == n)) ∧ w = w' := by
  go_enter Tryz.func19, Tryz.ntmps19
  go_wp2_with (go_at_call 38; refine (within_any _ _ _ _).mono ?_; rintro e w' ⟨rfl, rfl⟩)
  go_ret
  exact ⟨rfl, rfl⟩
theorem actWithin_any (n lo hi : Int) (hl : lo ≤ hi) (w : World) :
    Calls Tryz.prog 19 #[.int .i64 n, .int .i64 lo, .int .i64 hi] w fun e w' => e = .returned (.bool (inB n lo hi)) ∧ w = w' :=
  (actWithin_eq n lo hi w).mono fun e w' ⟨he, hw⟩ => ⟨by rw [he]; exact retB (by rw [Bool.eq_iff_iff]; unfold inB; rw [beq_iff_eq, decide_eq_true_iff]; exact within_eq n lo hi hl), hw⟩
theorem actNew_right (c : ACfg) (hc : c.right) (w : World) :
    Calls Tryz.prog 6 #[.agg #[.int .i64 c.self, .int .i64 c.window, .int .i64 c.keep, .int .u64 c.salt]] w fun e w' => ∃ b, e = .returned (.tuple #[.pointer (some ⟨b, 0, none⟩), .int .i64 0]) ∧ w.heap.size ≤ b ∧ AObj b w' c (fun _ => .slice none 0 0) (fun _ => Trk.none) ∧ Below w.heap.size w w' := by
  obtain ⟨h1, h2, h3, h4, h5, h6⟩ := hc
  have e1 := inB_yes (n := c.self) (lo := 0) (hi := 7) ⟨by omega, by omega⟩
  have e2 := inB_yes (n := c.window) (lo := 1) (hi := 16) ⟨by omega, by omega⟩
  have e3 := inB_yes (n := c.keep) (lo := 1) (hi := 16) ⟨by omega, by omega⟩
  clear h1 h2 h3 h4 h5 h6
  go_enter Tryz.func6, Tryz.ntmps6
  go_wp2_with (go_at_call 19; refine (actWithin_any _ _ _ (by omega) _).mono ?_; rintro e w' ⟨rfl, rfl⟩)
  go_ret2
  refine ⟨w.heap.size + 1, rfl, by omega, AObj.start c ?_, ?_⟩
  · have := heap_alloc_new (w.alloc (.cells #[.int .i64 c.self, .int .i64 c.window, .int .i64 c.keep, .int .u64 c.salt] 32)) (.cells (acells c (fun _ => .slice none 0 0) (fun _ => Trk.none)) 60)
    simp only [World.alloc, Array.size_push] at this ⊢
    exact this
  · exact ((Below.refl _ _).alloc (Nat.le_refl _) _).alloc (by simp) _
set_option maxHeartbeats 1000000 in
theorem actNew_wrong (c : ACfg) (hc : ¬ c.right) (w : World) :
    Calls Tryz.prog 6 #[.agg #[.int .i64 c.self, .int .i64 c.window, .int .i64 c.keep, .int .u64 c.salt]] w fun e w' => e = .returned (.tuple #[.pointer none, .int .i64 2]) ∧ Below w.heap.size w w' := by
  obtain ⟨x1, k1⟩ : ∃ x, inB c.self 0 7 = x := ⟨_, rfl⟩
  obtain ⟨x2, k2⟩ : ∃ x, inB c.window 1 16 = x := ⟨_, rfl⟩
  obtain ⟨x3, k3⟩ : ∃ x, inB c.keep 1 16 = x := ⟨_, rfl⟩
  have hall : ¬ (x1 = true ∧ x2 = true ∧ x3 = true) := by
    rintro ⟨rfl, rfl, rfl⟩
    have h1 := inB_true k1
    have h2 := inB_true k2
    have h3 := inB_true k3
    exact hc ⟨h1.1, h1.2, h2.1, h2.2, h3.1, h3.2⟩
  cases x1
  · clear hall
    go_enter Tryz.func6, Tryz.ntmps6
    go_wp2_with (go_at_call 19; refine (actWithin_any _ _ _ (by omega) _).mono ?_; rintro e w' ⟨rfl, rfl⟩)
    go_ret2
    exact ⟨rfl, (Below.refl _ _).alloc (Nat.le_refl _) _⟩
  cases x2
  · clear hall
    go_enter Tryz.func6, Tryz.ntmps6
    go_wp2_with (go_at_call 19; refine (actWithin_any _ _ _ (by omega) _).mono ?_; rintro e w' ⟨rfl, rfl⟩)
    go_ret2
    exact ⟨rfl, (Below.refl _ _).alloc (Nat.le_refl _) _⟩
  cases x3
  · clear hall
    go_enter Tryz.func6, Tryz.ntmps6
    go_wp2_with (go_at_call 19; refine (actWithin_any _ _ _ (by omega) _).mono ?_; rintro e w' ⟨rfl, rfl⟩)
    go_ret2
    exact ⟨rfl, (Below.refl _ _).alloc (Nat.le_refl _) _⟩
  exact absurd ⟨rfl, rfl, rfl⟩ hall
/-- a workload's track, if there is one -/
theorem track_in (b : Nat) (n : Nat) (hn : n < 8) (w : World) :
    Calls Tryz.prog 21 #[.pointer (some ⟨b, 0, none⟩), .int .i64 (n : Int)] w fun e w' => e = .returned (.tuple #[.pointer (some ⟨b, 4 + n * 3, none⟩), .int .i64 0]) ∧ w = w' := by
  have e1 := inB_yes (n := (n : Int)) (lo := 0) (hi := 7) ⟨by omega, by omega⟩
  have hz : (n : Int) < 8 := by omega
  go_enter Tryz.func21, Tryz.ntmps21
  go_wp2_with (go_at_call 19; refine (actWithin_any _ _ _ (by omega) _).mono ?_; rintro e w' ⟨rfl, rfl⟩)
  go_ret2
  exact ⟨rfl, rfl⟩
theorem track_out (b : Nat) (k : Int) (hk : ¬ (0 ≤ k ∧ k ≤ 7)) (w : World) :
    Calls Tryz.prog 21 #[.pointer (some ⟨b, 0, none⟩), .int .i64 k] w fun e w' => e = .returned (.tuple #[.pointer none, .int .i64 2]) ∧ w = w' := by
  have e1 := inB_no (n := k) (lo := 0) (hi := 7) hk
  go_enter Tryz.func21, Tryz.ntmps21
  go_wp2_with (go_at_call 19; refine (actWithin_any _ _ _ (by omega) _).mono ?_; rintro e w' ⟨rfl, rfl⟩)
  go_ret2
  exact ⟨rfl, rfl⟩
theorem track_nil (k : Int) (w : World) :
    Calls Tryz.prog 21 #[.pointer none, .int .i64 k] w fun e w' => e = .returned (.tuple #[.pointer none, .int .i64 1]) ∧ w = w' := by
  go_enter Tryz.func21, Tryz.ntmps21
  go_wp2_with fail
  go_ret2
  exact ⟨rfl, rfl⟩
theorem must_yes (n : Int) (w : World) : Calls Tryz.prog 39 #[.bool true, .int .i64 n] w fun e w' => e = .returned (.tuple #[]) ∧ w = w' := by
  go_enter Tryz.func39, Tryz.ntmps39
  go_wp2_with fail
  exact ⟨rfl, _, results_none rfl _ _ _, rfl, rfl⟩
theorem must_no (n : Int) (w : World) : Calls Tryz.prog 39 #[.bool false, .int .i64 n] w fun e w' => e = .panicked [{ v := .iface 95 (.agg #[.int .i64 n]), recovered := false }] ∧ w = w' := by
  go_enter Tryz.func39, Tryz.ntmps39
  go_wp2_with fail
  exact ⟨rfl, rfl, rfl⟩
end Go.Proofs.YtjgbflclhkeibaaGreat
