/-
  The actuator as it lies in memory; New, track, Done, Recent walked; must and caught: what gives up, and what catches it.
  caught: what catches a fault; Recent, Done walked; what is asked ahead of a plan.
-/
import Derived.Test.YtjgbflclhkeibaaMActP
import Derived.Recover
import Derived.WalkLawsBesides
namespace Go.Proofs.Ytjgbflclhkeibaa
open Go.Shelf Go.RowKit Go.Lib Go.Sort
set_option linter.unusedVariables false
def ACfg.cells (c : ACfg) : Array Value := #[.int .i64 c.self, .int .i64 c.window, .int .i64 c.keep, .int .u64 c.salt]
def acells (c : ACfg) (vs : Nat → Value) (ts : Nat → Trk) : Array Value :=
  #[.int .i64 c.self, .int .i64 c.window, .int .i64 c.keep, .int .u64 c.salt,
    vs 0, .bool (ts 0).written, .int .i64 (ts 0).at', vs 1, .bool (ts 1).written, .int .i64 (ts 1).at', vs 2, .bool (ts 2).written, .int .i64 (ts 2).at', vs 3, .bool (ts 3).written, .int .i64 (ts 3).at',
    vs 4, .bool (ts 4).written, .int .i64 (ts 4).at', vs 5, .bool (ts 5).written, .int .i64 (ts 5).at', vs 6, .bool (ts 6).written, .int .i64 (ts 6).at', vs 7, .bool (ts 7).written, .int .i64 (ts 7).at']
theorem eight_cases {n : Nat} (hn : n < 8) : n = 0 ∨ n = 1 ∨ n = 2 ∨ n = 3 ∨ n = 4 ∨ n = 5 ∨ n = 6 ∨ n = 7 := by omega
theorem acells_wished (c : ACfg) (vs : Nat → Value) (ts : Nat → Trk) {n : Nat} (hn : n < 8) : (acells c vs ts)[4 + n * 3]? = some (vs n) := by
  rcases eight_cases hn with rfl | rfl | rfl | rfl | rfl | rfl | rfl | rfl <;> rfl
theorem acells_written (c : ACfg) (vs : Nat → Value) (ts : Nat → Trk) {n : Nat} (hn : n < 8) : (acells c vs ts)[4 + n * 3 + 1]? = some (.bool (ts n).written) := by
  rcases eight_cases hn with rfl | rfl | rfl | rfl | rfl | rfl | rfl | rfl <;> rfl
theorem acells_at (c : ACfg) (vs : Nat → Value) (ts : Nat → Trk) {n : Nat} (hn : n < 8) : (acells c vs ts)[4 + n * 3 + 2]? = some (.int .i64 (ts n).at') := by
  rcases eight_cases hn with rfl | rfl | rfl | rfl | rfl | rfl | rfl | rfl <;> rfl
def upd {α : Type} (f : Nat → α) (n : Nat) (x : α) : Nat → α := fun m => if m = n then x else f m
theorem upd_same {α : Type} (f : Nat → α) (n : Nat) (x : α) : upd f n x n = x := if_pos rfl
theorem upd_other {α : Type} (f : Nat → α) {n m : Nat} (x : α) (h : m ≠ n) : upd f n x m = f m := if_neg h
theorem upd_id {α : Type} (f : Nat → α) (n : Nat) : upd f n (f n) = f := by
  funext m; unfold upd; split
  · subst_vars; rfl
  · rfl
theorem acells_setW (c : ACfg) (vs : Nat → Value) (ts : Nat → Trk) {n : Nat} (hn : n < 8) (v : Value) (x : List Int) :
    (acells c vs ts).setIfInBounds (4 + n * 3) v = acells c (upd vs n v) (upd ts n ⟨x, (ts n).written, (ts n).at'⟩) := by
  rcases eight_cases hn with rfl | rfl | rfl | rfl | rfl | rfl | rfl | rfl <;> rfl
theorem acells_setD (c : ACfg) (vs : Nat → Value) (ts : Nat → Trk) {n : Nat} (hn : n < 8) (b : Bool) (x : Int) :
    ((acells c vs ts).setIfInBounds (4 + n * 3 + 1) (.bool b)).setIfInBounds (4 + n * 3 + 2) (.int .i64 x) = acells c vs (upd ts n ⟨(ts n).wished, b, x⟩) := by
  rcases eight_cases hn with rfl | rfl | rfl | rfl | rfl | rfl | rfl | rfl <;> rfl
/-- the actuator at block b: how it decides, and what was done with each workload -/
structure AObj (b : Nat) (W : World) (c : ACfg) (vs : Nat → Value) (ts : Nat → Trk) : Prop where
  heap : W.heap[b]? = some (.cells (acells c vs ts) 69)
  row : ∀ n, n < 8 → SlAt icells W (vs n) (ts n).wished ∧ (vs n).ownBlock ≠ some b ∧ (ts n).wished.length ≤ 16
theorem AObj.lt {b : Nat} {W : World} {c : ACfg} {vs : Nat → Value} {ts : Nat → Trk} (h : AObj b W c vs ts) : b < W.heap.size := (Array.getElem?_eq_some_iff.1 h.heap).1
theorem AObj.cell {b : Nat} {W : World} {c : ACfg} {vs : Nat → Value} {ts : Nat → Trk} (h : AObj b W c vs ts) (k : Nat) : W.cell? ⟨b, k, none⟩ = (acells c vs ts)[k]? := cell_of_row _ b k _ _ _ h.heap
theorem AObj.frozen {b : Nat} {W : World} {c : ACfg} {vs : Nat → Value} {ts : Nat → Trk} (h : AObj b W c vs ts) (k : Nat) : W.frozen? ⟨b, k, none⟩ = false := by simp [World.frozen?, h.heap]
theorem AObj.below {b : Nat} {W W' : World} {c : ACfg} {vs : Nat → Value} {ts : Nat → Trk} (h : AObj b W c vs ts) (hb : Below W.heap.size W W') : AObj b W' c vs ts :=
  ⟨(hb.block b h.lt).trans h.heap, fun n hn => ⟨(h.row n hn).1.below icells_len (by decide) hb (Nat.le_refl _), (h.row n hn).2⟩⟩
/-- of two worlds, in the second of which block b alone has turned, and more lies behind -/
theorem AObj.kept {b b2 : Nat} {W W' : World} {c : ACfg} {vs : Nat → Value} {ts : Nat → Trk} (h : AObj b W c vs ts) (hg : W.grownBy W' (some b2)) (h2 : b2 ≠ b) (h3 : ∀ n, n < 8 → (ts n).wished = [] ∨ (vs n).ownBlock ≠ some b2) : AObj b W' c vs ts :=
  ⟨(hg.block b h.lt (fun e => h2 (Option.some.inj e.symm))).trans h.heap, fun n hn => ⟨(h.row n hn).1.grown icells_len (by decide) hg (h3 n hn), (h.row n hn).2⟩⟩
theorem AObj.start {b : Nat} {W : World} (c : ACfg) (h : W.heap[b]? = some (.cells (acells c (fun _ => .slice none 0 0) (fun _ => Trk.none)) 69)) : AObj b W c (fun _ => .slice none 0 0) (fun _ => Trk.none) :=
  ⟨h, fun n _ => ⟨SlAt.nil _ _, by simp [Value.ownBlock], by simp [Trk.none]⟩⟩
theorem actWithin_eq (n lo hi : Int) (w : World) :
    Calls Try.prog 17 #[.int .i64 n, .int .i64 lo, .int .i64 hi] w fun e w' => e = .returned (.bool (within n lo hi == n)) ∧ w = w' := by
  go_enter Try.func17, Try.ntmps17
  go_wp2_with (go_at_call 31; refine (within_any _ _ _ _).mono ?_; rintro e w' ⟨rfl, rfl⟩)
  go_ret
  exact ⟨rfl, rfl⟩
theorem actWithin_any (n lo hi : Int) (hl : lo ≤ hi) (w : World) :
    Calls Try.prog 17 #[.int .i64 n, .int .i64 lo, .int .i64 hi] w fun e w' => e = .returned (.bool (inB n lo hi)) ∧ w = w' :=
  (actWithin_eq n lo hi w).mono fun e w' ⟨he, hw⟩ => ⟨by rw [he]; exact retB (by rw [Bool.eq_iff_iff]; unfold inB; rw [beq_iff_eq, decide_eq_true_iff]; exact within_eq n lo hi hl), hw⟩
theorem actNew_right (c : ACfg) (hc : c.right) (w : World) :
    Calls Try.prog 8 #[.agg #[.int .i64 c.self, .int .i64 c.window, .int .i64 c.keep, .int .u64 c.salt]] w fun e w' => ∃ b, e = .returned (.tuple #[.pointer (some ⟨b, 0, none⟩), .int .i64 0]) ∧ w.heap.size ≤ b ∧ AObj b w' c (fun _ => .slice none 0 0) (fun _ => Trk.none) ∧ Below w.heap.size w w' := by
  obtain ⟨h1, h2, h3, h4, h5, h6⟩ := hc
  have e1 := inB_yes (n := c.self) (lo := 0) (hi := 7) ⟨by omega, by omega⟩
  have e2 := inB_yes (n := c.window) (lo := 1) (hi := 16) ⟨by omega, by omega⟩
  have e3 := inB_yes (n := c.keep) (lo := 1) (hi := 16) ⟨by omega, by omega⟩
  clear h1 h2 h3 h4 h5 h6
  go_enter Try.func8, Try.ntmps8
  go_wp2_with (go_at_call 17; refine (actWithin_any _ _ _ (by omega) _).mono ?_; rintro e w' ⟨rfl, rfl⟩)
  go_ret2
  refine ⟨w.heap.size + 1, rfl, by omega, AObj.start c ?_, ?_⟩
  · have := heap_alloc_new (w.alloc (.cells #[.int .i64 c.self, .int .i64 c.window, .int .i64 c.keep, .int .u64 c.salt] 43)) (.cells (acells c (fun _ => .slice none 0 0) (fun _ => Trk.none)) 69)
    simp only [World.alloc, Array.size_push] at this ⊢
    exact this
  · exact ((Below.refl _ _).alloc (Nat.le_refl _) _).alloc (by simp) _
set_option maxHeartbeats 1000000 in
theorem actNew_wrong (c : ACfg) (hc : ¬ c.right) (w : World) :
    Calls Try.prog 8 #[.agg #[.int .i64 c.self, .int .i64 c.window, .int .i64 c.keep, .int .u64 c.salt]] w fun e w' => e = .returned (.tuple #[.pointer none, .int .i64 2]) ∧ Below w.heap.size w w' := by
  obtain ⟨x1, k1⟩ : ∃ x, inB c.self 0 7 = x := ⟨_, rfl⟩
  obtain ⟨x2, k2⟩ : ∃ x, inB c.window 1 16 = x := ⟨_, rfl⟩
  obtain ⟨x3, k3⟩ : ∃ x, inB c.keep 1 16 = x := ⟨_, rfl⟩
  have hall : ¬ (x1 = true ∧ x2 = true ∧ x3 = true) := by
    rintro ⟨rfl, rfl, rfl⟩
    have h1 := inB_true k1
    have h2 := inB_true k2
    have h3 := inB_true k3
    exact hc ⟨h1.1, h1.2, h2.1, h2.2, h3.1, h3.2⟩
  cases x1
  · clear hall
    go_enter Try.func8, Try.ntmps8
    go_wp2_with (go_at_call 17; refine (actWithin_any _ _ _ (by omega) _).mono ?_; rintro e w' ⟨rfl, rfl⟩)
    go_ret2
    exact ⟨rfl, (Below.refl _ _).alloc (Nat.le_refl _) _⟩
  cases x2
  · clear hall
    go_enter Try.func8, Try.ntmps8
    go_wp2_with (go_at_call 17; refine (actWithin_any _ _ _ (by omega) _).mono ?_; rintro e w' ⟨rfl, rfl⟩)
    go_ret2
    exact ⟨rfl, (Below.refl _ _).alloc (Nat.le_refl _) _⟩
  cases x3
  · clear hall
    go_enter Try.func8, Try.ntmps8
    go_wp2_with (go_at_call 17; refine (actWithin_any _ _ _ (by omega) _).mono ?_; rintro e w' ⟨rfl, rfl⟩)
    go_ret2
    exact ⟨rfl, (Below.refl _ _).alloc (Nat.le_refl _) _⟩
  exact absurd ⟨rfl, rfl, rfl⟩ hall
/-- a workload's track, if there is one -/
theorem track_in (b : Nat) (n : Nat) (hn : n < 8) (w : World) :
    Calls Try.prog 18 #[.pointer (some ⟨b, 0, none⟩), .int .i64 (n : Int)] w fun e w' => e = .returned (.tuple #[.pointer (some ⟨b, 4 + n * 3, none⟩), .int .i64 0]) ∧ w = w' := by
  have e1 := inB_yes (n := (n : Int)) (lo := 0) (hi := 7) ⟨by omega, by omega⟩
  have hz : (n : Int) < 8 := by omega
  go_enter Try.func18, Try.ntmps18
  go_wp2_with (go_at_call 17; refine (actWithin_any _ _ _ (by omega) _).mono ?_; rintro e w' ⟨rfl, rfl⟩)
  go_ret2
  exact ⟨rfl, rfl⟩
theorem track_out (b : Nat) (k : Int) (hk : ¬ (0 ≤ k ∧ k ≤ 7)) (w : World) :
    Calls Try.prog 18 #[.pointer (some ⟨b, 0, none⟩), .int .i64 k] w fun e w' => e = .returned (.tuple #[.pointer none, .int .i64 2]) ∧ w = w' := by
  have e1 := inB_no (n := k) (lo := 0) (hi := 7) hk
  go_enter Try.func18, Try.ntmps18
  go_wp2_with (go_at_call 17; refine (actWithin_any _ _ _ (by omega) _).mono ?_; rintro e w' ⟨rfl, rfl⟩)
  go_ret2
  exact ⟨rfl, rfl⟩
theorem track_nil (k : Int) (w : World) :
    Calls Try.prog 18 #[.pointer none, .int .i64 k] w fun e w' => e = .returned (.tuple #[.pointer none, .int .i64 1]) ∧ w = w' := by
  go_enter Try.func18, Try.ntmps18
  go_wp2_with fail
  go_ret2
  exact ⟨rfl, rfl⟩
theorem must_yes (n : Int) (w : World) : Calls Try.prog 32 #[.bool true, .int .i64 n] w fun e w' => e = .returned (.tuple #[]) ∧ w = w' := by
  go_enter Try.func32, Try.ntmps32
  go_wp2_with fail
  exact ⟨rfl, _, results_none rfl _ _ _, rfl, rfl⟩
theorem must_no (n : Int) (w : World) : Calls Try.prog 32 #[.bool false, .int .i64 n] w fun e w' => e = .panicked [{ v := .iface 88 (.agg #[.int .i64 n]), recovered := false }] ∧ w = w' := by
  go_enter Try.func32, Try.ntmps32
  go_wp2_with fail
  exact ⟨rfl, rfl, rfl⟩
end Go.Proofs.Ytjgbflclhkeibaa
namespace Go.Proofs.Ytjgbflclhkeibaa
open Go.Shelf Go.RowKit Go.Lib Go.Sort
set_option linter.unusedVariables false
theorem grown_setC {w w' : World} {b o : Nat} (h : w.grownBy w' (some b)) (v : Value) : w.grownBy (w'.setCell ⟨b, o, none⟩ v) (some b) :=
  ⟨h.os, h.tape, h.output, by simpa using h.size, fun k hk hne => (Below.heap_setCell _ _ _ k fun e => hne (by rw [e])).trans (h.block k hk hne)⟩
set_option maxRecDepth 100000 in
set_option maxHeartbeats 1000000 in
theorem caught_fault (b : Nat) (x n : Int) (older : List PanicEntry) (w : World) (hlt : b < w.heap.size) (hc : w.cell? ⟨b, 0, none⟩ = some (.int .i64 x)) (hz : w.frozen? ⟨b, 0, none⟩ = false) :
    CallsD Try.prog 19 #[.pointer (some ⟨b, 0, none⟩)] (.panicking ({ v := .iface 88 (.agg #[.int .i64 n]), recovered := false } :: older)) w fun e u' w' =>
      e = .returned (.tuple #[]) ∧ u' = .panicking ({ v := .iface 88 (.agg #[.int .i64 n]), recovered := true } :: older) ∧ w' = (w.alloc (.cells #[.int .i64 n] 88)).setCell ⟨b, 0, none⟩ (.int .i64 n) := by
  obtain ⟨p, hp⟩ : ∃ p : Addr, p = ⟨b, 0, none⟩ := ⟨_, rfl⟩
  have hz2 : (w.alloc (.cells #[.int .i64 n] 88)).frozen? ⟨b, 0, none⟩ = false := ((Below.refl w.heap.size w).alloc (Nat.le_refl _) _).frozen (p := ⟨b, 0, none⟩) hlt |>.trans hz
  have hc2 : (w.alloc (.cells #[.int .i64 n] 88)).cell? ⟨b, 0, none⟩ = some (.int .i64 x) := ((Below.refl w.heap.size w).alloc (Nat.le_refl _) _).cell (p := ⟨b, 0, none⟩) hlt |>.trans hc
  rw [← hp] at hz2 hc2 ⊢
  clear hp hc hz
  refine callsD_of_wpS Try.func19 rfl fun c₀ cs hu => ?_
  rw [show (#[Value.pointer (some p)] ++ Array.replicate (Try.f19.ntmps - #[Value.pointer (some p)].size) undef : Array Value) = #[.pointer (some p), undef, undef, undef, undef, undef, undef, undef, undef, undef, undef, undef, undef, undef, undef] from rfl]
  apply wpS_seq
  apply wpS_region
  simp [wpOpsS, go_sem, recoverD, hu, Exit.thenS]
  apply wpS_of_wp
  have hn1 : ∀ (v : Value) (W : World), (binOp .eql 20 (.iface 88 v) .nilIface).run Try.prog W = .ok (.bool false) W := fun _ _ => by first | rfl | kernel_rfl
  have hn2 : ∀ (W : World), (Instr.typeAssert (.iface 88 (.agg #[.int .i64 n])) 20 88 true).run Try.prog W = .ok (.tuple #[.agg #[.int .i64 n], .bool true]) W := fun _ => by first | rfl | kernel_rfl
  go_wp2_with fail
  cases c₀
  simp_all [bodyPostS, results, Try.results19]
theorem caught_idle (p : Addr) (w : World) :
    CallsD Try.prog 19 #[.pointer (some p)] .returning w fun e u' w' => e = .returned (.tuple #[]) ∧ u' = .returning ∧ w' = w := by
  refine callsD_of_wpS Try.func19 rfl fun c₀ cs hu => ?_
  rw [show (#[Value.pointer (some p)] ++ Array.replicate (Try.f19.ntmps - #[Value.pointer (some p)].size) undef : Array Value) = #[.pointer (some p), undef, undef, undef, undef, undef, undef, undef, undef, undef, undef, undef, undef, undef, undef] from rfl]
  apply wpS_seq
  apply wpS_region
  simp [wpOpsS, go_sem, recoverD, hu, Exit.thenS]
  apply wpS_of_wp
  go_wp2_with fail
  cases c₀
  simp_all [bodyPostS, results, Try.results19]
theorem recent_in (b : Nat) (c : ACfg) (vs : Nat → Value) (ts : Nat → Trk) (n : Nat) (hn : n < 8) (w : World) (h : AObj b w c vs ts) :
    Calls Try.prog 12 #[.pointer (some ⟨b, 0, none⟩), .int .i64 (n : Int)] w fun e w' => ∃ v', e = .returned v' ∧ Ints w.heap.size w' v' (ts n).wished ∧ Below w.heap.size w w' := by
  have ht := fun W => track_in b n hn W
  have HT := Lib.hid ht
  have h0 : w.cell? ⟨b, 4 + n * 3, none⟩ = some (vs n) := (h.cell _).trans (acells_wished c vs ts hn)
  obtain ⟨hr, _, hlen⟩ := h.row n hn
  obtain ⟨oa, cap, hv⟩ := slAt_slice hr
  rw [hv] at h0 hr
  have hcl := clone_any oa cap (ts n).wished w hr (by omega)
  have HC := Lib.hid hcl
  clear ht hcl h hr hv
  generalize (ts n).wished = l at *
  go_enter Try.func12, Try.ntmps12
  go_wp2_with fail
  refine (HT.out _).mono ?_
  rintro e w' ⟨rfl, rfl⟩
  go_wp2_with fail
  refine HC.out.mono ?_
  rintro e w1 ⟨v', rfl, ho, hb⟩
  have HO := Lib.hid ho
  have HB := Lib.hid hb
  clear ho hb
  go_wp2_with fail
  go_ret
  exact ⟨v', rfl, HO.out, HB.out⟩
theorem recent_out (b : Nat) (k : Int) (hk : ¬ (0 ≤ k ∧ k ≤ 7)) (w : World) :
    Calls Try.prog 12 #[.pointer (some ⟨b, 0, none⟩), .int .i64 k] w fun e w' => e = .returned (.slice none 0 0) ∧ w = w' := by
  have ht := fun W => track_out b k hk W
  have HT := Lib.hid ht
  clear ht
  go_enter Try.func12, Try.ntmps12
  go_wp2_with fail
  refine (HT.out _).mono ?_
  rintro e w' ⟨rfl, rfl⟩
  go_wp2_with fail
  go_ret
  exact ⟨rfl, rfl⟩
theorem AObj.turn {b n : Nat} {W W' : World} {c : ACfg} {vs : Nat → Value} {ts : Nat → Trk} {k : Nat} {v : Value} (h : AObj b W c vs ts) (hn : n < 8) : True := trivial
theorem done_in (b : Nat) (c : ACfg) (vs : Nat → Value) (ts : Nat → Trk) (n : Nat) (hn : n < 8) (tick : Int) (w : World) (h : AObj b w c vs ts) :
    Calls Try.prog 11 #[.pointer (some ⟨b, 0, none⟩), .int .i64 (n : Int), .int .i64 tick] w fun e w' => e = .returned (.int .i64 0) ∧ AObj b w' c vs (upd ts n ⟨(ts n).wished, true, tick⟩) ∧ w.grownBy w' (some b) := by
  have ht := fun W => track_in b n hn W
  have HT := Lib.hid ht
  have h1 : w.cell? ⟨b, 4 + n * 3 + 1, none⟩ = some (.bool (ts n).written) := (h.cell _).trans (acells_written c vs ts hn)
  have h2 : w.cell? ⟨b, 4 + n * 3 + 2, none⟩ = some (.int .i64 (ts n).at') := (h.cell _).trans (acells_at c vs ts hn)
  have f1 := h.frozen (4 + n * 3 + 1)
  have f2 := h.frozen (4 + n * 3 + 2)
  have HA := Lib.hid h
  clear ht h
  go_enter Try.func11, Try.ntmps11
  go_wp2_with fail
  refine (HT.out _).mono ?_
  rintro e w' ⟨rfl, rfl⟩
  go_wp2_with fail
  go_ret
  refine ⟨rfl, ⟨?_, fun m hm => ?_⟩, ?_⟩
  · rw [heap_setCell_same _ b _ _ _ _ _ (heap_setCell_same _ b _ _ _ _ _ HA.out.heap), acells_setD c vs ts hn]
  · have hr := HA.out.row m hm
    have e1 : (upd ts n ⟨(ts n).wished, true, tick⟩ m).wished = (ts m).wished := by
      unfold upd; split
      · subst_vars; rfl
      · rfl
    rw [e1]
    exact ⟨(hr.1.keep (.inr fun g hg => (Below.heap_setCell _ _ _ g fun e => hr.2.1 (by rw [hg, e])).trans (Below.heap_setCell _ _ _ g fun e => hr.2.1 (by rw [hg, e])))), hr.2⟩
  · exact grown_setC (grown_setC (World.grownBy.refl _ _) _) _
theorem done_out (b : Nat) (k tick : Int) (hk : ¬ (0 ≤ k ∧ k ≤ 7)) (w : World) :
    Calls Try.prog 11 #[.pointer (some ⟨b, 0, none⟩), .int .i64 k, .int .i64 tick] w fun e w' => e = .returned (.int .i64 2) ∧ w = w' := by
  have ht := fun W => track_out b k hk W
  have HT := Lib.hid ht
  clear ht
  go_enter Try.func11, Try.ntmps11
  go_wp2_with fail
  refine (HT.out _).mono ?_
  rintro e w' ⟨rfl, rfl⟩
  go_wp2_with fail
  go_ret
  exact ⟨rfl, rfl⟩
theorem done_nil (k tick : Int) (w : World) :
    Calls Try.prog 11 #[.pointer none, .int .i64 k, .int .i64 tick] w fun e w' => e = .returned (.int .i64 1) ∧ w = w' := by
  have ht := fun W => track_nil k W
  have HT := Lib.hid ht
  clear ht
  go_enter Try.func11, Try.ntmps11
  go_wp2_with fail
  refine (HT.out _).mono ?_
  rintro e w' ⟨rfl, rfl⟩
  go_wp2_with fail
  go_ret
  exact ⟨rfl, rfl⟩
end Go.Proofs.Ytjgbflclhkeibaa
