/-
  The reference's actuator as it lies in memory; New, Right, Recent, Done walked.
  caught: what catches a fault; Recent, Done walked; what is asked ahead of a plan.
-/
import Derived.Test.YtjgbflclhkeibaaGreatMWin
import Derived.BigRegion
namespace Go.Proofs.YtjgbflclhkeibaaGreat
open Go.Shelf Go.RowKit Go.Lib Go.Sort
set_option linter.unusedVariables false
def rcells (c : ACfg) (vs : Nat → Value) (ts : Nat → Trk) : Array Value :=
  #[.int .i64 c.self, .int .i64 c.window, .int .i64 c.keep, .int .u64 c.salt,
    vs 0, vs 1, vs 2, vs 3, vs 4, vs 5, vs 6, vs 7,
    .bool (ts 0).written, .bool (ts 1).written, .bool (ts 2).written, .bool (ts 3).written, .bool (ts 4).written, .bool (ts 5).written, .bool (ts 6).written, .bool (ts 7).written,
    .int .i64 (ts 0).at', .int .i64 (ts 1).at', .int .i64 (ts 2).at', .int .i64 (ts 3).at', .int .i64 (ts 4).at', .int .i64 (ts 5).at', .int .i64 (ts 6).at', .int .i64 (ts 7).at']
theorem rcells_wished (c : ACfg) (vs : Nat → Value) (ts : Nat → Trk) {n : Nat} (hn : n < 8) : (rcells c vs ts)[4 + n]? = some (vs n) := by
  rcases eight_cases hn with rfl | rfl | rfl | rfl | rfl | rfl | rfl | rfl <;> rfl
theorem rcells_written (c : ACfg) (vs : Nat → Value) (ts : Nat → Trk) {n : Nat} (hn : n < 8) : (rcells c vs ts)[12 + n]? = some (.bool (ts n).written) := by
  rcases eight_cases hn with rfl | rfl | rfl | rfl | rfl | rfl | rfl | rfl <;> rfl
theorem rcells_at (c : ACfg) (vs : Nat → Value) (ts : Nat → Trk) {n : Nat} (hn : n < 8) : (rcells c vs ts)[20 + n]? = some (.int .i64 (ts n).at') := by
  rcases eight_cases hn with rfl | rfl | rfl | rfl | rfl | rfl | rfl | rfl <;> rfl
theorem rcells_setW (c : ACfg) (vs : Nat → Value) (ts : Nat → Trk) {n : Nat} (hn : n < 8) (v : Value) (x : List Int) :
    (rcells c vs ts).setIfInBounds (4 + n) v = rcells c (upd vs n v) (upd ts n ⟨x, (ts n).written, (ts n).at'⟩) := by
  rcases eight_cases hn with rfl | rfl | rfl | rfl | rfl | rfl | rfl | rfl <;> rfl
theorem rcells_setD (c : ACfg) (vs : Nat → Value) (ts : Nat → Trk) {n : Nat} (hn : n < 8) (b : Bool) (x : Int) :
    ((rcells c vs ts).setIfInBounds (12 + n) (.bool b)).setIfInBounds (20 + n) (.int .i64 x) = rcells c vs (upd ts n ⟨(ts n).wished, b, x⟩) := by
  rcases eight_cases hn with rfl | rfl | rfl | rfl | rfl | rfl | rfl | rfl <;> rfl
/-- the reference's actuator at block b, its rows from block B on: how it decides, and all that was done with each workload -/
structure RObj (b B : Nat) (W : World) (c : ACfg) (vs : Nat → Value) (ts : Nat → Trk) : Prop where
  heap : W.heap[b]? = some (.cells (rcells c vs ts) 66)
  bB : b < B
  row : ∀ n, n < 8 → Owns icells 1 B 3 W (vs n) (ts n).wished ∧ ((ts n).wished = [] → vs n = .slice none 0 0)
  apart : ∀ m n, m < 8 → n < 8 → m ≠ n → ∀ k, (vs m).ownBlock = some k → (vs n).ownBlock ≠ some k
section
variable {b B : Nat} {W W' : World} {c : ACfg} {vs : Nat → Value} {ts : Nat → Trk}
theorem RObj.lt (h : RObj b B W c vs ts) : b < W.heap.size := (Array.getElem?_eq_some_iff.1 h.heap).1
theorem RObj.cell (h : RObj b B W c vs ts) (k : Nat) : W.cell? ⟨b, k, none⟩ = (rcells c vs ts)[k]? := cell_of_row _ b k _ _ _ h.heap
theorem RObj.frozen (h : RObj b B W c vs ts) (k : Nat) : W.frozen? ⟨b, k, none⟩ = false := by simp [World.frozen?, h.heap]
theorem RObj.below (h : RObj b B W c vs ts) (hb : Below W.heap.size W W') : RObj b B W' c vs ts :=
  ⟨(hb.block b h.lt).trans h.heap, h.bB, fun n hn => ⟨(h.row n hn).1.below hb (Nat.le_refl _), (h.row n hn).2⟩, h.apart⟩
/-- where block q alone turns, which is none of its own -/
theorem RObj.kept {q : Nat} (h : RObj b B W c vs ts) (hg : W.grownBy W' (some q)) (h1 : q ≠ b) (h2 : ∀ n, n < 8 → (vs n).ownBlock ≠ some q) : RObj b B W' c vs ts :=
  ⟨(hg.block b h.lt (fun e => h1 (Option.some.inj e.symm))).trans h.heap, h.bB, fun n hn => ⟨(h.row n hn).1.kept hg (.inr (h2 n hn)), (h.row n hn).2⟩, h.apart⟩
theorem RObj.nrow (h : RObj b B W c vs ts) (n : Nat) (hn : n < 8) : (vs n).ownBlock ≠ some b := fun e => by
  have := (h.row n hn).1.lt b e
  have := h.bB
  omega
end
theorem RObj.start {b : Nat} {W : World} (c : ACfg) (h : W.heap[b]? = some (.cells (rcells c (fun _ => .slice none 0 0) (fun _ => Trk.none)) 66)) : RObj b (b + 1) W c (fun _ => .slice none 0 0) (fun _ => Trk.none) :=
  ⟨h, Nat.lt_succ_self _, fun n _ => ⟨Owns.nil _ _ _ _ _, fun _ => rfl⟩, fun _ _ _ _ _ k hk => by simp [Value.ownBlock] at hk⟩
set_option maxHeartbeats 2000000 in
theorem refRight_any (c : ACfg) (w : World) :
    Calls Tryz.prog 20 #[.agg #[.int .i64 c.self, .int .i64 c.window, .int .i64 c.keep, .int .u64 c.salt]] w fun e w' => e = .returned (.bool (decide c.right)) ∧ Below w.heap.size w w' := by
  obtain ⟨y1, k1⟩ : ∃ y, decide (c.self ≥ 0) = y := ⟨_, rfl⟩
  obtain ⟨y2, k2⟩ : ∃ y, decide (c.self < 8) = y := ⟨_, rfl⟩
  obtain ⟨y3, k3⟩ : ∃ y, decide (c.window ≥ 1) = y := ⟨_, rfl⟩
  obtain ⟨y4, k4⟩ : ∃ y, decide (c.window ≤ 16) = y := ⟨_, rfl⟩
  obtain ⟨y5, k5⟩ : ∃ y, decide (c.keep ≥ 1) = y := ⟨_, rfl⟩
  obtain ⟨y6, k6⟩ : ∃ y, decide (c.keep ≤ 16) = y := ⟨_, rfl⟩
  have hx : decide c.right = (y1 && y2 && y3 && y4 && y5 && y6) := by
    rw [← k1, ← k2, ← k3, ← k4, ← k5, ← k6, Bool.eq_iff_iff]
    simp only [Bool.and_eq_true, decide_eq_true_eq]
    unfold ACfg.right
    omega
  rw [hx]
  clear hx
  cases y1
  · go_enter Tryz.func20, Tryz.ntmps20
    go_wp2_with fail
    go_ret
    exact ⟨rfl, (Below.refl _ _).alloc (Nat.le_refl _) _⟩
  cases y2
  · go_enter Tryz.func20, Tryz.ntmps20
    go_wp2_with fail
    go_ret
    exact ⟨rfl, (Below.refl _ _).alloc (Nat.le_refl _) _⟩
  cases y3
  · go_enter Tryz.func20, Tryz.ntmps20
    go_wp2_with fail
    go_ret
    exact ⟨rfl, (Below.refl _ _).alloc (Nat.le_refl _) _⟩
  cases y4
  · go_enter Tryz.func20, Tryz.ntmps20
    go_wp2_with fail
    go_ret
    exact ⟨rfl, (Below.refl _ _).alloc (Nat.le_refl _) _⟩
  cases y5
  · go_enter Tryz.func20, Tryz.ntmps20
    go_wp2_with fail
    go_ret
    exact ⟨rfl, (Below.refl _ _).alloc (Nat.le_refl _) _⟩
  cases y6
  · go_enter Tryz.func20, Tryz.ntmps20
    go_wp2_with fail
    go_ret
    exact ⟨rfl, (Below.refl _ _).alloc (Nat.le_refl _) _⟩
  · go_enter Tryz.func20, Tryz.ntmps20
    go_wp2_with fail
    go_ret
    exact ⟨rfl, (Below.refl _ _).alloc (Nat.le_refl _) _⟩
theorem refNew_wrong (c : ACfg) (hc : ¬ c.right) (w : World) :
    Calls Tryz.prog 7 #[.agg #[.int .i64 c.self, .int .i64 c.window, .int .i64 c.keep, .int .u64 c.salt]] w fun e w' => e = .returned (.tuple #[.pointer none, .int .i64 2]) ∧ Below w.heap.size w w' := by
  have hr := fun W => refRight_any c W
  rw [decide_eq_false hc] at hr
  have HR := Lib.hid hr
  clear hr hc
  go_enter Tryz.func7, Tryz.ntmps7
  go_wp2_with fail
  refine (HR.out _).mono ?_
  rintro e w1 ⟨rfl, hb1⟩
  have HB1 := Lib.hid (((Below.refl w.heap.size w).alloc (Nat.le_refl _) (.cells #[.int .i64 c.self, .int .i64 c.window, .int .i64 c.keep, .int .u64 c.salt] 24)).trans (hb1.mono (by simp)))
  clear hb1
  go_wp2_with fail
  go_ret2
  exact ⟨rfl, HB1.out⟩
theorem refNew_right (c : ACfg) (hc : c.right) (w : World) :
    Calls Tryz.prog 7 #[.agg #[.int .i64 c.self, .int .i64 c.window, .int .i64 c.keep, .int .u64 c.salt]] w fun e w' => ∃ b, e = .returned (.tuple #[.pointer (some ⟨b, 0, none⟩), .int .i64 0]) ∧ w.heap.size ≤ b ∧ b + 1 = w'.heap.size ∧ RObj b (b + 1) w' c (fun _ => .slice none 0 0) (fun _ => Trk.none) ∧ Below w.heap.size w w' := by
  have hr := fun W => refRight_any c W
  rw [decide_eq_true hc] at hr
  have HR := Lib.hid hr
  clear hr hc
  go_enter Tryz.func7, Tryz.ntmps7
  go_wp2_with fail
  refine (HR.out _).mono ?_
  rintro e w1 ⟨rfl, hb1⟩
  have HB1 := Lib.hid (((Below.refl w.heap.size w).alloc (Nat.le_refl _) (.cells #[.int .i64 c.self, .int .i64 c.window, .int .i64 c.keep, .int .u64 c.salt] 24)).trans (hb1.mono (by simp)))
  have hrow : w1.heap[w.heap.size]? = some (.cells #[.int .i64 c.self, .int .i64 c.window, .int .i64 c.keep, .int .u64 c.salt] 24) := (hb1.block _ (by simp)).trans (heap_alloc_new w _)
  have m0 : w1.cell? ⟨w.heap.size, 0, none⟩ = some (.int .i64 c.self) := cell_of_row _ _ 0 _ _ _ hrow
  have m1 : w1.cell? ⟨w.heap.size, 1, none⟩ = some (.int .i64 c.window) := cell_of_row _ _ 1 _ _ _ hrow
  have m2 : w1.cell? ⟨w.heap.size, 2, none⟩ = some (.int .i64 c.keep) := cell_of_row _ _ 2 _ _ _ hrow
  have m3 : w1.cell? ⟨w.heap.size, 3, none⟩ = some (.int .u64 c.salt) := cell_of_row _ _ 3 _ _ _ hrow
  have hz := HB1.out.size
  clear hb1 hrow
  go_wp2_with fail
  go_ret2
  exact ⟨w1.heap.size, rfl, hz, by simp, RObj.start c (heap_alloc_new w1 _), HB1.out.alloc hz _⟩
end Go.Proofs.YtjgbflclhkeibaaGreat
namespace Go.Proofs.YtjgbflclhkeibaaGreat
open Go.Shelf Go.RowKit Go.Lib Go.Sort
set_option linter.unusedVariables false
theorem grown_setC {w w' : World} {b o : Nat} (h : w.grownBy w' (some b)) (v : Value) : w.grownBy (w'.setCell ⟨b, o, none⟩ v) (some b) :=
  ⟨h.os, h.tape, h.output, by simpa using h.size, fun k hk hne => (Below.heap_setCell _ _ _ k fun e => hne (by rw [e])).trans (h.block k hk hne)⟩
set_option maxRecDepth 100000 in
set_option maxHeartbeats 1000000 in
theorem caught_fault (b : Nat) (x n : Int) (older : List PanicEntry) (w : World) (hlt : b < w.heap.size) (hc : w.cell? ⟨b, 0, none⟩ = some (.int .i64 x)) (hz : w.frozen? ⟨b, 0, none⟩ = false) :
    CallsD Tryz.prog 23 #[.pointer (some ⟨b, 0, none⟩)] (.panicking ({ v := .iface 95 (.agg #[.int .i64 n]), recovered := false } :: older)) w fun e u' w' =>
      e = .returned (.tuple #[]) ∧ u' = .panicking ({ v := .iface 95 (.agg #[.int .i64 n]), recovered := true } :: older) ∧ w' = (w.alloc (.cells #[.int .i64 n] 95)).setCell ⟨b, 0, none⟩ (.int .i64 n) := by
  obtain ⟨p, hp⟩ : ∃ p : Addr, p = ⟨b, 0, none⟩ := ⟨_, rfl⟩
  have hz2 : (w.alloc (.cells #[.int .i64 n] 95)).frozen? ⟨b, 0, none⟩ = false := ((Below.refl w.heap.size w).alloc (Nat.le_refl _) _).frozen (p := ⟨b, 0, none⟩) hlt |>.trans hz
  have hc2 : (w.alloc (.cells #[.int .i64 n] 95)).cell? ⟨b, 0, none⟩ = some (.int .i64 x) := ((Below.refl w.heap.size w).alloc (Nat.le_refl _) _).cell (p := ⟨b, 0, none⟩) hlt |>.trans hc
  rw [← hp] at hz2 hc2 ⊢
  clear hp hc hz
  refine callsD_of_wpS Tryz.func23 rfl fun c₀ cs hu => ?_
  rw [show (#[Value.pointer (some p)] ++ Array.replicate (Tryz.f23.ntmps - #[Value.pointer (some p)].size) undef : Array Value) = #[.pointer (some p), undef, undef, undef, undef, undef, undef, undef, undef, undef, undef, undef, undef, undef, undef] from rfl]
  apply wpS_seq
  apply wpS_region
  simp [wpOpsS, go_sem, recoverD, hu, Exit.thenS]
  apply wpS_of_wp
  have hn1 : ∀ (v : Value) (W : World), (binOp .eql 20 (.iface 95 v) .nilIface).run Tryz.prog W = .ok (.bool false) W := fun _ _ => by first | rfl | kernel_rfl
  have hn2 : ∀ (W : World), (Instr.typeAssert (.iface 95 (.agg #[.int .i64 n])) 20 95 true).run Tryz.prog W = .ok (.tuple #[.agg #[.int .i64 n], .bool true]) W := fun _ => by first | rfl | kernel_rfl
  go_wp2_with fail
  cases c₀
  simp_all [bodyPostS, results, Tryz.results23]
theorem caught_idle (p : Addr) (w : World) :
    CallsD Tryz.prog 23 #[.pointer (some p)] .returning w fun e u' w' => e = .returned (.tuple #[]) ∧ u' = .returning ∧ w' = w := by
  refine callsD_of_wpS Tryz.func23 rfl fun c₀ cs hu => ?_
  rw [show (#[Value.pointer (some p)] ++ Array.replicate (Tryz.f23.ntmps - #[Value.pointer (some p)].size) undef : Array Value) = #[.pointer (some p), undef, undef, undef, undef, undef, undef, undef, undef, undef, undef, undef, undef, undef, undef] from rfl]
  apply wpS_seq
  apply wpS_region
  simp [wpOpsS, go_sem, recoverD, hu, Exit.thenS]
  apply wpS_of_wp
  go_wp2_with fail
  cases c₀
  simp_all [bodyPostS, results, Tryz.results23]
theorem recent_in (b : Nat) (c : ACfg) (vs : Nat → Value) (ts : Nat → Trk) (n : Nat) (hn : n < 8) (w : World) (h : AObj b w c vs ts) :
    Calls Tryz.prog 13 #[.pointer (some ⟨b, 0, none⟩), .int .i64 (n : Int)] w fun e w' => ∃ v', e = .returned v' ∧ Ints w.heap.size w' v' (ts n).wished ∧ Below w.heap.size w w' := by
  have ht := fun W => track_in b n hn W
  have HT := Lib.hid ht
  have h0 : w.cell? ⟨b, 4 + n * 3, none⟩ = some (vs n) := (h.cell _).trans (acells_wished c vs ts hn)
  obtain ⟨hr, _, hlen⟩ := h.row n hn
  obtain ⟨oa, cap, hv⟩ := slAt_slice hr
  rw [hv] at h0 hr
  have hcl := clone_any oa cap (ts n).wished w hr (by omega)
  have HC := Lib.hid hcl
  clear ht hcl h hr hv
  generalize (ts n).wished = l at *
  go_enter Tryz.func13, Tryz.ntmps13
  go_wp2_with fail
  refine (HT.out _).mono ?_
  rintro e w' ⟨rfl, rfl⟩
  go_wp2_with fail
  refine HC.out.mono ?_
  rintro e w1 ⟨v', rfl, ho, hb⟩
  have HO := Lib.hid ho
  have HB := Lib.hid hb
  clear ho hb
  go_wp2_with fail
  go_ret
  exact ⟨v', rfl, HO.out, HB.out⟩
theorem recent_out (b : Nat) (k : Int) (hk : ¬ (0 ≤ k ∧ k ≤ 7)) (w : World) :
    Calls Tryz.prog 13 #[.pointer (some ⟨b, 0, none⟩), .int .i64 k] w fun e w' => e = .returned (.slice none 0 0) ∧ w = w' := by
  have ht := fun W => track_out b k hk W
  have HT := Lib.hid ht
  clear ht
  go_enter Tryz.func13, Tryz.ntmps13
  go_wp2_with fail
  refine (HT.out _).mono ?_
  rintro e w' ⟨rfl, rfl⟩
  go_wp2_with fail
  go_ret
  exact ⟨rfl, rfl⟩
theorem AObj.turn {b n : Nat} {W W' : World} {c : ACfg} {vs : Nat → Value} {ts : Nat → Trk} {k : Nat} {v : Value} (h : AObj b W c vs ts) (hn : n < 8) : True := trivial
theorem done_in (b : Nat) (c : ACfg) (vs : Nat → Value) (ts : Nat → Trk) (n : Nat) (hn : n < 8) (tick : Int) (w : World) (h : AObj b w c vs ts) :
    Calls Tryz.prog 8 #[.pointer (some ⟨b, 0, none⟩), .int .i64 (n : Int), .int .i64 tick] w fun e w' => e = .returned (.int .i64 0) ∧ AObj b w' c vs (upd ts n ⟨(ts n).wished, true, tick⟩) ∧ w.grownBy w' (some b) := by
  have ht := fun W => track_in b n hn W
  have HT := Lib.hid ht
  have h1 : w.cell? ⟨b, 4 + n * 3 + 1, none⟩ = some (.bool (ts n).written) := (h.cell _).trans (acells_written c vs ts hn)
  have h2 : w.cell? ⟨b, 4 + n * 3 + 2, none⟩ = some (.int .i64 (ts n).at') := (h.cell _).trans (acells_at c vs ts hn)
  have f1 := h.frozen (4 + n * 3 + 1)
  have f2 := h.frozen (4 + n * 3 + 2)
  have HA := Lib.hid h
  clear ht h
  go_enter Tryz.func8, Tryz.ntmps8
  go_wp2_with fail
  refine (HT.out _).mono ?_
  rintro e w' ⟨rfl, rfl⟩
  go_wp2_with fail
  go_ret
  refine ⟨rfl, ⟨?_, fun m hm => ?_⟩, ?_⟩
  · rw [heap_setCell_same _ b _ _ _ _ _ (heap_setCell_same _ b _ _ _ _ _ HA.out.heap), acells_setD c vs ts hn]
  · have hr := HA.out.row m hm
    have e1 : (upd ts n ⟨(ts n).wished, true, tick⟩ m).wished = (ts m).wished := by
      unfold upd; split
      · subst_vars; rfl
      · rfl
    rw [e1]
    exact ⟨(hr.1.keep (.inr fun g hg => (Below.heap_setCell _ _ _ g fun e => hr.2.1 (by rw [hg, e])).trans (Below.heap_setCell _ _ _ g fun e => hr.2.1 (by rw [hg, e])))), hr.2⟩
  · exact grown_setC (grown_setC (World.grownBy.refl _ _) _) _
theorem done_out (b : Nat) (k tick : Int) (hk : ¬ (0 ≤ k ∧ k ≤ 7)) (w : World) :
    Calls Tryz.prog 8 #[.pointer (some ⟨b, 0, none⟩), .int .i64 k, .int .i64 tick] w fun e w' => e = .returned (.int .i64 2) ∧ w = w' := by
  have ht := fun W => track_out b k hk W
  have HT := Lib.hid ht
  clear ht
  go_enter Tryz.func8, Tryz.ntmps8
  go_wp2_with fail
  refine (HT.out _).mono ?_
  rintro e w' ⟨rfl, rfl⟩
  go_wp2_with fail
  go_ret
  exact ⟨rfl, rfl⟩
theorem done_nil (k tick : Int) (w : World) :
    Calls Tryz.prog 8 #[.pointer none, .int .i64 k, .int .i64 tick] w fun e w' => e = .returned (.int .i64 1) ∧ w = w' := by
  have ht := fun W => track_nil k W
  have HT := Lib.hid ht
  clear ht
  go_enter Tryz.func8, Tryz.ntmps8
  go_wp2_with fail
  refine (HT.out _).mono ?_
  rintro e w' ⟨rfl, rfl⟩
  go_wp2_with fail
  go_ret
  exact ⟨rfl, rfl⟩
end Go.Proofs.YtjgbflclhkeibaaGreat
