/-
  What is asked of a message's parts: askSeq, askNode, askSeen, askEvents.
  What is asked of a message's parts: askSeen, askEvents.
-/
import Derived.Test.YtenkfnhcdfmkaaaGreatMsgR
import Derived.ChangeKeysEq
namespace Go.Proofs.YtenkfnhcdfmkaaaGreat
open Go.Shelf Go.RowKit Go.Lib Go.Sort
set_option linter.unusedVariables false
set_option linter.unusedSimpArgs false
set_option maxHeartbeats 4000000 in
theorem askSeq_any (s n e v : Bool) (m : Msg) (w : World) : Calls Tryz.prog 44 #[.agg #[.bool s, .bool n, .bool e, .bool v], .agg #[.int .i64 m.kind, .int .i64 m.frm, .int .i64 m.to_, .int .i64 m.seq, .int .i64 m.node, .int .i64 (m.u 0), .int .i64 (m.u 1), .int .i64 (m.u 2), .int .i64 (m.u 3), .int .i64 (m.u 4), .int .i64 (m.u 5), .int .i64 (m.u 6), .int .i64 (m.u 7), m.hm.val, m.he.val, m.hs.val]] w fun en w' => en = .returned (.bool (decide (0 ≤ m.seq ∧ m.seq ≤ if e then 1 else if s then 1099511627776 else 0))) ∧ Below w.heap.size w w' := by
 have HB : Hid (Below w.heap.size w ((w.alloc (.cells #[.bool s, .bool n, .bool e, .bool v] 105)).alloc (.cells #[.int .i64 m.kind, .int .i64 m.frm, .int .i64 m.to_, .int .i64 m.seq, .int .i64 m.node, .int .i64 (m.u 0), .int .i64 (m.u 1), .int .i64 (m.u 2), .int .i64 (m.u 3), .int .i64 (m.u 4), .int .i64 (m.u 5), .int .i64 (m.u 6), .int .i64 (m.u 7), m.hm.val, m.he.val, m.hs.val] 38))) := ((Below.refl _ _).alloc (Nat.le_refl _) _).alloc (by simp) _
 cases s <;> cases e
 ·have hw := fun W => mwithin_any m.seq 0 0 (by omega) W
  have HW := Lib.hid hw
  clear hw
  go_enter Tryz.func44, Tryz.ntmps44
  go_wp2_with fail
  refine (HW.out _).mono ?_
  rintro en w2 ⟨rfl, rfl⟩
  go_wp2_with fail
  go_ret
  exact ⟨rfl, HB.out⟩
 ·have hw := fun W => mwithin_any m.seq 0 1 (by omega) W
  have HW := Lib.hid hw
  clear hw
  go_enter Tryz.func44, Tryz.ntmps44
  go_wp2_with fail
  refine (HW.out _).mono ?_
  rintro en w2 ⟨rfl, rfl⟩
  go_wp2_with fail
  go_ret
  exact ⟨rfl, HB.out⟩
 ·have hw := fun W => mwithin_any m.seq 0 1099511627776 (by omega) W
  have HW := Lib.hid hw
  clear hw
  go_enter Tryz.func44, Tryz.ntmps44
  go_wp2_with fail
  refine (HW.out _).mono ?_
  rintro en w2 ⟨rfl, rfl⟩
  go_wp2_with fail
  go_ret
  exact ⟨rfl, HB.out⟩
 ·have hw := fun W => mwithin_any m.seq 0 1 (by omega) W
  have HW := Lib.hid hw
  clear hw
  go_enter Tryz.func44, Tryz.ntmps44
  go_wp2_with fail
  refine (HW.out _).mono ?_
  rintro en w2 ⟨rfl, rfl⟩
  go_wp2_with fail
  go_ret
  exact ⟨rfl, HB.out⟩
set_option maxHeartbeats 4000000 in
theorem askNode_any (s n e v : Bool) (m : Msg) (w : World) : Calls Tryz.prog 45 #[.agg #[.bool s, .bool n, .bool e, .bool v], .agg #[.int .i64 m.kind, .int .i64 m.frm, .int .i64 m.to_, .int .i64 m.seq, .int .i64 m.node, .int .i64 (m.u 0), .int .i64 (m.u 1), .int .i64 (m.u 2), .int .i64 (m.u 3), .int .i64 (m.u 4), .int .i64 (m.u 5), .int .i64 (m.u 6), .int .i64 (m.u 7), m.hm.val, m.he.val, m.hs.val]] w fun en w' => en = .returned (.bool (n && decide (0 ≤ m.node ∧ m.node ≤ 7) || decide (m.node = 0))) ∧ Below w.heap.size w w' := by
 have HB : Hid (Below w.heap.size w ((w.alloc (.cells #[.bool s, .bool n, .bool e, .bool v] 105)).alloc (.cells #[.int .i64 m.kind, .int .i64 m.frm, .int .i64 m.to_, .int .i64 m.seq, .int .i64 m.node, .int .i64 (m.u 0), .int .i64 (m.u 1), .int .i64 (m.u 2), .int .i64 (m.u 3), .int .i64 (m.u 4), .int .i64 (m.u 5), .int .i64 (m.u 6), .int .i64 (m.u 7), m.hm.val, m.he.val, m.hs.val] 38))) := ((Below.refl _ _).alloc (Nat.le_refl _) _).alloc (by simp) _
 have hz : (m.node == 0) = decide (m.node = 0) := by rw [Bool.eq_iff_iff]; simp
 have hw := fun W => mnode_any m.node W
 rw [← hz]
 generalize decide (0 ≤ m.node ∧ m.node ≤ 7) = b at *
 have HW := Lib.hid hw
 clear hw hz
 cases n with
 | false =>
  go_enter Tryz.func45, Tryz.ntmps45
  go_wp2_with fail
  go_ret
  exact ⟨rfl, HB.out⟩
 | true =>
  cases b with
  | true =>
   go_enter Tryz.func45, Tryz.ntmps45
   go_wp2_with fail
   refine (HW.out _).mono ?_
   rintro en w2 ⟨rfl, rfl⟩
   go_wp2_with fail
   go_ret
   exact ⟨rfl, HB.out⟩
  | false =>
   go_enter Tryz.func45, Tryz.ntmps45
   go_wp2_with fail
   refine (HW.out _).mono ?_
   rintro en w2 ⟨rfl, rfl⟩
   go_wp2_with fail
   go_ret
   exact ⟨rfl, HB.out⟩
end Go.Proofs.YtenkfnhcdfmkaaaGreat
namespace Go.Proofs.YtenkfnhcdfmkaaaGreat
open Go.Shelf Go.RowKit Go.Lib Go.Sort
set_option linter.unusedVariables false
set_option linter.unusedSimpArgs false
set_option maxHeartbeats 4000000 in
theorem mseen_any (m : Msg) (w : World) : Calls Tryz.prog 82 #[.agg #[.int .i64 m.kind, .int .i64 m.frm, .int .i64 m.to_, .int .i64 m.seq, .int .i64 m.node, .int .i64 (m.u 0), .int .i64 (m.u 1), .int .i64 (m.u 2), .int .i64 (m.u 3), .int .i64 (m.u 4), .int .i64 (m.u 5), .int .i64 (m.u 6), .int .i64 (m.u 7), m.hm.val, m.he.val, m.hs.val]] w fun en w' => en = .returned (.agg #[.int .i64 (m.u 0), .int .i64 (m.u 1), .int .i64 (m.u 2), .int .i64 (m.u 3), .int .i64 (m.u 4), .int .i64 (m.u 5), .int .i64 (m.u 6), .int .i64 (m.u 7), m.hm.val]) ∧ Below w.heap.size w w' := by
 simp only [Hdr.val]
 obtain ⟨_, h1, hb, _⟩ := alloc2 w (.cells #[.int .i64 m.kind, .int .i64 m.frm, .int .i64 m.to_, .int .i64 m.seq, .int .i64 m.node, .int .i64 (m.u 0), .int .i64 (m.u 1), .int .i64 (m.u 2), .int .i64 (m.u 3), .int .i64 (m.u 4), .int .i64 (m.u 5), .int .i64 (m.u 6), .int .i64 (m.u 7), m.hm.val, m.he.val, m.hs.val] 38) (.cells #[.int .i64 (m.u 0), .int .i64 (m.u 1), .int .i64 (m.u 2), .int .i64 (m.u 3), .int .i64 (m.u 4), .int .i64 (m.u 5), .int .i64 (m.u 6), .int .i64 (m.u 7), m.hm.val] 48)
 simp only [Hdr.val] at h1 hb
 have HL := Lib.hid (load_whole h1 rfl)
 have HB := Lib.hid hb
 clear h1 hb
 go_enter Tryz.func82, Tryz.ntmps82
 go_wp2_with fail
 have hL := run_loadVarAgg (t := 48) (n := 9) (by kernel_rfl) (by kernel_rfl) HL.out
 exact bodyPost_ret (v := .agg #[.int .i64 (m.u 0), .int .i64 (m.u 1), .int .i64 (m.u 2), .int .i64 (m.u 3), .int .i64 (m.u 4), .int .i64 (m.u 5), .int .i64 (m.u 6), .int .i64 (m.u 7), .slice m.hm.a m.hm.n m.hm.c]) (run_results_cell rfl rfl hL) rfl ⟨rfl, HB.out⟩
theorem msgAlloc (s n e v : Bool) (m : Msg) (w : World) : ∃ w1, (w.alloc (.cells #[.bool s, .bool n, .bool e, .bool v] 105)).alloc (.cells #[.int .i64 m.kind, .int .i64 m.frm, .int .i64 m.to_, .int .i64 m.seq, .int .i64 m.node, .int .i64 (m.u 0), .int .i64 (m.u 1), .int .i64 (m.u 2), .int .i64 (m.u 3), .int .i64 (m.u 4), .int .i64 (m.u 5), .int .i64 (m.u 6), .int .i64 (m.u 7), m.hm.val, m.he.val, m.hs.val] 38) = w1 ∧ w1.heap[w.heap.size]? = some (.cells #[.bool s, .bool n, .bool e, .bool v] 105) ∧ w1.heap[w.heap.size + 1]? = some (.cells #[.int .i64 m.kind, .int .i64 m.frm, .int .i64 m.to_, .int .i64 m.seq, .int .i64 m.node, .int .i64 (m.u 0), .int .i64 (m.u 1), .int .i64 (m.u 2), .int .i64 (m.u 3), .int .i64 (m.u 4), .int .i64 (m.u 5), .int .i64 (m.u 6), .int .i64 (m.u 7), m.hm.val, m.he.val, m.hs.val] 38) ∧ Below w.heap.size w w1 ∧ w1.heap.size = w.heap.size + 2 := by
 obtain ⟨a, b, c, d⟩ := alloc2 w (.cells #[.bool s, .bool n, .bool e, .bool v] 105) (.cells #[.int .i64 m.kind, .int .i64 m.frm, .int .i64 m.to_, .int .i64 m.seq, .int .i64 m.node, .int .i64 (m.u 0), .int .i64 (m.u 1), .int .i64 (m.u 2), .int .i64 (m.u 3), .int .i64 (m.u 4), .int .i64 (m.u 5), .int .i64 (m.u 6), .int .i64 (m.u 7), m.hm.val, m.he.val, m.hs.val] 38)
 exact ⟨_, rfl, a, b, c, d⟩
theorem run_eql_8 (a0 a1 a2 a3 a4 a5 a6 a7 : Int) (w : World) : (binOp .eql 33 (.agg #[.int .i64 a0, .int .i64 a1, .int .i64 a2, .int .i64 a3, .int .i64 a4, .int .i64 a5, .int .i64 a6, .int .i64 a7]) (.agg #[.int .i64 0, .int .i64 0, .int .i64 0, .int .i64 0, .int .i64 0, .int .i64 0, .int .i64 0, .int .i64 0])).run Tryz.prog w = .ok (.bool (a0 == 0 && a1 == 0 && a2 == 0 && a3 == 0 && a4 == 0 && a5 == 0 && a6 == 0 && a7 == 0)) w := by
 go_simp
 obtain ⟨i, hi⟩ := Option.isSome_iff_exists.1 (show (Tryz.prog.info? 3).isSome = true by kernel_rfl)
 have hc : Tryz.prog.cellsOf 3 = 1 := by kernel_rfl
 rw [show (10000 : Nat) = 9999 + 1 from rfl, run_equalIn_array w 9999 _ _ Tryz.underlying33 hi, hc, show List.range 8 = [0, 1, 2, 3, 4, 5, 6, 7] from rfl]
 simp only [Op.eqItems]
 go_simp
 repeat' split
 all_goals simp_all
theorem run_eql_up (u : Nat → Int) (w : World) : (binOp .eql 33 (.agg #[.int .i64 (u 0), .int .i64 (u 1), .int .i64 (u 2), .int .i64 (u 3), .int .i64 (u 4), .int .i64 (u 5), .int .i64 (u 6), .int .i64 (u 7)]) (.agg #[.int .i64 0, .int .i64 0, .int .i64 0, .int .i64 0, .int .i64 0, .int .i64 0, .int .i64 0, .int .i64 0])).run Tryz.prog w = .ok (.bool (decide (noUpto u))) w := by
 have h := run_eql_8 (u 0) (u 1) (u 2) (u 3) (u 4) (u 5) (u 6) (u 7) w
 have e : (u 0 == 0 && u 1 == 0 && u 2 == 0 && u 3 == 0 && u 4 == 0 && u 5 == 0 && u 6 == 0 && u 7 == 0) = decide (noUpto u) := by
  rw [Bool.eq_iff_iff, decide_eq_true_iff]
  simp [noUpto, and_assoc]
 rw [h, e]
noncomputable def seenB (e : Bool) (m : Msg) : Bool := if e then m.set.rightB else (decide (noUpto m.u) && decide (m.more.length = 0))
set_option maxRecDepth 100000 in
set_option maxHeartbeats 4000000 in
theorem askSeen_any (s n e v : Bool) (m : Msg) (w : World) (h : MsgIn w m) (hs : m.small) : Calls Tryz.prog 46 #[.agg #[.bool s, .bool n, .bool e, .bool v], .agg #[.int .i64 m.kind, .int .i64 m.frm, .int .i64 m.to_, .int .i64 m.seq, .int .i64 m.node, .int .i64 (m.u 0), .int .i64 (m.u 1), .int .i64 (m.u 2), .int .i64 (m.u 3), .int .i64 (m.u 4), .int .i64 (m.u 5), .int .i64 (m.u 6), .int .i64 (m.u 7), m.hm.val, m.he.val, m.hs.val]] w fun en w' => en = .returned (.bool (seenB e m)) ∧ Below w.heap.size w w' := by
 obtain ⟨w1, hw1, h1, h2, hb, hsz⟩ := msgAlloc s n e v m w
 have hsl := (h.below hb (Nat.le_refl _)).more
 have hl := hs.more
 obtain ⟨ma, mc, hmv, _⟩ := hsl.slice_of
 have hms : m.hm = ⟨ma, m.more.length, mc⟩ := by
  obtain ⟨⟨a, b, c⟩⟩ : Nonempty Hdr := ⟨m.hm⟩
  cases hh : m.hm with
  | mk a b c => rw [hh] at hmv; simp only [Hdr.val, Value.slice.injEq] at hmv; obtain ⟨rfl, rfl, rfl⟩ := hmv; rfl
 have c2 : w1.cell? ⟨w.heap.size, 2, none⟩ = some (.bool e) := cell_of_row w1 _ 2 _ _ _ h1
 have m5 : w1.cell? ⟨w.heap.size + 1, 5, none⟩ = some (.int .i64 (m.u 0)) := cell_of_row w1 _ 5 _ _ _ h2
 have m6 : w1.cell? ⟨w.heap.size + 1, 6, none⟩ = some (.int .i64 (m.u 1)) := cell_of_row w1 _ 6 _ _ _ h2
 have m7 : w1.cell? ⟨w.heap.size + 1, 7, none⟩ = some (.int .i64 (m.u 2)) := cell_of_row w1 _ 7 _ _ _ h2
 have m8 : w1.cell? ⟨w.heap.size + 1, 8, none⟩ = some (.int .i64 (m.u 3)) := cell_of_row w1 _ 8 _ _ _ h2
 have m9 : w1.cell? ⟨w.heap.size + 1, 9, none⟩ = some (.int .i64 (m.u 4)) := cell_of_row w1 _ 9 _ _ _ h2
 have m10 : w1.cell? ⟨w.heap.size + 1, 10, none⟩ = some (.int .i64 (m.u 5)) := cell_of_row w1 _ 10 _ _ _ h2
 have m11 : w1.cell? ⟨w.heap.size + 1, 11, none⟩ = some (.int .i64 (m.u 6)) := cell_of_row w1 _ 11 _ _ _ h2
 have m12 : w1.cell? ⟨w.heap.size + 1, 12, none⟩ = some (.int .i64 (m.u 7)) := cell_of_row w1 _ 12 _ _ _ h2
 have m13 : w1.cell? ⟨w.heap.size + 1, 13, none⟩ = some (.slice ma m.more.length mc) := by rw [← hmv]; exact cell_of_row w1 _ 13 _ _ _ h2
 have hwl := load_whole h2 rfl
 have hsn := fun W => mseen_any m W
 have hrt := fun (W : World) (hW : Below w1.heap.size w1 W) => right_any m.set ma mc W (by show SlAt Dot.cells W (.slice ma m.more.length mc) m.more; rw [← hmv]; exact hsl.below Dot.cells_len (by decide) hW (Nat.le_refl _)) (by show m.more.length ≤ 1000000; omega)
 have HWL := Lib.hid hwl
 have HW1 := Lib.hid hw1
 have HSN := Lib.hid hsn
 have HRT := Lib.hid hrt
 have HB := Lib.hid hb
 clear hwl hw1 hsn hrt hb h1 h2 hsl h
 unfold seenB
 rw [hms] at *
 simp only [Hdr.val] at *
 cases e with
 | true =>
  go_enter Tryz.func46, Tryz.ntmps46
  go_wp2_with (first | (rw [HW1.out]; refine wpList_loadAgg _ rfl 38 _ rfl 16 (by kernel_rfl) (by kernel_rfl) ⟨w.heap.size + 1, 0, none⟩ rfl _ HWL.out ?_))
  refine (HSN.out _).mono ?_
  rintro en w2 ⟨rfl, hb2⟩
  have hrt := HRT.out w2 hb2
  have HRT2 := Lib.hid hrt
  have HB2 := Lib.hid (HB.out.trans (hb2.mono HB.out.size))
  clear hb2 hrt HRT HSN HWL HB
  go_wp2_with fail
  refine HRT2.out.mono ?_
  rintro en w3 ⟨rfl, hb3⟩
  have HB3 := Lib.hid (HB2.out.trans (hb3.mono HB2.out.size))
  clear hb3 HRT2 HB2
  go_wp2_with fail
  go_ret
  exact ⟨rfl, HB3.out⟩
 | false =>
  have heq := run_eql_up m.u
  have HEQ := Lib.hid heq
  by_cases hu : noUpto m.u
  ·have hud := decide_eq_true hu
   rw [hud]
   by_cases hz : m.more.length = 0
   ·have hzi : ((m.more.length : Int) == 0) = true := by simp [hz]
    have hzd := decide_eq_true hz
    rw [hzd]
    rw [hud] at heq
    go_enter Tryz.func46, Tryz.ntmps46
    go_wp2_with (first | (rw [HW1.out]))
    go_ret
    first | exact ⟨rfl, HB.out⟩ | exact ⟨rfl, ((Below.refl _ _).alloc (Nat.le_refl _) _).alloc (by simp) _⟩
   ·have hzi : ((m.more.length : Int) == 0) = false := by simpa using hz
    have hzd := decide_eq_false hz
    rw [hzd]
    rw [hud] at heq
    go_enter Tryz.func46, Tryz.ntmps46
    go_wp2_with (first | (rw [HW1.out]))
    go_ret
    first | exact ⟨rfl, HB.out⟩ | exact ⟨rfl, ((Below.refl _ _).alloc (Nat.le_refl _) _).alloc (by simp) _⟩
  ·have hud := decide_eq_false hu
   rw [hud]
   rw [hud] at heq
   go_enter Tryz.func46, Tryz.ntmps46
   go_wp2_with (first | (rw [HW1.out]))
   go_ret
   exact ⟨rfl, HB.out⟩
set_option maxRecDepth 100000 in
set_option maxHeartbeats 4000000 in
theorem askEvents_none (s n e : Bool) (m : Msg) (w : World) (h : MsgIn w m) (hs : m.small) : Calls Tryz.prog 47 #[.agg #[.bool s, .bool n, .bool e, .bool false], .agg #[.int .i64 m.kind, .int .i64 m.frm, .int .i64 m.to_, .int .i64 m.seq, .int .i64 m.node, .int .i64 (m.u 0), .int .i64 (m.u 1), .int .i64 (m.u 2), .int .i64 (m.u 3), .int .i64 (m.u 4), .int .i64 (m.u 5), .int .i64 (m.u 6), .int .i64 (m.u 7), m.hm.val, m.he.val, m.hs.val]] w fun en w' => en = .returned (.bool (decide (m.evs.length = 0))) ∧ Below w.heap.size w w' := by
 obtain ⟨w1, hw1, h1, h2, hb, hsz⟩ := msgAlloc s n e false m w
 obtain ⟨ma, mc, hmv, _⟩ := h.evs.1.slice_of
 have c2 : w1.cell? ⟨w.heap.size, 3, none⟩ = some (.bool false) := cell_of_row w1 _ 3 _ _ _ h1
 have m14 : w1.cell? ⟨w.heap.size + 1, 14, none⟩ = some (.slice ma m.evs.length mc) := by rw [← hmv]; exact cell_of_row w1 _ 14 _ _ _ h2
 rw [hmv] at hw1 ⊢
 have hz : ((m.evs.length : Int) == 0) = decide (m.evs.length = 0) := by rw [Bool.eq_iff_iff]; simp
 rw [← hz]
 have HW1 := Lib.hid hw1
 have HB := Lib.hid hb
 clear hw1 hb h1 h2 h hz hmv
 go_enter Tryz.func47, Tryz.ntmps47
 go_wp2_with (first | (rw [HW1.out]))
 go_ret
 exact ⟨rfl, HB.out⟩
def evsB (m : Msg) : Bool := decide ((∀ p ∈ m.evs, RightEv p.2) ∧ m.evs.length ≤ 768)
def EvsTo (l : List PEv) (i : Nat) : Prop := ∀ p ∈ l.take i, RightEv p.2
theorem evsTo_step {l : List PEv} {i : Nat} (h : EvsTo l i) (hi : i < l.length) (h1 : RightEv l[i].2) : EvsTo l (i + 1) := by
 unfold EvsTo at *
 rw [List.take_succ_eq_append_getElem hi]
 intro p hp
 rw [List.mem_append, List.mem_singleton] at hp
 rcases hp with hp | rfl
 ·exact h p hp
 ·exact h1
set_option maxRecDepth 100000 in
set_option maxHeartbeats 8000000 in
theorem askEvents_some (s n e : Bool) (m : Msg) (w : World) (h : MsgIn w m) (hs : m.small) : Calls Tryz.prog 47 #[.agg #[.bool s, .bool n, .bool e, .bool true], .agg #[.int .i64 m.kind, .int .i64 m.frm, .int .i64 m.to_, .int .i64 m.seq, .int .i64 m.node, .int .i64 (m.u 0), .int .i64 (m.u 1), .int .i64 (m.u 2), .int .i64 (m.u 3), .int .i64 (m.u 4), .int .i64 (m.u 5), .int .i64 (m.u 6), .int .i64 (m.u 7), m.hm.val, m.he.val, m.hs.val]] w fun en w' => en = .returned (.bool (evsB m)) ∧ Below w.heap.size w w' := by
 obtain ⟨w1, hw1, h1, h2, hb, hsz⟩ := msgAlloc s n e true m w
 have hev := h.evs.below hb (Nat.le_refl _)
 obtain ⟨ma, mc, hmv, _⟩ := h.evs.1.slice_of
 rw [hmv] at hev
 have c2 : w1.cell? ⟨w.heap.size, 3, none⟩ = some (.bool true) := cell_of_row w1 _ 3 _ _ _ h1
 have m14 : w1.cell? ⟨w.heap.size + 1, 14, none⟩ = some (.slice ma m.evs.length mc) := by rw [← hmv]; exact cell_of_row w1 _ 14 _ _ _ h2
 rw [hmv] at hw1 ⊢
 have hml : w.heap.size + 1 < w1.heap.size := by omega
 have hl := hs.evs
 have hrl := hs.rems
 have HRL := Lib.hid hrl
 have HEV := Lib.hid hev
 have HW1 := Lib.hid hw1
 have HB := Lib.hid hb
 clear hw1 hb h1 h2 h hev hrl hsz hs hmv
 go_enter Tryz.func47, Tryz.ntmps47
 go_wp2_with (first | (rw [HW1.out]))
 go_loopg [17] m.evs.length (fun gk s17 wr => ∃ (i : Nat), s17 = .int .i64 i ∧ i ≤ m.evs.length ∧ m.evs.length - i ≤ gk ∧ Hid (EvsTo m.evs i) ∧ Hid (Below w1.heap.size w1 wr))
 case atStart => exact ⟨0, rfl, Nat.zero_le _, Nat.le_refl _, (fun p hp => by simp at hp), Below.refl _ _⟩
 case round =>
  obtain ⟨i, rfl, hi, hg, HP, HBW⟩ := hrel
  by_cases hlt : i < m.evs.length
  ·have hltz : (i : Int) < (m.evs.length : Int) := by omega
   have hsl := HEV.out.below HBW.out (Nat.le_refl _)
   obtain ⟨b, off, rfl⟩ := hsl.1.plain pcells_len (by decide) (by intro e; rw [e] at hlt; exact absurd hlt (by simp))
   obtain ⟨ra, rn, rc, ev, hgi, d0, d1, d2, d3, d4, d5, d6, d7, d8, d9, d10, d11, d12, d13⟩ := hsl.1.ev i hlt
   have hgi2 : m.evs[i] = (⟨ra, rn, rc⟩, ev) := by rw [List.getElem?_eq_getElem hlt] at hgi; exact Option.some.inj hgi
   have hmem : ((⟨ra, rn, rc⟩, ev) : PEv) ∈ m.evs := by rw [← hgi2]; exact List.getElem_mem hlt
   have hrem := hsl.2 _ hmem
   have hlen := HRL.out _ hmem
   have hstep := evsTo_step HP.out hlt
   rw [hgi2] at hstep
   have hall := fun (hr : (∀ p ∈ m.evs, RightEv p.2)) => hr _ hmem
   have her := fun (W : World) (hW : Below wr.heap.size wr W) => evRight_any ⟨ra, rn, rc⟩ ev W (hrem.below Dot.cells_len (by decide) hW (Nat.le_refl _)) (by dsimp only at hlen; omega)
   dsimp only at hstep hall
   simp only [Hdr.val] at her d13
   have HER := Lib.hid her
   have HSTEP := Lib.hid hstep
   have HALL := Lib.hid hall
   have HB2 := Lib.hid (HB.out.trans (HBW.out.mono HB.out.size))
   have hml2 : w.heap.size + 1 < wr.heap.size := by have := HBW.out.size; omega
   clear hsl hgi hgi2 hrem hstep hall her hlen m14 c2 HEV HRL HP
   by_cases hr : RightEv ev
   ·have hrb : rightEvB ev = true := decide_eq_true hr
    go_wp2_with fail
    refine (HER.out _ ((Below.refl _ _).alloc (Nat.le_refl _) _)).mono ?_
    rintro en w2 ⟨rfl, hb2⟩
    have HBW2 := Lib.hid (HBW.out.trans (((Below.refl wr.heap.size wr).alloc (Nat.le_refl _) (.cells #[.int .i64 ev.dot.node, .int .i64 ev.dot.seq, .int .i64 ev.time, .int .i64 ev.kind, .int .i64 ev.work, .int .i64 ev.value, .int .i64 ev.pol.mn, .int .i64 ev.pol.mx, .int .i64 ev.pol.goal, .int .i64 ev.pol.slack, .int .i64 ev.pol.up, .int .i64 ev.pol.down, .int .i64 ev.pol.cool, .slice ra rn rc] 44) |>.trans (hb2.mono (by simp))) |>.mono HBW.out.size))
    clear hb2 HER HALL HBW
    go_wp2_with fail
    go_roundg (m.evs.length - (i + 1))
    case measure => omega
    case rel => exact ⟨i + 1, by go_num, by omega, Nat.le_refl _, HSTEP.out hr, HBW2.out⟩
   ·have hrb : rightEvB ev = false := decide_eq_false hr
    have hres : evsB m = false := decide_eq_false fun h => hr (HALL.out h.1)
    have HRES := Lib.hid hres
    clear hres
    go_wp2_with fail
    refine (HER.out _ ((Below.refl _ _).alloc (Nat.le_refl _) _)).mono ?_
    rintro en w2 ⟨rfl, hb2⟩
    have HBW2 := Lib.hid (HB2.out.trans (((Below.refl wr.heap.size wr).alloc (Nat.le_refl _) (.cells #[.int .i64 ev.dot.node, .int .i64 ev.dot.seq, .int .i64 ev.time, .int .i64 ev.kind, .int .i64 ev.work, .int .i64 ev.value, .int .i64 ev.pol.mn, .int .i64 ev.pol.mx, .int .i64 ev.pol.goal, .int .i64 ev.pol.slack, .int .i64 ev.pol.up, .int .i64 ev.pol.down, .int .i64 ev.pol.cool, .slice ra rn rc] 44) |>.trans (hb2.mono (by simp))) |>.mono HB2.out.size))
    clear hb2 HER HALL HBW HB2
    go_wp2_with fail
    go_ret
    exact ⟨by rw [HRES.out]; rfl, HBW2.out⟩
  ·have hltz : ¬ (i : Int) < (m.evs.length : Int) := by omega
   obtain rfl : i = m.evs.length := by omega
   have k14 := (HBW.out.cell (p := ⟨w.heap.size + 1, 14, none⟩) hml).trans m14
   have HB2 := Lib.hid (HB.out.trans (HBW.out.mono HB.out.size))
   have hall : ∀ p ∈ m.evs, RightEv p.2 := by have := HP.out; unfold EvsTo at this; rwa [List.take_length] at this
   by_cases h7 : m.evs.length ≤ 768
   ·have h7z : (m.evs.length : Int) ≤ 768 := by omega
    have hres : evsB m = true := decide_eq_true ⟨hall, h7⟩
    have HRES := Lib.hid hres
    clear hres
    clear hall m14 c2 HP HEV HRL
    go_wp2_with fail
    go_ret
    exact ⟨by rw [HRES.out]; rfl, HB2.out⟩
   ·have h7z : ¬ (m.evs.length : Int) ≤ 768 := by omega
    have hres : evsB m = false := decide_eq_false fun h => h7 h.2
    have HRES := Lib.hid hres
    clear hres
    clear hall m14 c2 HP HEV HRL
    go_wp2_with fail
    go_ret
    exact ⟨by rw [HRES.out]; rfl, HB2.out⟩
end Go.Proofs.YtenkfnhcdfmkaaaGreat
