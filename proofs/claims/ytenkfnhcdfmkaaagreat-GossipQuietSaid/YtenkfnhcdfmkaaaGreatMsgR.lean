/-
  msg's small functions walked: within, node, has, and what is asked of a message's parts.
-/
import Derived.Test.YtenkfnhcdfmkaaaGreatMsgP
import Derived.Test.YtenkfnhcdfmkaaaGreatMRd
import Derived.Test.YtenkfnhcdfmkaaaGreatHasT
import Derived.Test.YtenkfnhcdfmkaaaGreatMDotRight
import Derived.Test.YtenkfnhcdfmkaaaGreatMEvRight
namespace Go.Proofs.YtenkfnhcdfmkaaaGreat
open Go.Shelf Go.RowKit Go.Lib Go.Sort
set_option linter.unusedVariables false
set_option linter.unusedSimpArgs false
theorem withinM_is (n lo hi : Int) (h : lo ≤ hi) (w : World) : ∃ v : Int, (v == n) = decide (lo ≤ n ∧ n ≤ hi) ∧ ∀ W, Calls Tryz.prog 32 #[.int .i64 n, .int .i64 lo, .int .i64 hi] W fun e w' => e = .returned (.int .i64 v) ∧ w' = W := by
 refine ⟨if hi < n then hi else if n < lo then lo else n, ?_, fun W => (withinS_any n lo hi W).mono fun e w' hh => ⟨hh.1, hh.2.symm⟩⟩
 by_cases h1 : hi < n
 ·rw [if_pos h1, decide_eq_false (by omega)]
  exact beq_eq_false_iff_ne.2 (by omega)
 ·rw [if_neg h1]
  by_cases h2 : n < lo
  ·rw [if_pos h2, decide_eq_false (by omega)]
   exact beq_eq_false_iff_ne.2 (by omega)
  ·rw [if_neg h2, decide_eq_true (by omega)]
   exact beq_self_eq_true n
set_option maxHeartbeats 2000000 in
theorem mwithin_any (n lo hi : Int) (h : lo ≤ hi) (w : World) : Calls Tryz.prog 41 #[.int .i64 n, .int .i64 lo, .int .i64 hi] w fun e w' => e = .returned (.bool (decide (lo ≤ n ∧ n ≤ hi))) ∧ w' = w := by
 obtain ⟨v, hv, hc⟩ := withinM_is n lo hi h w
 rw [← hv]
 have HC := Lib.hid hc
 clear hc hv
 go_enter Tryz.func41, Tryz.ntmps41
 go_wp2_with fail
 refine (HC.out _).mono ?_
 rintro e w2 ⟨rfl, rfl⟩
 go_wp2_with fail
 go_ret
 exact ⟨rfl, rfl⟩
set_option maxHeartbeats 2000000 in
theorem mnode_any (n : Int) (w : World) : Calls Tryz.prog 42 #[.int .i64 n] w fun e w' => e = .returned (.bool (decide (0 ≤ n ∧ n ≤ 7))) ∧ w' = w := by
 have hw := mwithin_any n 0 7 (by omega) w
 generalize decide (0 ≤ n ∧ n ≤ 7) = b at *
 have HC := Lib.hid hw
 clear hw
 go_enter Tryz.func42, Tryz.ntmps42
 go_wp2_with fail
 refine (HC.out).mono ?_
 rintro e w2 ⟨rfl, rfl⟩
 go_wp2_with fail
 go_ret
 exact ⟨rfl, rfl⟩
theorem may_three (m : Mb) : m.may ↔ (decide (0 ≤ m.node ∧ m.node ≤ 7) = true ∧ decide (1 ≤ m.st ∧ m.st ≤ 4) = true ∧ decide (0 ≤ m.inc ∧ m.inc ≤ 1099511627776) = true) := by
 unfold Mb.may
 simp only [decide_eq_true_iff]
 constructor
 ·rintro ⟨a, b, c, d, e, f⟩; exact ⟨⟨a, b⟩, ⟨c, d⟩, ⟨e, f⟩⟩
 ·rintro ⟨⟨a, b⟩, ⟨c, d⟩, ⟨e, f⟩⟩; exact ⟨a, b, c, d, e, f⟩
set_option maxHeartbeats 8000000 in
theorem members_any (oa : Option Addr) (cap : Nat) (l : List Mb) (w : World) (h : SlAt Mb.cells w (.slice oa l.length cap) l) (hl : l.length ≤ 1000000) :
  Calls Tryz.prog 43 #[.slice oa l.length cap] w fun e w' => e = .returned (.bool (decide (MsOk l))) ∧ Below w.heap.size w w' := by
 have HSL1 := Lib.hid h
 clear h
 go_enter Tryz.func43, Tryz.ntmps43
 go_wp2_with fail
 go_loopg [3, 8] l.length (fun gk s3 s8 wr => ∃ (i : Nat), s8 = .int .i64 i ∧ s3 = .int .i64 (lastNode l i) ∧ i ≤ l.length ∧ l.length - i ≤ gk ∧ Hid (MsTo l i) ∧ Hid (Below w.heap.size w wr))
 case atStart => exact ⟨0, rfl, rfl, Nat.zero_le _, Nat.le_refl _, msTo_zero l, Below.refl _ _⟩
 case round =>
  obtain ⟨i, rfl, rfl, hi, hg, HP, HB⟩ := hrel
  by_cases hlt : i < l.length
  ·have hltz : (i : Int) < (l.length : Int) := by omega
   have hsl := HSL1.out.below Mb.cells_len (by decide) HB.out (Nat.le_refl _)
   obtain ⟨b, off, rfl⟩ := hsl.plain Mb.cells_len (by decide) (by intro e; rw [e] at hlt; exact absurd hlt (by simp))
   have c0 := hsl.cell Mb.cells_len (i := i) (c := 0) hlt (by decide)
   have c1 := hsl.cell Mb.cells_len (i := i) (c := 1) hlt (by decide)
   have c2 := hsl.cell Mb.cells_len (i := i) (c := 2) hlt (by decide)
   replace c0 : wr.cell? ⟨b, off + i * 3, none⟩ = some (.int .i64 l[i].node) := c0
   replace c1 : wr.cell? ⟨b, off + i * 3 + 1, none⟩ = some (.int .i64 l[i].st) := c1
   replace c2 : wr.cell? ⟨b, off + i * 3 + 2, none⟩ = some (.int .i64 l[i].inc) := c2
   have hstep := msTo_step HP.out hlt
   have hlast := fun (hr : MsOk l) => msOk_last hr hlt
   have hmay := fun (hr : MsOk l) => hr.1 l[i] (List.getElem_mem hlt)
   have hsucc := lastNode_succ l i hlt
   have hx : ∃ x, l[i] = x := ⟨_, rfl⟩
   obtain ⟨⟨n, s, c⟩, hx⟩ := hx
   rw [hx] at c0 c1 c2 hstep hlast hmay hsucc
   have h3 := may_three ⟨n, s, c⟩
   dsimp only at c0 c1 c2 hstep hlast hmay hsucc h3
   have h1 := fun W => mnode_any n W
   have h2 := fun W => mwithin_any s 1 4 (by omega) W
   have h4 := fun W => mwithin_any c 0 1099511627776 (by omega) W
   generalize decide (0 ≤ n ∧ n ≤ 7) = b1 at *
   generalize decide (1 ≤ s ∧ s ≤ 4) = b2 at *
   generalize decide (0 ≤ c ∧ c ≤ 1099511627776) = b3 at *
   have H1 := Lib.hid h1
   have H2 := Lib.hid h2
   have H4 := Lib.hid h4
   have H3 := Lib.hid h3
   have HSTEP := Lib.hid hstep
   have HLAST := Lib.hid hlast
   have HMAY := Lib.hid hmay
   have HSUCC := Lib.hid hsucc
   have HB2 := Lib.hid (HB.out.alloc HB.out.size (.cells #[.int .i64 n, .int .i64 s, .int .i64 c] 143))
   clear h1 h2 h4 h3 hstep hlast hmay hsucc hsl HP HB hx
   generalize lastNode l i = la at *
   cases b1 with
   | false =>
    go_wp2_with fail
    refine (H1.out _).mono ?_
    rintro e w2 ⟨rfl, rfl⟩
    go_wp2_with fail
    go_ret
    exact ⟨congrArg (fun b => Ending.returned (.bool b)) (decide_eq_false fun hr => by have := (H3.out.1 (HMAY.out hr)).1; cases this).symm, HB2.out⟩
   | true =>
    by_cases hle : n ≤ la
    ·go_wp2_with fail
     refine (H1.out _).mono ?_
     rintro e w2 ⟨rfl, rfl⟩
     go_wp2_with fail
     go_ret
     exact ⟨congrArg (fun b => Ending.returned (.bool b)) (decide_eq_false fun hr => by have := HLAST.out hr; omega).symm, HB2.out⟩
    ·cases b2 with
     | false =>
      go_wp2_with fail
      refine (H1.out _).mono ?_
      rintro e w2 ⟨rfl, rfl⟩
      go_wp2_with fail
      refine (H2.out _).mono ?_
      rintro e w2 ⟨rfl, rfl⟩
      go_wp2_with fail
      go_ret
      exact ⟨congrArg (fun b => Ending.returned (.bool b)) (decide_eq_false fun hr => by have := (H3.out.1 (HMAY.out hr)).2.1; cases this).symm, HB2.out⟩
     | true =>
      cases b3 with
      | false =>
       go_wp2_with fail
       refine (H1.out _).mono ?_
       rintro e w2 ⟨rfl, rfl⟩
       go_wp2_with fail
       refine (H2.out _).mono ?_
       rintro e w2 ⟨rfl, rfl⟩
       go_wp2_with fail
       refine (H4.out _).mono ?_
       rintro e w2 ⟨rfl, rfl⟩
       go_wp2_with fail
       go_ret
       exact ⟨congrArg (fun b => Ending.returned (.bool b)) (decide_eq_false fun hr => by have := (H3.out.1 (HMAY.out hr)).2.2; cases this).symm, HB2.out⟩
      | true =>
       go_wp2_with fail
       refine (H1.out _).mono ?_
       rintro e w2 ⟨rfl, rfl⟩
       go_wp2_with fail
       refine (H2.out _).mono ?_
       rintro e w2 ⟨rfl, rfl⟩
       go_wp2_with fail
       refine (H4.out _).mono ?_
       rintro e w2 ⟨rfl, rfl⟩
       go_wp2_with fail
       go_roundg (l.length - (i + 1))
       case measure => omega
       case rel => exact ⟨i + 1, by go_num, by rw [HSUCC.out], by omega, Nat.le_refl _, HSTEP.out (H3.out.2 (by simp)) (by omega), HB2.out⟩
  ·have hltz : ¬ (i : Int) < (l.length : Int) := by omega
   obtain rfl : i = l.length := by omega
   go_wp2_with fail
   go_ret
   exact ⟨congrArg (fun b => Ending.returned (.bool b)) (decide_eq_true (msTo_done HP.out)).symm, HB.out⟩
end Go.Proofs.YtenkfnhcdfmkaaaGreat
