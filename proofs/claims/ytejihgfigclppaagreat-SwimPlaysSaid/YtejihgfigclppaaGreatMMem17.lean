/-
  May members be told so: the reference's node and Members.
  A message that a detector sends is right: the reference's Right at such messages.
  Whether a message may be: the reference's Right, at every message of no great length.
-/
import Derived.Test.YtejihgfigclppaaGreatMBookP
import Derived.BigQuiet
import Derived.Deep.QuietTactic
import Derived.Test.YtejihgfigclppaaGreatMMsgA
import Derived.Shelf.Abstract
import Derived.Test.YtejihgfigclppaaGreatMDotList
namespace Go.Proofs.YtejihgfigclppaaGreat
open Go.Shelf Go.RowKit Go.Lib Go.Sort
set_option linter.unusedVariables false
set_option linter.unusedSimpArgs false
theorem rise_len : ∀ (l : List Mb) (a : Int), (l.Pairwise fun a b => a.node < b.node) → (∀ m ∈ l, a ≤ m.node ∧ m.node ≤ 7) → l = [] ∨ (l.length : Int) ≤ 8 - a
 | [], _, _, _ => .inl rfl
 | m :: l, a, h, hb => by
  rw [List.pairwise_cons] at h
  have hm := hb m (List.mem_cons_self ..)
  rcases rise_len l (a + 1) h.2 (fun x hx => ⟨by have := h.1 x hx; omega, (hb x (List.mem_cons_of_mem _ hx)).2⟩) with e | e
  ·right
   rw [e, List.length_cons, List.length_nil]
   omega
  ·right
   rw [List.length_cons]
   omega
theorem msOk_len {l : List Mb} (h : MsOk l) : l.length ≤ 8 := by
 rcases rise_len l 0 h.2 (fun m hm => ⟨(h.1 m hm).1, (h.1 m hm).2.1⟩) with e | e
 ·rw [e]; exact Nat.zero_le _
 ·omega
set_option maxHeartbeats 4000000 in
theorem node17_any (n : Int) (w : World) : Calls Tryz.prog 54 #[.int .i64 n] w fun e w' => e = .returned (.bool (decide (0 ≤ n ∧ n ≤ 7))) ∧ w' = w := by
 by_cases h1 : 0 ≤ n
 ·by_cases h2 : n < 8
  ·have h3 : (decide (0 ≤ n ∧ n ≤ 7)) = true := decide_eq_true ⟨h1, by omega⟩
   rw [h3]
   go_enter Tryz.func54, Tryz.ntmps54
   go_wp2_with fail
   go_ret
   exact ⟨rfl, rfl⟩
  ·have h3 : (decide (0 ≤ n ∧ n ≤ 7)) = false := decide_eq_false fun h => h2 (by omega)
   rw [h3]
   go_enter Tryz.func54, Tryz.ntmps54
   go_wp2_with fail
   go_ret
   exact ⟨rfl, rfl⟩
 ·have h3 : (decide (0 ≤ n ∧ n ≤ 7)) = false := decide_eq_false fun h => h1 h.1
  rw [h3]
  go_enter Tryz.func54, Tryz.ntmps54
  go_wp2_with fail
  go_ret
  exact ⟨rfl, rfl⟩
theorem lastNode_of {l : List Mb} {i : Nat} (h : 0 < i) (hi : i - 1 < l.length) : lastNode l i = l[i - 1].node := by
 unfold lastNode
 rw [if_neg (by omega)]
 simp [List.getD, List.getElem?_eq_getElem hi]
set_option maxRecDepth 100000 in
set_option maxHeartbeats 16000000 in
theorem members17_any (oa : Option Addr) (cap : Nat) (l : List Mb) (w : World) (h : SlAt Mb.cells w (.slice oa l.length cap) l) (hl : l.length ≤ 1000000) :
  Calls Tryz.prog 55 #[.slice oa l.length cap] w fun e w' => e = .returned (.bool (decide (MsOk l))) ∧ Below w.heap.size w w' := by
 have hp : Tryz.prog.follows .mixedOrders = true := by kernel_rfl
 by_cases h8 : (8 : Int) < (l.length : Int)
 ·rw [decide_eq_false fun hm => by have := msOk_len hm; omega]
  go_enter Tryz.func55, Tryz.ntmps55
  go_wp2_with fail
  go_ret
  exact ⟨rfl, Below.refl _ _⟩
 have HSL1 := Lib.hid h
 clear h
 go_enter Tryz.func55, Tryz.ntmps55
 go_wp2_with fail
 go_loopg [3, 4, 10] l.length (fun gk s3 s4 s10 wr => ∃ (i : Nat), s10 = .int .i64 i ∧ i ≤ l.length ∧ l.length - i ≤ gk ∧ Hid (MsTo l i) ∧ Hid (Below w.heap.size w wr))
 case atStart => exact ⟨0, rfl, Nat.zero_le _, Nat.le_refl _, msTo_zero l, Below.refl _ _⟩
 case round =>
  obtain ⟨i, rfl, hi, hg, HP, HB⟩ := hrel
  by_cases hlt : i < l.length
  ·have hltz : (i : Int) < (l.length : Int) := by omega
   have hsl := HSL1.out.below Mb.cells_len (by decide) HB.out (Nat.le_refl _)
   obtain ⟨b, off, rfl⟩ := hsl.plain Mb.cells_len (by decide) (by intro e; rw [e] at hlt; exact absurd hlt (by simp))
   have c0 := hsl.cell Mb.cells_len (i := i) (c := 0) hlt (by decide)
   have c1 := hsl.cell Mb.cells_len (i := i) (c := 1) hlt (by decide)
   have c2 := hsl.cell Mb.cells_len (i := i) (c := 2) hlt (by decide)
   replace c0 : wr.cell? ⟨b, off + i * 3, none⟩ = some (.int .i64 l[i].node) := c0
   replace c1 : wr.cell? ⟨b, off + i * 3 + 1, none⟩ = some (.int .i64 l[i].st) := c1
   replace c2 : wr.cell? ⟨b, off + i * 3 + 2, none⟩ = some (.int .i64 l[i].inc) := c2
   have hstep := msTo_step HP.out hlt
   have hlast := fun (hr : MsOk l) => msOk_last hr hlt
   have hmay := fun (hr : MsOk l) => hr.1 l[i] (List.getElem_mem hlt)
   have hpc : ∀ (hz : 0 < i), wr.cell? ⟨b, off + (i - 1) * 3, none⟩ = some (.int .i64 (lastNode l i)) := fun hz => by
    rw [lastNode_of hz (by omega)]
    exact hsl.cell Mb.cells_len (i := i - 1) (c := 0) (by omega) (by decide)
   have hbl := hsl.lt Mb.cells_len (by decide) (by intro e; rw [e] at hlt; exact absurd hlt (by simp)) b rfl
   have hx : ∃ x, l[i] = x := ⟨_, rfl⟩
   obtain ⟨⟨n, s, c⟩, hx⟩ := hx
   rw [hx] at c0 c1 c2 hstep hlast hmay
   dsimp only at c0 c1 c2 hstep hlast hmay
   have h1 := fun W => node17_any n W
   have hl0 : i = 0 → lastNode l i = -1 := fun e => by rw [e]; rfl
   obtain ⟨W, hW⟩ : ∃ W, wr.alloc (.cells #[.int .i64 n, .int .i64 s, .int .i64 c] 45) = W := ⟨_, rfl⟩
   have hbW : Below wr.heap.size wr W := by rw [← hW]; exact (Below.refl _ _).alloc (Nat.le_refl _) _
   have hrow : W.heap[wr.heap.size]? = some (.cells #[.int .i64 n, .int .i64 s, .int .i64 c] 45) := by rw [← hW]; exact heap_alloc_new wr _
   have x0 : W.cell? ⟨wr.heap.size, 0, none⟩ = some (.int .i64 n) := cell_of_row W _ 0 _ _ _ hrow
   have x1 : W.cell? ⟨wr.heap.size, 1, none⟩ = some (.int .i64 s) := cell_of_row W _ 1 _ _ _ hrow
   have x2 : W.cell? ⟨wr.heap.size, 2, none⟩ = some (.int .i64 c) := cell_of_row W _ 2 _ _ _ hrow
   have hpW : ∀ (hz : 0 < i), W.cell? ⟨b, off + (i - 1) * 3, none⟩ = some (.int .i64 (lastNode l i)) := fun hz => (hbW.cell (p := ⟨b, off + (i - 1) * 3, none⟩) hbl).trans (hpc hz)
   have HPW := Lib.hid hpW
   have H1 := Lib.hid h1
   have HSTEP := Lib.hid hstep
   have HLAST := Lib.hid hlast
   have HMAY := Lib.hid hmay
   have HL0 := Lib.hid hl0
   have HWW := Lib.hid hW
   have HB2 := Lib.hid (HB.out.trans (hbW.mono HB.out.size))
   clear h1 hstep hlast hmay hsl HP HB hx hpc hpW hW hrow hbl hbW
   generalize lastNode l i = la at *
   by_cases k1 : 0 ≤ n ∧ n ≤ 7
   ·have d1 := decide_eq_true k1
    rw [d1] at H1
    clear d1
    by_cases k2 : s < 1
    ·have f_k2 := decide_eq_true k2
     go_wp2_with fail
     rw [HWW.out]
     go_big_quiet (first | (go_at_call 54; refine Calls.quiet_of_same (H1.out _)))
     go_wp2_with fail
     go_ret
     exact ⟨congrArg (fun b => Ending.returned (.bool b)) (decide_eq_false fun hr => by have hq := HMAY.out hr; have q1 := hq.1; have q2 := hq.2.1; have q3 := hq.2.2.1; have q4 := hq.2.2.2.1; have q5 := hq.2.2.2.2.1; have q6 := hq.2.2.2.2.2; dsimp only at q1 q2 q3 q4 q5 q6; omega).symm, HB2.out.trans ((below_drewN W nq).mono HB2.out.size)⟩
    ·have f_k2 := decide_eq_false k2
     by_cases k3 : 4 < s
     ·have f_k3 := decide_eq_true k3
      go_wp2_with fail
      rw [HWW.out]
      go_big_quiet (first | (go_at_call 54; refine Calls.quiet_of_same (H1.out _)))
      go_wp2_with fail
      go_ret
      exact ⟨congrArg (fun b => Ending.returned (.bool b)) (decide_eq_false fun hr => by have hq := HMAY.out hr; have q1 := hq.1; have q2 := hq.2.1; have q3 := hq.2.2.1; have q4 := hq.2.2.2.1; have q5 := hq.2.2.2.2.1; have q6 := hq.2.2.2.2.2; dsimp only at q1 q2 q3 q4 q5 q6; omega).symm, HB2.out.trans ((below_drewN W nq).mono HB2.out.size)⟩
     ·have f_k3 := decide_eq_false k3
      by_cases k4 : c < 0
      ·have f_k4 := decide_eq_true k4
       go_wp2_with fail
       rw [HWW.out]
       go_big_quiet (first | (go_at_call 54; refine Calls.quiet_of_same (H1.out _)))
       go_wp2_with fail
       go_ret
       exact ⟨congrArg (fun b => Ending.returned (.bool b)) (decide_eq_false fun hr => by have hq := HMAY.out hr; have q1 := hq.1; have q2 := hq.2.1; have q3 := hq.2.2.1; have q4 := hq.2.2.2.1; have q5 := hq.2.2.2.2.1; have q6 := hq.2.2.2.2.2; dsimp only at q1 q2 q3 q4 q5 q6; omega).symm, HB2.out.trans ((below_drewN W nq).mono HB2.out.size)⟩
      ·have f_k4 := decide_eq_false k4
       by_cases k5 : 1099511627776 < c
       ·have f_k5 := decide_eq_true k5
        go_wp2_with fail
        rw [HWW.out]
        go_big_quiet (first | (go_at_call 54; refine Calls.quiet_of_same (H1.out _)))
        go_wp2_with fail
        go_ret
        exact ⟨congrArg (fun b => Ending.returned (.bool b)) (decide_eq_false fun hr => by have hq := HMAY.out hr; have q1 := hq.1; have q2 := hq.2.1; have q3 := hq.2.2.1; have q4 := hq.2.2.2.1; have q5 := hq.2.2.2.2.1; have q6 := hq.2.2.2.2.2; dsimp only at q1 q2 q3 q4 q5 q6; omega).symm, HB2.out.trans ((below_drewN W nq).mono HB2.out.size)⟩
       ·have f_k5 := decide_eq_false k5
        by_cases hz : (0 : Int) < (i : Int)
        ·have f_z : decide (0 < i) = true := decide_eq_true (by omega)
         have y0 := HPW.out (by omega)
         have hsub : ((i : Int) - 1) = ((i - 1 : Nat) : Int) := by omega
         have hw1 : IntKind.i64.wrap ((i : Int) - 1) = ((i - 1 : Nat) : Int) := by rw [hsub]; rw [IntKind.wrap_i64]; omega
         have hl1 : i - 1 < l.length := by omega
         have hl1z : ((i - 1 : Nat) : Int) < (l.length : Int) := by omega
         have hl0z : ¬ ((i - 1 : Nat) : Int) < 0 := by omega
         clear hsub
         by_cases k6 : n ≤ la
         ·have f_k6 := decide_eq_true k6
          go_wp2_with fail
          rw [HWW.out]
          go_big_quiet (first | (go_at_call 54; refine Calls.quiet_of_same (H1.out _)))
          go_wp2_with fail
          go_ret
          exact ⟨congrArg (fun b => Ending.returned (.bool b)) (decide_eq_false fun hr => by have hq := HLAST.out hr; omega).symm, HB2.out.trans ((below_drewN W nq).mono HB2.out.size)⟩
         ·have f_k6 := decide_eq_false k6
          go_wp2_with fail
          rw [HWW.out]
          go_big_quiet (first | (go_at_call 54; refine Calls.quiet_of_same (H1.out _)))
          go_wp2_with fail
          go_roundg (l.length - (i + 1))
          case measure => omega
          case rel => exact ⟨i + 1, by go_num, by omega, Nat.le_refl _, HSTEP.out ⟨by show 0 ≤ n; omega, by show n ≤ 7; omega, by show 1 ≤ s; omega, by show s ≤ 4; omega, by show 0 ≤ c; omega, by show c ≤ 1099511627776; omega⟩ (by show la < n; omega), HB2.out.trans ((below_drewN W nq).mono HB2.out.size)⟩
        ·have f_z : decide (0 < i) = false := decide_eq_false (by omega)
         have hla := HL0.out (by omega)
         go_wp2_with fail
         rw [HWW.out]
         go_big_quiet (first | (go_at_call 54; refine Calls.quiet_of_same (H1.out _)))
         go_wp2_with fail
         go_roundg (l.length - (i + 1))
         case measure => omega
         case rel => exact ⟨i + 1, by go_num, by omega, Nat.le_refl _, HSTEP.out ⟨by show 0 ≤ n; omega, by show n ≤ 7; omega, by show 1 ≤ s; omega, by show s ≤ 4; omega, by show 0 ≤ c; omega, by show c ≤ 1099511627776; omega⟩ (by show la < n; omega), HB2.out.trans ((below_drewN W nq).mono HB2.out.size)⟩
   ·have d1 := decide_eq_false k1
    rw [d1] at H1
    clear d1
    go_wp2_with fail
    rw [HWW.out]
    go_big_quiet (first | (go_at_call 54; refine Calls.quiet_of_same (H1.out _)))
    go_wp2_with fail
    go_ret
    exact ⟨congrArg (fun b => Ending.returned (.bool b)) (decide_eq_false fun hr => by have hq := HMAY.out hr; have q1 := hq.1; have q2 := hq.2.1; have q3 := hq.2.2.1; have q4 := hq.2.2.2.1; have q5 := hq.2.2.2.2.1; have q6 := hq.2.2.2.2.2; dsimp only at q1 q2 q3 q4 q5 q6; omega).symm, HB2.out.trans ((below_drewN W nq).mono HB2.out.size)⟩
  ·have hltz : ¬ (i : Int) < (l.length : Int) := by omega
   obtain rfl : i = l.length := by omega
   go_wp2_with fail
   go_ret
   exact ⟨congrArg (fun b => Ending.returned (.bool b)) (decide_eq_true (msTo_done HP.out)).symm, HB.out⟩
end Go.Proofs.YtejihgfigclppaaGreat
namespace Go.Proofs.YtejihgfigclppaaGreat
open Go.Shelf Go.RowKit Go.Lib Go.Sort
set_option linter.unusedVariables false
set_option linter.unusedSimpArgs false
end Go.Proofs.YtejihgfigclppaaGreat
namespace Go.Proofs.YtejihgfigclppaaGreat
open Go.Shelf Go.RowKit Go.Lib Go.Sort
set_option linter.unusedVariables false
set_option linter.unusedSimpArgs false
set_option maxRecDepth 100000 in
set_option maxHeartbeats 8000000 in
theorem set17_any (k f t q n : Int) (u : Nat → Int) (ma ea sa : Option Addr) (mn mc en ec sn sc : Nat) (w : World) : Calls Tryz.prog 57 #[.agg #[.int .i64 k, .int .i64 f, .int .i64 t, .int .i64 q, .int .i64 n, .int .i64 (u 0), .int .i64 (u 1), .int .i64 (u 2), .int .i64 (u 3), .int .i64 (u 4), .int .i64 (u 5), .int .i64 (u 6), .int .i64 (u 7), .slice ma mn mc, .slice ea en ec, .slice sa sn sc]] w fun e w' => e = .returned (.agg #[.int .i64 (u 0), .int .i64 (u 1), .int .i64 (u 2), .int .i64 (u 3), .int .i64 (u 4), .int .i64 (u 5), .int .i64 (u 6), .int .i64 (u 7), .slice ma mn mc]) ∧ Below w.heap.size w w' := by
 obtain ⟨_, h1, hb, _⟩ := alloc2 w (.cells #[.int .i64 k, .int .i64 f, .int .i64 t, .int .i64 q, .int .i64 n, .int .i64 (u 0), .int .i64 (u 1), .int .i64 (u 2), .int .i64 (u 3), .int .i64 (u 4), .int .i64 (u 5), .int .i64 (u 6), .int .i64 (u 7), .slice ma mn mc, .slice ea en ec, .slice sa sn sc] 42) (.cells #[.int .i64 (u 0), .int .i64 (u 1), .int .i64 (u 2), .int .i64 (u 3), .int .i64 (u 4), .int .i64 (u 5), .int .i64 (u 6), .int .i64 (u 7), .slice ma mn mc] 105)
 have HL := Lib.hid (load_whole h1 rfl)
 have HB := Lib.hid hb
 clear h1 hb
 go_enter Tryz.func57, Tryz.ntmps57
 go_wp2_with fail
 have hL := run_loadVarAgg (t := 105) (n := 9) (by kernel_rfl) (by kernel_rfl) HL.out
 exact bodyPost_ret (v := .agg #[.int .i64 (u 0), .int .i64 (u 1), .int .i64 (u 2), .int .i64 (u 3), .int .i64 (u 4), .int .i64 (u 5), .int .i64 (u 6), .int .i64 (u 7), .slice ma mn mc]) (run_results_cell rfl rfl hL) rfl ⟨rfl, HB.out⟩
structure Msg.Base (m : Msg) : Prop where
 frm : 0 ≤ m.frm ∧ m.frm ≤ 7
 to_ : 0 ≤ m.to_ ∧ m.to_ ≤ 7
 ne : m.frm ≠ m.to_
 ms : MsOk m.ms
 s0 : 0 ≤ m.seq
 s1 : m.seq ≤ 1099511627776
theorem Msg.right.base {m : Msg} (h : m.right) : m.Base := ⟨h.frm, h.to_, h.ne, h.ms, h.seq.1, Int.le_trans h.seq.2 (by unfold seqMost; split; omega; split <;> omega)⟩
theorem Msg.Base.r1 {m : Msg} (h : m.Base) (k : m.kind = 1) : m.right ↔ m.node = 0 ∧ (noUpto m.u ∧ m.more.length = 0) ∧ m.evs.length = 0 := by
 constructor
 ·intro r
  have h1 := r.node; have h2 := r.seen; have h3 := r.evs
  unfold Msg.nodeOk at h1; unfold Msg.seenOk at h2; unfold Msg.evsOk at h3
  rw [if_neg (by omega)] at h2 h3
  exact ⟨h1.elim (fun e => by omega) id, h2, h3⟩
 ·rintro ⟨a, b, c⟩
  refine ⟨by omega, h.frm, h.to_, h.ne, h.ms, ⟨h.s0, by unfold seqMost; rw [if_pos (.inl k)]; exact h.s1⟩, .inr a, ?_, ?_⟩
  ·unfold Msg.seenOk; rw [if_neg (by omega)]; exact b
  ·unfold Msg.evsOk; rw [if_neg (by omega)]; exact c
theorem Msg.Base.r23 {m : Msg} (h : m.Base) (k : m.kind = 2 ∨ m.kind = 3) : m.right ↔ (0 ≤ m.node ∧ m.node ≤ 7) ∧ (noUpto m.u ∧ m.more.length = 0) ∧ m.evs.length = 0 := by
 constructor
 ·intro r
  have h1 := r.node; have h2 := r.seen; have h3 := r.evs
  unfold Msg.nodeOk at h1; unfold Msg.seenOk at h2; unfold Msg.evsOk at h3
  rw [if_neg (by omega)] at h2 h3
  exact ⟨by omega, h2, h3⟩
 ·rintro ⟨a, b, c⟩
  refine ⟨by omega, h.frm, h.to_, h.ne, h.ms, ⟨h.s0, by unfold seqMost; rw [if_pos (.inr k)]; exact h.s1⟩, .inl ⟨k, a⟩, ?_, ?_⟩
  ·unfold Msg.seenOk; rw [if_neg (by omega)]; exact b
  ·unfold Msg.evsOk; rw [if_neg (by omega)]; exact c
theorem Msg.Base.r4 {m : Msg} (h : m.Base) (k : m.kind = 4) : m.right ↔ m.seq ≤ 1 ∧ m.node = 0 ∧ m.set.Right ∧ m.evs.length = 0 := by
 have hq : seqMost m.kind = 1 := by unfold seqMost; rw [if_neg (by omega), if_pos k]
 constructor
 ·intro r
  have h1 := r.node; have h2 := r.seen; have h3 := r.evs; have h4 := r.seq.2
  unfold Msg.nodeOk at h1; unfold Msg.seenOk at h2; unfold Msg.evsOk at h3
  rw [if_pos k] at h2
  rw [if_neg (by omega)] at h3
  exact ⟨by omega, by omega, h2, h3⟩
 ·rintro ⟨a, b, c, d⟩
  refine ⟨by omega, h.frm, h.to_, h.ne, h.ms, ⟨h.s0, by omega⟩, .inr b, ?_, ?_⟩
  ·unfold Msg.seenOk; rw [if_pos k]; exact c
  ·unfold Msg.evsOk; rw [if_neg (by omega)]; exact d
theorem Msg.Base.r5 {m : Msg} (h : m.Base) (k : m.kind = 5) : m.right ↔ m.seq = 0 ∧ m.node = 0 ∧ (noUpto m.u ∧ m.more.length = 0) ∧ m.evs.length ≤ 768 ∧ ∀ p ∈ m.evs, RightEv p.2 := by
 have hq : seqMost m.kind = 0 := by unfold seqMost; rw [if_neg (by omega), if_neg (by omega)]
 constructor
 ·intro r
  have h1 := r.node; have h2 := r.seen; have h3 := r.evs; have h4 := r.seq.2; have h5 := h.s0
  unfold Msg.nodeOk at h1; unfold Msg.seenOk at h2; unfold Msg.evsOk at h3
  rw [if_neg (by omega)] at h2
  rw [if_pos k] at h3
  exact ⟨by omega, by omega, h2, h3.2, h3.1⟩
 ·rintro ⟨a, b, c, d, e⟩
  refine ⟨by omega, h.frm, h.to_, h.ne, h.ms, ⟨h.s0, by omega⟩, .inr b, ?_, ?_⟩
  ·unfold Msg.seenOk; rw [if_neg (by omega)]; exact c
  ·unfold Msg.evsOk; rw [if_pos k]; exact ⟨e, d⟩
set_option maxRecDepth 100000 in
set_option maxHeartbeats 32000000 in
theorem right17_any (m : Msg) (hs : m.small) (w : World) (h : MsgIn w m) : Calls Tryz.prog 22 #[.agg #[.int .i64 m.kind, .int .i64 m.frm, .int .i64 m.to_, .int .i64 m.seq, .int .i64 m.node, .int .i64 (m.u 0), .int .i64 (m.u 1), .int .i64 (m.u 2), .int .i64 (m.u 3), .int .i64 (m.u 4), .int .i64 (m.u 5), .int .i64 (m.u 6), .int .i64 (m.u 7), m.hm.val, m.he.val, m.hs.val]] w fun en w' => en = .returned (.bool m.rightB) ∧ Below w.heap.size w w' := by
 have hp : Tryz.prog.follows .mixedOrders = true := by kernel_rfl
 obtain ⟨sa, sc, hsv, _⟩ := h.ms.slice_of
 obtain ⟨ma, mc, hmv, _⟩ := h.more.slice_of
 obtain ⟨ea, ec, hev, _⟩ := h.evs.1.slice_of
 rw [hsv, hmv, hev]
 obtain ⟨w1, hw1⟩ : ∃ w1, w.alloc (.cells #[.int .i64 m.kind, .int .i64 m.frm, .int .i64 m.to_, .int .i64 m.seq, .int .i64 m.node, .int .i64 (m.u 0), .int .i64 (m.u 1), .int .i64 (m.u 2), .int .i64 (m.u 3), .int .i64 (m.u 4), .int .i64 (m.u 5), .int .i64 (m.u 6), .int .i64 (m.u 7), .slice ma m.more.length mc, .slice ea m.evs.length ec, .slice sa m.ms.length sc] 42) = w1 := ⟨_, rfl⟩
 have hb : Below w.heap.size w w1 := by rw [← hw1]; exact (Below.refl _ _).alloc (Nat.le_refl _) _
 have hrow : w1.heap[w.heap.size]? = some (.cells #[.int .i64 m.kind, .int .i64 m.frm, .int .i64 m.to_, .int .i64 m.seq, .int .i64 m.node, .int .i64 (m.u 0), .int .i64 (m.u 1), .int .i64 (m.u 2), .int .i64 (m.u 3), .int .i64 (m.u 4), .int .i64 (m.u 5), .int .i64 (m.u 6), .int .i64 (m.u 7), .slice ma m.more.length mc, .slice ea m.evs.length ec, .slice sa m.ms.length sc] 42) := by rw [← hw1]; exact heap_alloc_new w _
 have hbx : w.heap.size < w1.heap.size := (Array.getElem?_eq_some_iff.1 hrow).1
 have hM := h.below hb (Nat.le_refl _)
 have h1 := fun W => node17_any m.frm W
 have h2 := fun W => node17_any m.to_ W
 have h5 := members17_any sa sc m.ms w1 (by rw [← hsv]; exact hM.ms) (by have := hs.ms; omega)
 have c1 : w1.cell? ⟨w.heap.size, 1, none⟩ = some (.int .i64 m.frm) := cell_of_row w1 _ 1 _ _ _ hrow
 have c2 : w1.cell? ⟨w.heap.size, 2, none⟩ = some (.int .i64 m.to_) := cell_of_row w1 _ 2 _ _ _ hrow
 have c15 : w1.cell? ⟨w.heap.size, 15, none⟩ = some (.slice sa m.ms.length sc) := cell_of_row w1 _ 15 _ _ _ hrow
 have hnr : ∀ rb, m.rightB = rb → ¬ m.right → rb = false := fun rb e h => e.symm.trans (Msg.rightB_false h)
 have hyr : ∀ rb, m.rightB = rb → m.right → rb = true := fun rb e h => e.symm.trans (Msg.rightB_true h)
 have H1 := Lib.hid h1
 have H2 := Lib.hid h2
 have H5 := Lib.hid h5
 have HM := Lib.hid hM
 have HS := Lib.hid hs
 have HB := Lib.hid hb
 have HROW := Lib.hid hrow
 have HW1 := Lib.hid hw1
 have HSV := Lib.hid hsv
 have HMV := Lib.hid hmv
 have HEV := Lib.hid hev
 clear h1 h2 h5 hM hb hrow hw1 h hs hsv hmv hev
 obtain ⟨rb, hrb⟩ : ∃ rb, m.rightB = rb := ⟨_, rfl⟩
 rw [hrb]
 have HNR := Lib.hid (hnr rb hrb)
 have HYR := Lib.hid (hyr rb hrb)
 clear hnr hyr hrb
 go_enter Tryz.func22, Tryz.ntmps22
 go_wp2_with fail
 rw [HW1.out]
 refine (H1.out _).mono ?_
 rintro en w2 ⟨rfl, rfl⟩
 by_cases k1 : 0 ≤ m.frm ∧ m.frm ≤ 7
 ·rw [decide_eq_true k1]
  go_wp2_with fail
  refine (H2.out _).mono ?_
  rintro en w3 ⟨rfl, rfl⟩
  by_cases k2 : 0 ≤ m.to_ ∧ m.to_ ≤ 7
  ·rw [decide_eq_true k2]
   by_cases k3 : m.frm = m.to_
   ·have f3 : (m.frm == m.to_) = true := by simpa using k3
    obtain rfl : rb = false := HNR.out fun hr => hr.ne k3
    clear k3
    go_wp2_with fail
    go_ret
    exact ⟨rfl, HB.out⟩
   ·have f3 : (m.frm == m.to_) = false := by simpa using k3
    have K3 := Lib.hid k3
    clear k3
    go_wp2_with fail
    refine H5.out.mono ?_
    rintro en w2 ⟨rfl, hb2⟩
    have hrow2 := (hb2.block _ hbx).trans HROW.out
    have hbx2 : w.heap.size < w2.heap.size := Nat.lt_of_lt_of_le hbx hb2.size
    have HM2 := Lib.hid (HM.out.below hb2 (Nat.le_refl _))
    have HB2 := Lib.hid (HB.out.trans (hb2.mono HB.out.size))
    have HROW2 := Lib.hid hrow2
    have m0 : w2.cell? ⟨w.heap.size, 0, none⟩ = some (.int .i64 m.kind) := cell_of_row w2 _ 0 _ _ _ hrow2
    have m1 : w2.cell? ⟨w.heap.size, 1, none⟩ = some (.int .i64 m.frm) := cell_of_row w2 _ 1 _ _ _ hrow2
    have m2 : w2.cell? ⟨w.heap.size, 2, none⟩ = some (.int .i64 m.to_) := cell_of_row w2 _ 2 _ _ _ hrow2
    have m3 : w2.cell? ⟨w.heap.size, 3, none⟩ = some (.int .i64 m.seq) := cell_of_row w2 _ 3 _ _ _ hrow2
    have m4 : w2.cell? ⟨w.heap.size, 4, none⟩ = some (.int .i64 m.node) := cell_of_row w2 _ 4 _ _ _ hrow2
    have m5 : w2.cell? ⟨w.heap.size, 5, none⟩ = some (.int .i64 (m.u 0)) := cell_of_row w2 _ 5 _ _ _ hrow2
    have m6 : w2.cell? ⟨w.heap.size, 6, none⟩ = some (.int .i64 (m.u 1)) := cell_of_row w2 _ 6 _ _ _ hrow2
    have m7 : w2.cell? ⟨w.heap.size, 7, none⟩ = some (.int .i64 (m.u 2)) := cell_of_row w2 _ 7 _ _ _ hrow2
    have m8 : w2.cell? ⟨w.heap.size, 8, none⟩ = some (.int .i64 (m.u 3)) := cell_of_row w2 _ 8 _ _ _ hrow2
    have m9 : w2.cell? ⟨w.heap.size, 9, none⟩ = some (.int .i64 (m.u 4)) := cell_of_row w2 _ 9 _ _ _ hrow2
    have m10 : w2.cell? ⟨w.heap.size, 10, none⟩ = some (.int .i64 (m.u 5)) := cell_of_row w2 _ 10 _ _ _ hrow2
    have m11 : w2.cell? ⟨w.heap.size, 11, none⟩ = some (.int .i64 (m.u 6)) := cell_of_row w2 _ 11 _ _ _ hrow2
    have m12 : w2.cell? ⟨w.heap.size, 12, none⟩ = some (.int .i64 (m.u 7)) := cell_of_row w2 _ 12 _ _ _ hrow2
    have m13 : w2.cell? ⟨w.heap.size, 13, none⟩ = some (.slice ma m.more.length mc) := cell_of_row w2 _ 13 _ _ _ hrow2
    have m14 : w2.cell? ⟨w.heap.size, 14, none⟩ = some (.slice ea m.evs.length ec) := cell_of_row w2 _ 14 _ _ _ hrow2
    have m15 : w2.cell? ⟨w.heap.size, 15, none⟩ = some (.slice sa m.ms.length sc) := cell_of_row w2 _ 15 _ _ _ hrow2
    clear hrow2 hb2 c1 c2 c15 H1 H2 H5 HM HB HROW HW1
    by_cases k4 : MsOk m.ms
    ·rw [decide_eq_true k4]
     by_cases k5 : m.seq < 0
     ·have f5 := decide_eq_true k5
      obtain rfl : rb = false := HNR.out fun hr => by have := hr.base.s0; omega
      go_wp2_with fail
      go_ret
      exact ⟨rfl, HB2.out⟩
     ·have f5 := decide_eq_false k5
      by_cases k6 : 1099511627776 < m.seq
      ·have f6 := decide_eq_true k6
       obtain rfl : rb = false := HNR.out fun hr => by have := hr.base.s1; omega
       go_wp2_with fail
       go_ret
       exact ⟨rfl, HB2.out⟩
      ·have f6 := decide_eq_false k6
       have HBASE := Lib.hid (⟨k1, k2, K3.out, k4, by omega, by omega⟩ : m.Base)
       clear k1 k2 k4 k5 k6
       have heq := run_eql_up m.u
       by_cases a : noUpto m.u
       ·rw [decide_eq_true a] at heq
        by_cases b : m.more.length = 0
        ·have fb : ((m.more.length : Int) == 0) = true := by simp [b]
         have HSN := Lib.hid (And.intro a b)
         clear a b
         go_upto_region 4 with fail
         by_cases n1 : m.kind = 1
         ·rw [n1] at m0
          have R1 := Lib.hid (HBASE.out.r1 n1)
          clear n1
          by_cases z : m.node = 0
          ·have fz : (m.node == 0) = true := by simpa using z
           by_cases v : m.evs.length = 0
           ·have fv : ((m.evs.length : Int) == 0) = true := by simp [v]
            obtain rfl : rb = true := HYR.out (R1.out.2 ⟨z, HSN.out, v⟩)
            go_wp2_with fail
            go_ret
            exact ⟨rfl, HB2.out⟩
           ·have fv : ((m.evs.length : Int) == 0) = false := by simpa using v
            obtain rfl : rb = false := HNR.out fun hr => v (R1.out.1 hr).2.2
            go_wp2_with fail
            go_ret
            exact ⟨rfl, HB2.out⟩
          ·have fz : (m.node == 0) = false := by simpa using z
           obtain rfl : rb = false := HNR.out fun hr => z (R1.out.1 hr).1
           go_wp2_with fail
           go_ret
           exact ⟨rfl, HB2.out⟩
         ·have fk1 : (m.kind == 1) = false := by simpa using n1
          by_cases n23 : m.kind = 2 ∨ m.kind = 3
          ·have R2 := Lib.hid (HBASE.out.r23 n23)
           have h3 := fun W => node17_any m.node W
           rcases n23 with n23 | n23
           ·rw [n23] at m0
            clear n23 fk1 n1
            by_cases z : 0 ≤ m.node ∧ m.node ≤ 7
            ·rw [decide_eq_true z] at h3
             have H3 := Lib.hid h3
             clear h3
             by_cases v : m.evs.length = 0
             ·have fv : ((m.evs.length : Int) == 0) = true := by simp [v]
              obtain rfl : rb = true := HYR.out (R2.out.2 ⟨z, HSN.out, v⟩)
              go_wp2_with (first | (go_at_call 54; refine (H3.out _).mono ?_; rintro en w3 ⟨rfl, rfl⟩))
              go_ret
              exact ⟨rfl, HB2.out⟩
             ·have fv : ((m.evs.length : Int) == 0) = false := by simpa using v
              obtain rfl : rb = false := HNR.out fun hr => v (R2.out.1 hr).2.2
              go_wp2_with (first | (go_at_call 54; refine (H3.out _).mono ?_; rintro en w3 ⟨rfl, rfl⟩))
              go_ret
              exact ⟨rfl, HB2.out⟩
            ·rw [decide_eq_false z] at h3
             have H3 := Lib.hid h3
             clear h3
             obtain rfl : rb = false := HNR.out fun hr => z (R2.out.1 hr).1
             go_wp2_with (first | (go_at_call 54; refine (H3.out _).mono ?_; rintro en w3 ⟨rfl, rfl⟩))
             go_ret
             exact ⟨rfl, HB2.out⟩
           ·rw [n23] at m0
            clear n23 fk1 n1
            by_cases z : 0 ≤ m.node ∧ m.node ≤ 7
            ·rw [decide_eq_true z] at h3
             have H3 := Lib.hid h3
             clear h3
             by_cases v : m.evs.length = 0
             ·have fv : ((m.evs.length : Int) == 0) = true := by simp [v]
              obtain rfl : rb = true := HYR.out (R2.out.2 ⟨z, HSN.out, v⟩)
              go_wp2_with (first | (go_at_call 54; refine (H3.out _).mono ?_; rintro en w3 ⟨rfl, rfl⟩))
              go_ret
              exact ⟨rfl, HB2.out⟩
             ·have fv : ((m.evs.length : Int) == 0) = false := by simpa using v
              obtain rfl : rb = false := HNR.out fun hr => v (R2.out.1 hr).2.2
              go_wp2_with (first | (go_at_call 54; refine (H3.out _).mono ?_; rintro en w3 ⟨rfl, rfl⟩))
              go_ret
              exact ⟨rfl, HB2.out⟩
            ·rw [decide_eq_false z] at h3
             have H3 := Lib.hid h3
             clear h3
             obtain rfl : rb = false := HNR.out fun hr => z (R2.out.1 hr).1
             go_wp2_with (first | (go_at_call 54; refine (H3.out _).mono ?_; rintro en w3 ⟨rfl, rfl⟩))
             go_ret
             exact ⟨rfl, HB2.out⟩
          ·have fk2 : (m.kind == 2) = false := by simp; omega
           have fk3 : (m.kind == 3) = false := by simp; omega
           by_cases n4 : m.kind = 4
           ·have R4 := Lib.hid (HBASE.out.r4 n4)
            rw [n4] at m0
            clear fk1 fk2 fk3 n1 n23 n4
            by_cases q : m.seq ≤ 1
            ·have fq := decide_eq_true q
             by_cases z : m.node = 0
             ·have fz : (m.node == 0) = true := by simpa using z
              have Z := Lib.hid z
              have Q := Lib.hid q
              clear z q
              have hst := set17_any 4 m.frm m.to_ m.seq m.node m.u ma ea sa m.more.length mc m.evs.length ec m.ms.length sc w2
              have HST := Lib.hid hst
              have hmo := HM2.out.more
              rw [HMV.out] at hmo
              have hrr : ∀ W, Below w2.heap.size w2 W → Calls Tryz.prog 56 #[.agg #[.int .i64 (m.u 0), .int .i64 (m.u 1), .int .i64 (m.u 2), .int .i64 (m.u 3), .int .i64 (m.u 4), .int .i64 (m.u 5), .int .i64 (m.u 6), .int .i64 (m.u 7), .slice ma m.more.length mc]] W fun e w' => e = .returned (.bool m.set.rightB) ∧ Below W.heap.size W w' := fun W hW => refRight_any m.set ma mc W (hmo.below Dot.cells_len (by decide) hW (Nat.le_refl _)) (by have := HS.out.more; show m.more.length ≤ 1000000; omega)
              have HRR := Lib.hid hrr
              clear hst hmo hrr
              go_wp2_with fail
              refine HST.out.mono ?_
              rintro en w3 ⟨rfl, hb3⟩
              have HB3 := Lib.hid hb3
              go_wp2_with fail
              refine (HRR.out w3 HB3.out).mono ?_
              rintro en w4 ⟨rfl, hb4⟩
              have hb24 := HB3.out.trans (hb4.mono HB3.out.size)
              have m14 : w4.cell? ⟨w.heap.size, 14, none⟩ = some (.slice ea m.evs.length ec) := (hb24.cell (p := ⟨w.heap.size, 14, none⟩) hbx2).trans m14
              have HB4 := Lib.hid (HB2.out.trans (hb24.mono HB2.out.size))
              clear hb24 hb4 hb3 HB3 HST HRR
              cases hrb6 : m.set.rightB with
              | false =>
               have hnr6 : ¬ m.set.Right := fun h => by rw [DSet.rightB_true h] at hrb6; cases hrb6
               obtain rfl : rb = false := HNR.out fun hr => hnr6 (R4.out.1 hr).2.2.1
               go_wp2_with fail
               go_ret
               exact ⟨rfl, HB4.out⟩
              | true =>
               have hyr6 : m.set.Right := by
                by_cases h : m.set.Right
                ·exact h
                ·rw [DSet.rightB_false h] at hrb6; cases hrb6
               have HY6 := Lib.hid hyr6
               clear hyr6
               by_cases v : m.evs.length = 0
               ·have fv : ((m.evs.length : Int) == 0) = true := by simp [v]
                obtain rfl : rb = true := HYR.out (R4.out.2 ⟨Q.out, Z.out, HY6.out, v⟩)
                go_wp2_with fail
                go_ret
                exact ⟨rfl, HB4.out⟩
               ·have fv : ((m.evs.length : Int) == 0) = false := by simpa using v
                obtain rfl : rb = false := HNR.out fun hr => v (R4.out.1 hr).2.2.2
                go_wp2_with fail
                go_ret
                exact ⟨rfl, HB4.out⟩
             ·have fz : (m.node == 0) = false := by simpa using z
              obtain rfl : rb = false := HNR.out fun hr => z (R4.out.1 hr).2.1
              go_wp2_with fail
              go_ret
              exact ⟨rfl, HB2.out⟩
            ·have fq := decide_eq_false q
             obtain rfl : rb = false := HNR.out fun hr => q (R4.out.1 hr).1
             go_wp2_with fail
             go_ret
             exact ⟨rfl, HB2.out⟩
           ·have fk4 : (m.kind == 4) = false := by simpa using n4
            by_cases n5 : m.kind = 5
            ·have R5 := Lib.hid (HBASE.out.r5 n5)
             rw [n5] at m0
             clear fk1 fk2 fk3 fk4 n1 n23 n4 n5
             by_cases q : m.seq = 0
             ·have fq : (m.seq != 0) = false := by simpa using q
              by_cases z : m.node = 0
              ·have fz : (m.node != 0) = false := by simpa using z
               by_cases v : (768 : Int) < (m.evs.length : Int)
               ·have fv := decide_eq_true v
                obtain rfl : rb = false := HNR.out fun hr => by have := (R5.out.1 hr).2.2.2.1; omega
                go_wp2_with fail
                go_ret
                exact ⟨rfl, HB2.out⟩
               ·have fv := decide_eq_false v
                have hev := HM2.out.evs
                rw [HEV.out] at hev
                have HEVS := Lib.hid hev
                have HRMS := Lib.hid HS.out.rems
                have hl768 : m.evs.length ≤ 768 := by omega
                have Z := Lib.hid z
                have Q := Lib.hid q
                clear z q
                clear hev v
                go_wp2_with fail
                go_loopg [5, 124] m.evs.length (fun gk s5 s124 wr => ∃ (i : Nat), s124 = .int .i64 i ∧ i ≤ m.evs.length ∧ m.evs.length - i ≤ gk ∧ Hid (EvsTo m.evs i) ∧ Hid (Below w2.heap.size w2 wr))
                case atStart => exact ⟨0, rfl, Nat.zero_le _, Nat.le_refl _, (fun p hp => by simp at hp), Below.refl _ _⟩
                case round =>
                 obtain ⟨i, rfl, hi, hg, HP, HBW⟩ := hrel
                 by_cases hlt : i < m.evs.length
                 ·have hltz : (i : Int) < (m.evs.length : Int) := by omega
                  have hsl := HEVS.out.below HBW.out (Nat.le_refl _)
                  obtain ⟨b, off, rfl⟩ := hsl.1.plain pcells_len (by decide) (by intro e; rw [e] at hlt; exact absurd hlt (by simp))
                  obtain ⟨ra, rn, rc, ev, hgi, d0, d1, d2, d3, d4, d5, d6, d7, d8, d9, d10, d11, d12, d13⟩ := hsl.1.ev i hlt
                  have hgi2 : m.evs[i] = (⟨ra, rn, rc⟩, ev) := by rw [List.getElem?_eq_getElem hlt] at hgi; exact Option.some.inj hgi
                  have hmem : ((⟨ra, rn, rc⟩, ev) : PEv) ∈ m.evs := by rw [← hgi2]; exact List.getElem_mem hlt
                  have hrem := hsl.2 _ hmem
                  have hlen := HRMS.out _ hmem
                  have hstep := evsTo_step HP.out hlt
                  rw [hgi2] at hstep
                  have hall := fun (hr : (∀ p ∈ m.evs, RightEv p.2)) => hr _ hmem
                  have her := fun (W : World) (hW : Below wr.heap.size wr W) => evRight07_any ⟨ra, rn, rc⟩ ev W (hrem.below Dot.cells_len (by decide) hW (Nat.le_refl _)) (by dsimp only at hlen; omega)
                  dsimp only at hstep hall
                  simp only [Hdr.val] at her d13
                  have HER := Lib.hid her
                  have HSTEP := Lib.hid hstep
                  have HALL := Lib.hid hall
                  have HB3 := Lib.hid (HB2.out.trans (HBW.out.mono HB2.out.size))
                  clear hsl hgi hgi2 hrem hstep hall her hlen HEVS HRMS HP
                  by_cases hr : RightEv ev
                  ·have hrb : rightEvB ev = true := decide_eq_true hr
                   go_wp2_with fail
                   refine (HER.out _ ((Below.refl _ _).alloc (Nat.le_refl _) _)).mono ?_
                   rintro en w3 ⟨rfl, hb3⟩
                   have HBW2 := Lib.hid (HBW.out.trans ((((Below.refl wr.heap.size wr).alloc (Nat.le_refl _) _).trans (hb3.mono (by simp))).mono HBW.out.size))
                   clear hb3 HER HALL HBW
                   go_wp2_with fail
                   go_roundg (m.evs.length - (i + 1))
                   case measure => omega
                   case rel => exact ⟨i + 1, by go_num, by omega, Nat.le_refl _, HSTEP.out hr, HBW2.out⟩
                  ·have hrb : rightEvB ev = false := decide_eq_false hr
                   obtain rfl : rb = false := HNR.out fun h => hr (HALL.out (R5.out.1 h).2.2.2.2)
                   go_wp2_with fail
                   refine (HER.out _ ((Below.refl _ _).alloc (Nat.le_refl _) _)).mono ?_
                   rintro en w3 ⟨rfl, hb3⟩
                   have HBW2 := Lib.hid (HB3.out.trans ((((Below.refl wr.heap.size wr).alloc (Nat.le_refl _) _).trans (hb3.mono (by simp))).mono HB3.out.size))
                   clear hb3 HER HALL HBW HB3
                   go_wp2_with fail
                   go_ret
                   exact ⟨rfl, HBW2.out⟩
                 ·have hltz : ¬ (i : Int) < (m.evs.length : Int) := by omega
                  obtain rfl : i = m.evs.length := by omega
                  have hall : ∀ p ∈ m.evs, RightEv p.2 := by have := HP.out; unfold EvsTo at this; rwa [List.take_length] at this
                  obtain rfl : rb = true := HYR.out (R5.out.2 ⟨Q.out, Z.out, HSN.out, hl768, hall⟩)
                  have HB3 := Lib.hid (HB2.out.trans (HBW.out.mono HB2.out.size))
                  clear hall HP HEVS HRMS
                  go_wp2_with fail
                  go_ret
                  exact ⟨rfl, HB3.out⟩
              ·have fz : (m.node != 0) = true := by simpa using z
               obtain rfl : rb = false := HNR.out fun hr => z (R5.out.1 hr).2.1
               go_wp2_with fail
               go_ret
               exact ⟨rfl, HB2.out⟩
             ·have fq : (m.seq != 0) = true := by simpa using q
              obtain rfl : rb = false := HNR.out fun hr => q (R5.out.1 hr).1
              go_wp2_with fail
              go_ret
              exact ⟨rfl, HB2.out⟩
            ·have fk5 : (m.kind == 5) = false := by simpa using n5
             obtain rfl : rb = false := HNR.out fun hr => by have := hr.kind; omega
             go_wp2_with fail
             go_ret
             exact ⟨rfl, HB2.out⟩
        ·have fb : ((m.more.length : Int) == 0) = false := by simpa using b
         have HSN := Lib.hid (show ¬ (noUpto m.u ∧ m.more.length = 0) from fun h => b h.2)
         clear a b
         go_upto_region 4 with fail
         by_cases n1 : m.kind = 1
         ·rw [n1] at m0
          have R1 := Lib.hid (HBASE.out.r1 n1)
          clear n1
          by_cases z : m.node = 0
          ·have fz : (m.node == 0) = true := by simpa using z
           obtain rfl : rb = false := HNR.out fun hr => HSN.out (R1.out.1 hr).2.1
           go_wp2_with fail
           go_ret
           exact ⟨rfl, HB2.out⟩
          ·have fz : (m.node == 0) = false := by simpa using z
           obtain rfl : rb = false := HNR.out fun hr => z (R1.out.1 hr).1
           go_wp2_with fail
           go_ret
           exact ⟨rfl, HB2.out⟩
         ·have fk1 : (m.kind == 1) = false := by simpa using n1
          by_cases n23 : m.kind = 2 ∨ m.kind = 3
          ·have R2 := Lib.hid (HBASE.out.r23 n23)
           have h3 := fun W => node17_any m.node W
           rcases n23 with n23 | n23
           ·rw [n23] at m0
            clear n23 fk1 n1
            by_cases z : 0 ≤ m.node ∧ m.node ≤ 7
            ·rw [decide_eq_true z] at h3
             have H3 := Lib.hid h3
             clear h3
             obtain rfl : rb = false := HNR.out fun hr => HSN.out (R2.out.1 hr).2.1
             go_wp2_with (first | (go_at_call 54; refine (H3.out _).mono ?_; rintro en w3 ⟨rfl, rfl⟩))
             go_ret
             exact ⟨rfl, HB2.out⟩
            ·rw [decide_eq_false z] at h3
             have H3 := Lib.hid h3
             clear h3
             obtain rfl : rb = false := HNR.out fun hr => z (R2.out.1 hr).1
             go_wp2_with (first | (go_at_call 54; refine (H3.out _).mono ?_; rintro en w3 ⟨rfl, rfl⟩))
             go_ret
             exact ⟨rfl, HB2.out⟩
           ·rw [n23] at m0
            clear n23 fk1 n1
            by_cases z : 0 ≤ m.node ∧ m.node ≤ 7
            ·rw [decide_eq_true z] at h3
             have H3 := Lib.hid h3
             clear h3
             obtain rfl : rb = false := HNR.out fun hr => HSN.out (R2.out.1 hr).2.1
             go_wp2_with (first | (go_at_call 54; refine (H3.out _).mono ?_; rintro en w3 ⟨rfl, rfl⟩))
             go_ret
             exact ⟨rfl, HB2.out⟩
            ·rw [decide_eq_false z] at h3
             have H3 := Lib.hid h3
             clear h3
             obtain rfl : rb = false := HNR.out fun hr => z (R2.out.1 hr).1
             go_wp2_with (first | (go_at_call 54; refine (H3.out _).mono ?_; rintro en w3 ⟨rfl, rfl⟩))
             go_ret
             exact ⟨rfl, HB2.out⟩
          ·have fk2 : (m.kind == 2) = false := by simp; omega
           have fk3 : (m.kind == 3) = false := by simp; omega
           by_cases n4 : m.kind = 4
           ·have R4 := Lib.hid (HBASE.out.r4 n4)
            rw [n4] at m0
            clear fk1 fk2 fk3 n1 n23 n4
            by_cases q : m.seq ≤ 1
            ·have fq := decide_eq_true q
             by_cases z : m.node = 0
             ·have fz : (m.node == 0) = true := by simpa using z
              have Z := Lib.hid z
              have Q := Lib.hid q
              clear z q
              have hst := set17_any 4 m.frm m.to_ m.seq m.node m.u ma ea sa m.more.length mc m.evs.length ec m.ms.length sc w2
              have HST := Lib.hid hst
              have hmo := HM2.out.more
              rw [HMV.out] at hmo
              have hrr : ∀ W, Below w2.heap.size w2 W → Calls Tryz.prog 56 #[.agg #[.int .i64 (m.u 0), .int .i64 (m.u 1), .int .i64 (m.u 2), .int .i64 (m.u 3), .int .i64 (m.u 4), .int .i64 (m.u 5), .int .i64 (m.u 6), .int .i64 (m.u 7), .slice ma m.more.length mc]] W fun e w' => e = .returned (.bool m.set.rightB) ∧ Below W.heap.size W w' := fun W hW => refRight_any m.set ma mc W (hmo.below Dot.cells_len (by decide) hW (Nat.le_refl _)) (by have := HS.out.more; show m.more.length ≤ 1000000; omega)
              have HRR := Lib.hid hrr
              clear hst hmo hrr
              go_wp2_with fail
              refine HST.out.mono ?_
              rintro en w3 ⟨rfl, hb3⟩
              have HB3 := Lib.hid hb3
              go_wp2_with fail
              refine (HRR.out w3 HB3.out).mono ?_
              rintro en w4 ⟨rfl, hb4⟩
              have hb24 := HB3.out.trans (hb4.mono HB3.out.size)
              have m14 : w4.cell? ⟨w.heap.size, 14, none⟩ = some (.slice ea m.evs.length ec) := (hb24.cell (p := ⟨w.heap.size, 14, none⟩) hbx2).trans m14
              have HB4 := Lib.hid (HB2.out.trans (hb24.mono HB2.out.size))
              clear hb24 hb4 hb3 HB3 HST HRR
              cases hrb6 : m.set.rightB with
              | false =>
               have hnr6 : ¬ m.set.Right := fun h => by rw [DSet.rightB_true h] at hrb6; cases hrb6
               obtain rfl : rb = false := HNR.out fun hr => hnr6 (R4.out.1 hr).2.2.1
               go_wp2_with fail
               go_ret
               exact ⟨rfl, HB4.out⟩
              | true =>
               have hyr6 : m.set.Right := by
                by_cases h : m.set.Right
                ·exact h
                ·rw [DSet.rightB_false h] at hrb6; cases hrb6
               have HY6 := Lib.hid hyr6
               clear hyr6
               by_cases v : m.evs.length = 0
               ·have fv : ((m.evs.length : Int) == 0) = true := by simp [v]
                obtain rfl : rb = true := HYR.out (R4.out.2 ⟨Q.out, Z.out, HY6.out, v⟩)
                go_wp2_with fail
                go_ret
                exact ⟨rfl, HB4.out⟩
               ·have fv : ((m.evs.length : Int) == 0) = false := by simpa using v
                obtain rfl : rb = false := HNR.out fun hr => v (R4.out.1 hr).2.2.2
                go_wp2_with fail
                go_ret
                exact ⟨rfl, HB4.out⟩
             ·have fz : (m.node == 0) = false := by simpa using z
              obtain rfl : rb = false := HNR.out fun hr => z (R4.out.1 hr).2.1
              go_wp2_with fail
              go_ret
              exact ⟨rfl, HB2.out⟩
            ·have fq := decide_eq_false q
             obtain rfl : rb = false := HNR.out fun hr => q (R4.out.1 hr).1
             go_wp2_with fail
             go_ret
             exact ⟨rfl, HB2.out⟩
           ·have fk4 : (m.kind == 4) = false := by simpa using n4
            by_cases n5 : m.kind = 5
            ·have R5 := Lib.hid (HBASE.out.r5 n5)
             rw [n5] at m0
             clear fk1 fk2 fk3 fk4 n1 n23 n4 n5
             by_cases q : m.seq = 0
             ·have fq : (m.seq != 0) = false := by simpa using q
              by_cases z : m.node = 0
              ·have fz : (m.node != 0) = false := by simpa using z
               obtain rfl : rb = false := HNR.out fun hr => HSN.out (R5.out.1 hr).2.2.1
               go_wp2_with fail
               go_ret
               exact ⟨rfl, HB2.out⟩
              ·have fz : (m.node != 0) = true := by simpa using z
               obtain rfl : rb = false := HNR.out fun hr => z (R5.out.1 hr).2.1
               go_wp2_with fail
               go_ret
               exact ⟨rfl, HB2.out⟩
             ·have fq : (m.seq != 0) = true := by simpa using q
              obtain rfl : rb = false := HNR.out fun hr => q (R5.out.1 hr).1
              go_wp2_with fail
              go_ret
              exact ⟨rfl, HB2.out⟩
            ·have fk5 : (m.kind == 5) = false := by simpa using n5
             obtain rfl : rb = false := HNR.out fun hr => by have := hr.kind; omega
             go_wp2_with fail
             go_ret
             exact ⟨rfl, HB2.out⟩
       ·rw [decide_eq_false a] at heq
        have HSN := Lib.hid (show ¬ (noUpto m.u ∧ m.more.length = 0) from fun h => a h.1)
        clear a
        go_upto_region 4 with fail
        by_cases n1 : m.kind = 1
        ·rw [n1] at m0
         have R1 := Lib.hid (HBASE.out.r1 n1)
         clear n1
         by_cases z : m.node = 0
         ·have fz : (m.node == 0) = true := by simpa using z
          obtain rfl : rb = false := HNR.out fun hr => HSN.out (R1.out.1 hr).2.1
          go_wp2_with fail
          go_ret
          exact ⟨rfl, HB2.out⟩
         ·have fz : (m.node == 0) = false := by simpa using z
          obtain rfl : rb = false := HNR.out fun hr => z (R1.out.1 hr).1
          go_wp2_with fail
          go_ret
          exact ⟨rfl, HB2.out⟩
        ·have fk1 : (m.kind == 1) = false := by simpa using n1
         by_cases n23 : m.kind = 2 ∨ m.kind = 3
         ·have R2 := Lib.hid (HBASE.out.r23 n23)
          have h3 := fun W => node17_any m.node W
          rcases n23 with n23 | n23
          ·rw [n23] at m0
           clear n23 fk1 n1
           by_cases z : 0 ≤ m.node ∧ m.node ≤ 7
           ·rw [decide_eq_true z] at h3
            have H3 := Lib.hid h3
            clear h3
            obtain rfl : rb = false := HNR.out fun hr => HSN.out (R2.out.1 hr).2.1
            go_wp2_with (first | (go_at_call 54; refine (H3.out _).mono ?_; rintro en w3 ⟨rfl, rfl⟩))
            go_ret
            exact ⟨rfl, HB2.out⟩
           ·rw [decide_eq_false z] at h3
            have H3 := Lib.hid h3
            clear h3
            obtain rfl : rb = false := HNR.out fun hr => z (R2.out.1 hr).1
            go_wp2_with (first | (go_at_call 54; refine (H3.out _).mono ?_; rintro en w3 ⟨rfl, rfl⟩))
            go_ret
            exact ⟨rfl, HB2.out⟩
          ·rw [n23] at m0
           clear n23 fk1 n1
           by_cases z : 0 ≤ m.node ∧ m.node ≤ 7
           ·rw [decide_eq_true z] at h3
            have H3 := Lib.hid h3
            clear h3
            obtain rfl : rb = false := HNR.out fun hr => HSN.out (R2.out.1 hr).2.1
            go_wp2_with (first | (go_at_call 54; refine (H3.out _).mono ?_; rintro en w3 ⟨rfl, rfl⟩))
            go_ret
            exact ⟨rfl, HB2.out⟩
           ·rw [decide_eq_false z] at h3
            have H3 := Lib.hid h3
            clear h3
            obtain rfl : rb = false := HNR.out fun hr => z (R2.out.1 hr).1
            go_wp2_with (first | (go_at_call 54; refine (H3.out _).mono ?_; rintro en w3 ⟨rfl, rfl⟩))
            go_ret
            exact ⟨rfl, HB2.out⟩
         ·have fk2 : (m.kind == 2) = false := by simp; omega
          have fk3 : (m.kind == 3) = false := by simp; omega
          by_cases n4 : m.kind = 4
          ·have R4 := Lib.hid (HBASE.out.r4 n4)
           rw [n4] at m0
           clear fk1 fk2 fk3 n1 n23 n4
           by_cases q : m.seq ≤ 1
           ·have fq := decide_eq_true q
            by_cases z : m.node = 0
            ·have fz : (m.node == 0) = true := by simpa using z
             have Z := Lib.hid z
             have Q := Lib.hid q
             clear z q
             have hst := set17_any 4 m.frm m.to_ m.seq m.node m.u ma ea sa m.more.length mc m.evs.length ec m.ms.length sc w2
             have HST := Lib.hid hst
             have hmo := HM2.out.more
             rw [HMV.out] at hmo
             have hrr : ∀ W, Below w2.heap.size w2 W → Calls Tryz.prog 56 #[.agg #[.int .i64 (m.u 0), .int .i64 (m.u 1), .int .i64 (m.u 2), .int .i64 (m.u 3), .int .i64 (m.u 4), .int .i64 (m.u 5), .int .i64 (m.u 6), .int .i64 (m.u 7), .slice ma m.more.length mc]] W fun e w' => e = .returned (.bool m.set.rightB) ∧ Below W.heap.size W w' := fun W hW => refRight_any m.set ma mc W (hmo.below Dot.cells_len (by decide) hW (Nat.le_refl _)) (by have := HS.out.more; show m.more.length ≤ 1000000; omega)
             have HRR := Lib.hid hrr
             clear hst hmo hrr
             go_wp2_with fail
             refine HST.out.mono ?_
             rintro en w3 ⟨rfl, hb3⟩
             have HB3 := Lib.hid hb3
             go_wp2_with fail
             refine (HRR.out w3 HB3.out).mono ?_
             rintro en w4 ⟨rfl, hb4⟩
             have hb24 := HB3.out.trans (hb4.mono HB3.out.size)
             have m14 : w4.cell? ⟨w.heap.size, 14, none⟩ = some (.slice ea m.evs.length ec) := (hb24.cell (p := ⟨w.heap.size, 14, none⟩) hbx2).trans m14
             have HB4 := Lib.hid (HB2.out.trans (hb24.mono HB2.out.size))
             clear hb24 hb4 hb3 HB3 HST HRR
             cases hrb6 : m.set.rightB with
             | false =>
              have hnr6 : ¬ m.set.Right := fun h => by rw [DSet.rightB_true h] at hrb6; cases hrb6
              obtain rfl : rb = false := HNR.out fun hr => hnr6 (R4.out.1 hr).2.2.1
              go_wp2_with fail
              go_ret
              exact ⟨rfl, HB4.out⟩
             | true =>
              have hyr6 : m.set.Right := by
               by_cases h : m.set.Right
               ·exact h
               ·rw [DSet.rightB_false h] at hrb6; cases hrb6
              have HY6 := Lib.hid hyr6
              clear hyr6
              by_cases v : m.evs.length = 0
              ·have fv : ((m.evs.length : Int) == 0) = true := by simp [v]
               obtain rfl : rb = true := HYR.out (R4.out.2 ⟨Q.out, Z.out, HY6.out, v⟩)
               go_wp2_with fail
               go_ret
               exact ⟨rfl, HB4.out⟩
              ·have fv : ((m.evs.length : Int) == 0) = false := by simpa using v
               obtain rfl : rb = false := HNR.out fun hr => v (R4.out.1 hr).2.2.2
               go_wp2_with fail
               go_ret
               exact ⟨rfl, HB4.out⟩
            ·have fz : (m.node == 0) = false := by simpa using z
             obtain rfl : rb = false := HNR.out fun hr => z (R4.out.1 hr).2.1
             go_wp2_with fail
             go_ret
             exact ⟨rfl, HB2.out⟩
           ·have fq := decide_eq_false q
            obtain rfl : rb = false := HNR.out fun hr => q (R4.out.1 hr).1
            go_wp2_with fail
            go_ret
            exact ⟨rfl, HB2.out⟩
          ·have fk4 : (m.kind == 4) = false := by simpa using n4
           by_cases n5 : m.kind = 5
           ·have R5 := Lib.hid (HBASE.out.r5 n5)
            rw [n5] at m0
            clear fk1 fk2 fk3 fk4 n1 n23 n4 n5
            by_cases q : m.seq = 0
            ·have fq : (m.seq != 0) = false := by simpa using q
             by_cases z : m.node = 0
             ·have fz : (m.node != 0) = false := by simpa using z
              obtain rfl : rb = false := HNR.out fun hr => HSN.out (R5.out.1 hr).2.2.1
              go_wp2_with fail
              go_ret
              exact ⟨rfl, HB2.out⟩
             ·have fz : (m.node != 0) = true := by simpa using z
              obtain rfl : rb = false := HNR.out fun hr => z (R5.out.1 hr).2.1
              go_wp2_with fail
              go_ret
              exact ⟨rfl, HB2.out⟩
            ·have fq : (m.seq != 0) = true := by simpa using q
             obtain rfl : rb = false := HNR.out fun hr => q (R5.out.1 hr).1
             go_wp2_with fail
             go_ret
             exact ⟨rfl, HB2.out⟩
           ·have fk5 : (m.kind == 5) = false := by simpa using n5
            obtain rfl : rb = false := HNR.out fun hr => by have := hr.kind; omega
            go_wp2_with fail
            go_ret
            exact ⟨rfl, HB2.out⟩
    ·rw [decide_eq_false k4]
     obtain rfl : rb = false := HNR.out fun hr => k4 hr.ms
     go_wp2_with fail
     go_ret
     exact ⟨rfl, HB2.out⟩
  ·rw [decide_eq_false k2]
   obtain rfl : rb = false := HNR.out fun hr => k2 hr.to_
   go_wp2_with fail
   go_ret
   exact ⟨rfl, HB.out⟩
 ·rw [decide_eq_false k1]
  obtain rfl : rb = false := HNR.out fun hr => k1 hr.frm
  go_wp2_with fail
  go_ret
  exact ⟨rfl, HB.out⟩
end Go.Proofs.YtejihgfigclppaaGreat
