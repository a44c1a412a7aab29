/-
  May members be told so: the reference's node and Members.
  A message that a detector sends is right: the reference's Right at such messages.
-/
import Derived.Test.YtejihgfigclppaaGreatMBookP
import Derived.BigQuiet
import Derived.Deep.QuietTactic
import Derived.Test.YtejihgfigclppaaGreatMMsgA
import Derived.Shelf.Abstract
namespace Go.Proofs.YtejihgfigclppaaGreat
open Go.Shelf Go.RowKit Go.Lib Go.Sort
set_option linter.unusedVariables false
set_option linter.unusedSimpArgs false
theorem rise_len : ∀ (l : List Mb) (a : Int), (l.Pairwise fun a b => a.node < b.node) → (∀ m ∈ l, a ≤ m.node ∧ m.node ≤ 7) → l = [] ∨ (l.length : Int) ≤ 8 - a
  | [], _, _, _ => .inl rfl
  | m :: l, a, h, hb => by
    rw [List.pairwise_cons] at h
    have hm := hb m (List.mem_cons_self ..)
    rcases rise_len l (a + 1) h.2 (fun x hx => ⟨by have := h.1 x hx; omega, (hb x (List.mem_cons_of_mem _ hx)).2⟩) with e | e
    · right
      rw [e, List.length_cons, List.length_nil]
      omega
    · right
      rw [List.length_cons]
      omega
theorem msOk_len {l : List Mb} (h : MsOk l) : l.length ≤ 8 := by
  rcases rise_len l 0 h.2 (fun m hm => ⟨(h.1 m hm).1, (h.1 m hm).2.1⟩) with e | e
  · rw [e]; exact Nat.zero_le _
  · omega
set_option maxHeartbeats 4000000 in
theorem node17_any (n : Int) (w : World) : Calls Tryz.prog 54 #[.int .i64 n] w fun e w' => e = .returned (.bool (decide (0 ≤ n ∧ n ≤ 7))) ∧ w' = w := by
  by_cases h1 : 0 ≤ n
  · by_cases h2 : n < 8
    · have h3 : (decide (0 ≤ n ∧ n ≤ 7)) = true := decide_eq_true ⟨h1, by omega⟩
      rw [h3]
      go_enter Tryz.func54, Tryz.ntmps54
      go_wp2_with fail
      go_ret
      exact ⟨rfl, rfl⟩
    · have h3 : (decide (0 ≤ n ∧ n ≤ 7)) = false := decide_eq_false fun h => h2 (by omega)
      rw [h3]
      go_enter Tryz.func54, Tryz.ntmps54
      go_wp2_with fail
      go_ret
      exact ⟨rfl, rfl⟩
  · have h3 : (decide (0 ≤ n ∧ n ≤ 7)) = false := decide_eq_false fun h => h1 h.1
    rw [h3]
    go_enter Tryz.func54, Tryz.ntmps54
    go_wp2_with fail
    go_ret
    exact ⟨rfl, rfl⟩
theorem lastNode_of {l : List Mb} {i : Nat} (h : 0 < i) (hi : i - 1 < l.length) : lastNode l i = l[i - 1].node := by
  unfold lastNode
  rw [if_neg (by omega)]
  simp [List.getD, List.getElem?_eq_getElem hi]
set_option maxRecDepth 100000 in
set_option maxHeartbeats 16000000 in
theorem members17_any (oa : Option Addr) (cap : Nat) (l : List Mb) (w : World) (h : SlAt Mb.cells w (.slice oa l.length cap) l) (hl : l.length ≤ 1000000) :
    Calls Tryz.prog 55 #[.slice oa l.length cap] w fun e w' => e = .returned (.bool (decide (MsOk l))) ∧ Below w.heap.size w w' := by
  have hp : Tryz.prog.follows .mixedOrders = true := by kernel_rfl
  by_cases h8 : (8 : Int) < (l.length : Int)
  · rw [decide_eq_false fun hm => by have := msOk_len hm; omega]
    go_enter Tryz.func55, Tryz.ntmps55
    go_wp2_with fail
    go_ret
    exact ⟨rfl, Below.refl _ _⟩
  have HSL1 := Lib.hid h
  clear h
  go_enter Tryz.func55, Tryz.ntmps55
  go_wp2_with fail
  go_loopg [3, 4, 10] l.length (fun gk s3 s4 s10 wr => ∃ (i : Nat), s10 = .int .i64 i ∧ i ≤ l.length ∧ l.length - i ≤ gk ∧ Hid (MsTo l i) ∧ Hid (Below w.heap.size w wr))
  case atStart => exact ⟨0, rfl, Nat.zero_le _, Nat.le_refl _, msTo_zero l, Below.refl _ _⟩
  case round =>
    obtain ⟨i, rfl, hi, hg, HP, HB⟩ := hrel
    by_cases hlt : i < l.length
    · have hltz : (i : Int) < (l.length : Int) := by omega
      have hsl := HSL1.out.below Mb.cells_len (by decide) HB.out (Nat.le_refl _)
      obtain ⟨b, off, rfl⟩ := hsl.plain Mb.cells_len (by decide) (by intro e; rw [e] at hlt; exact absurd hlt (by simp))
      have c0 := hsl.cell Mb.cells_len (i := i) (c := 0) hlt (by decide)
      have c1 := hsl.cell Mb.cells_len (i := i) (c := 1) hlt (by decide)
      have c2 := hsl.cell Mb.cells_len (i := i) (c := 2) hlt (by decide)
      replace c0 : wr.cell? ⟨b, off + i * 3, none⟩ = some (.int .i64 l[i].node) := c0
      replace c1 : wr.cell? ⟨b, off + i * 3 + 1, none⟩ = some (.int .i64 l[i].st) := c1
      replace c2 : wr.cell? ⟨b, off + i * 3 + 2, none⟩ = some (.int .i64 l[i].inc) := c2
      have hstep := msTo_step HP.out hlt
      have hlast := fun (hr : MsOk l) => msOk_last hr hlt
      have hmay := fun (hr : MsOk l) => hr.1 l[i] (List.getElem_mem hlt)
      have hpc : ∀ (hz : 0 < i), wr.cell? ⟨b, off + (i - 1) * 3, none⟩ = some (.int .i64 (lastNode l i)) := fun hz => by
        rw [lastNode_of hz (by omega)]
        exact hsl.cell Mb.cells_len (i := i - 1) (c := 0) (by omega) (by decide)
      have hbl := hsl.lt Mb.cells_len (by decide) (by intro e; rw [e] at hlt; exact absurd hlt (by simp)) b rfl
      have hx : ∃ x, l[i] = x := ⟨_, rfl⟩
      obtain ⟨⟨n, s, c⟩, hx⟩ := hx
      rw [hx] at c0 c1 c2 hstep hlast hmay
      dsimp only at c0 c1 c2 hstep hlast hmay
      have h1 := fun W => node17_any n W
      have hl0 : i = 0 → lastNode l i = -1 := fun e => by rw [e]; rfl
      obtain ⟨W, hW⟩ : ∃ W, wr.alloc (.cells #[.int .i64 n, .int .i64 s, .int .i64 c] 45) = W := ⟨_, rfl⟩
      have hbW : Below wr.heap.size wr W := by rw [← hW]; exact (Below.refl _ _).alloc (Nat.le_refl _) _
      have hrow : W.heap[wr.heap.size]? = some (.cells #[.int .i64 n, .int .i64 s, .int .i64 c] 45) := by rw [← hW]; exact heap_alloc_new wr _
      have x0 : W.cell? ⟨wr.heap.size, 0, none⟩ = some (.int .i64 n) := cell_of_row W _ 0 _ _ _ hrow
      have x1 : W.cell? ⟨wr.heap.size, 1, none⟩ = some (.int .i64 s) := cell_of_row W _ 1 _ _ _ hrow
      have x2 : W.cell? ⟨wr.heap.size, 2, none⟩ = some (.int .i64 c) := cell_of_row W _ 2 _ _ _ hrow
      have hpW : ∀ (hz : 0 < i), W.cell? ⟨b, off + (i - 1) * 3, none⟩ = some (.int .i64 (lastNode l i)) := fun hz => (hbW.cell (p := ⟨b, off + (i - 1) * 3, none⟩) hbl).trans (hpc hz)
      have HPW := Lib.hid hpW
      have H1 := Lib.hid h1
      have HSTEP := Lib.hid hstep
      have HLAST := Lib.hid hlast
      have HMAY := Lib.hid hmay
      have HL0 := Lib.hid hl0
      have HWW := Lib.hid hW
      have HB2 := Lib.hid (HB.out.trans (hbW.mono HB.out.size))
      clear h1 hstep hlast hmay hsl HP HB hx hpc hpW hW hrow hbl hbW
      generalize lastNode l i = la at *
      by_cases k1 : 0 ≤ n ∧ n ≤ 7
      · have d1 := decide_eq_true k1
        rw [d1] at H1
        clear d1
        by_cases k2 : s < 1
        · have f_k2 := decide_eq_true k2
          go_wp2_with fail
          rw [HWW.out]
          go_big_quiet (first | (go_at_call 54; refine Calls.quiet_of_same (H1.out _)))
          go_wp2_with fail
          go_ret
          exact ⟨congrArg (fun b => Ending.returned (.bool b)) (decide_eq_false fun hr => by have hq := HMAY.out hr; have q1 := hq.1; have q2 := hq.2.1; have q3 := hq.2.2.1; have q4 := hq.2.2.2.1; have q5 := hq.2.2.2.2.1; have q6 := hq.2.2.2.2.2; dsimp only at q1 q2 q3 q4 q5 q6; omega).symm, HB2.out.trans ((below_drewN W nq).mono HB2.out.size)⟩
        · have f_k2 := decide_eq_false k2
          by_cases k3 : 4 < s
          · have f_k3 := decide_eq_true k3
            go_wp2_with fail
            rw [HWW.out]
            go_big_quiet (first | (go_at_call 54; refine Calls.quiet_of_same (H1.out _)))
            go_wp2_with fail
            go_ret
            exact ⟨congrArg (fun b => Ending.returned (.bool b)) (decide_eq_false fun hr => by have hq := HMAY.out hr; have q1 := hq.1; have q2 := hq.2.1; have q3 := hq.2.2.1; have q4 := hq.2.2.2.1; have q5 := hq.2.2.2.2.1; have q6 := hq.2.2.2.2.2; dsimp only at q1 q2 q3 q4 q5 q6; omega).symm, HB2.out.trans ((below_drewN W nq).mono HB2.out.size)⟩
          · have f_k3 := decide_eq_false k3
            by_cases k4 : c < 0
            · have f_k4 := decide_eq_true k4
              go_wp2_with fail
              rw [HWW.out]
              go_big_quiet (first | (go_at_call 54; refine Calls.quiet_of_same (H1.out _)))
              go_wp2_with fail
              go_ret
              exact ⟨congrArg (fun b => Ending.returned (.bool b)) (decide_eq_false fun hr => by have hq := HMAY.out hr; have q1 := hq.1; have q2 := hq.2.1; have q3 := hq.2.2.1; have q4 := hq.2.2.2.1; have q5 := hq.2.2.2.2.1; have q6 := hq.2.2.2.2.2; dsimp only at q1 q2 q3 q4 q5 q6; omega).symm, HB2.out.trans ((below_drewN W nq).mono HB2.out.size)⟩
            · have f_k4 := decide_eq_false k4
              by_cases k5 : 1099511627776 < c
              · have f_k5 := decide_eq_true k5
                go_wp2_with fail
                rw [HWW.out]
                go_big_quiet (first | (go_at_call 54; refine Calls.quiet_of_same (H1.out _)))
                go_wp2_with fail
                go_ret
                exact ⟨congrArg (fun b => Ending.returned (.bool b)) (decide_eq_false fun hr => by have hq := HMAY.out hr; have q1 := hq.1; have q2 := hq.2.1; have q3 := hq.2.2.1; have q4 := hq.2.2.2.1; have q5 := hq.2.2.2.2.1; have q6 := hq.2.2.2.2.2; dsimp only at q1 q2 q3 q4 q5 q6; omega).symm, HB2.out.trans ((below_drewN W nq).mono HB2.out.size)⟩
              · have f_k5 := decide_eq_false k5
                by_cases hz : (0 : Int) < (i : Int)
                · have f_z : decide (0 < i) = true := decide_eq_true (by omega)
                  have y0 := HPW.out (by omega)
                  have hsub : ((i : Int) - 1) = ((i - 1 : Nat) : Int) := by omega
                  have hw1 : IntKind.i64.wrap ((i : Int) - 1) = ((i - 1 : Nat) : Int) := by rw [hsub]; rw [IntKind.wrap_i64]; omega
                  have hl1 : i - 1 < l.length := by omega
                  have hl1z : ((i - 1 : Nat) : Int) < (l.length : Int) := by omega
                  have hl0z : ¬ ((i - 1 : Nat) : Int) < 0 := by omega
                  clear hsub
                  by_cases k6 : n ≤ la
                  · have f_k6 := decide_eq_true k6
                    go_wp2_with fail
                    rw [HWW.out]
                    go_big_quiet (first | (go_at_call 54; refine Calls.quiet_of_same (H1.out _)))
                    go_wp2_with fail
                    go_ret
                    exact ⟨congrArg (fun b => Ending.returned (.bool b)) (decide_eq_false fun hr => by have hq := HLAST.out hr; omega).symm, HB2.out.trans ((below_drewN W nq).mono HB2.out.size)⟩
                  · have f_k6 := decide_eq_false k6
                    go_wp2_with fail
                    rw [HWW.out]
                    go_big_quiet (first | (go_at_call 54; refine Calls.quiet_of_same (H1.out _)))
                    go_wp2_with fail
                    go_roundg (l.length - (i + 1))
                    case measure => omega
                    case rel => exact ⟨i + 1, by go_num, by omega, Nat.le_refl _, HSTEP.out ⟨by show 0 ≤ n; omega, by show n ≤ 7; omega, by show 1 ≤ s; omega, by show s ≤ 4; omega, by show 0 ≤ c; omega, by show c ≤ 1099511627776; omega⟩ (by show la < n; omega), HB2.out.trans ((below_drewN W nq).mono HB2.out.size)⟩
                · have f_z : decide (0 < i) = false := decide_eq_false (by omega)
                  have hla := HL0.out (by omega)
                  go_wp2_with fail
                  rw [HWW.out]
                  go_big_quiet (first | (go_at_call 54; refine Calls.quiet_of_same (H1.out _)))
                  go_wp2_with fail
                  go_roundg (l.length - (i + 1))
                  case measure => omega
                  case rel => exact ⟨i + 1, by go_num, by omega, Nat.le_refl _, HSTEP.out ⟨by show 0 ≤ n; omega, by show n ≤ 7; omega, by show 1 ≤ s; omega, by show s ≤ 4; omega, by show 0 ≤ c; omega, by show c ≤ 1099511627776; omega⟩ (by show la < n; omega), HB2.out.trans ((below_drewN W nq).mono HB2.out.size)⟩
      · have d1 := decide_eq_false k1
        rw [d1] at H1
        clear d1
        go_wp2_with fail
        rw [HWW.out]
        go_big_quiet (first | (go_at_call 54; refine Calls.quiet_of_same (H1.out _)))
        go_wp2_with fail
        go_ret
        exact ⟨congrArg (fun b => Ending.returned (.bool b)) (decide_eq_false fun hr => by have hq := HMAY.out hr; have q1 := hq.1; have q2 := hq.2.1; have q3 := hq.2.2.1; have q4 := hq.2.2.2.1; have q5 := hq.2.2.2.2.1; have q6 := hq.2.2.2.2.2; dsimp only at q1 q2 q3 q4 q5 q6; omega).symm, HB2.out.trans ((below_drewN W nq).mono HB2.out.size)⟩
    · have hltz : ¬ (i : Int) < (l.length : Int) := by omega
      obtain rfl : i = l.length := by omega
      go_wp2_with fail
      go_ret
      exact ⟨congrArg (fun b => Ending.returned (.bool b)) (decide_eq_true (msTo_done HP.out)).symm, HB.out⟩
end Go.Proofs.YtejihgfigclppaaGreat
namespace Go.Proofs.YtejihgfigclppaaGreat
open Go.Shelf Go.RowKit Go.Lib Go.Sort
set_option linter.unusedVariables false
set_option linter.unusedSimpArgs false
set_option maxRecDepth 100000 in
set_option maxHeartbeats 16000000 in
theorem right17_sent (m : Msg) (hk : m.kind = 1 ∨ m.kind = 2 ∨ m.kind = 3) (hr : m.right) (hs : m.ms.length ≤ 8) (w : World) (h : MsgIn w m) : Calls Tryz.prog 22 #[.agg #[.int .i64 m.kind, .int .i64 m.frm, .int .i64 m.to_, .int .i64 m.seq, .int .i64 m.node, .int .i64 (m.u 0), .int .i64 (m.u 1), .int .i64 (m.u 2), .int .i64 (m.u 3), .int .i64 (m.u 4), .int .i64 (m.u 5), .int .i64 (m.u 6), .int .i64 (m.u 7), m.hm.val, m.he.val, m.hs.val]] w fun en w' => en = .returned (.bool true) ∧ Below w.heap.size w w' := by
  have hp : Tryz.prog.follows .mixedOrders = true := by kernel_rfl
  obtain ⟨w1, hw1⟩ : ∃ w1, w.alloc (.cells #[.int .i64 m.kind, .int .i64 m.frm, .int .i64 m.to_, .int .i64 m.seq, .int .i64 m.node, .int .i64 (m.u 0), .int .i64 (m.u 1), .int .i64 (m.u 2), .int .i64 (m.u 3), .int .i64 (m.u 4), .int .i64 (m.u 5), .int .i64 (m.u 6), .int .i64 (m.u 7), m.hm.val, m.he.val, m.hs.val] 42) = w1 := ⟨_, rfl⟩
  have hb : Below w.heap.size w w1 := by rw [← hw1]; exact (Below.refl _ _).alloc (Nat.le_refl _) _
  have hrow : w1.heap[w.heap.size]? = some (.cells #[.int .i64 m.kind, .int .i64 m.frm, .int .i64 m.to_, .int .i64 m.seq, .int .i64 m.node, .int .i64 (m.u 0), .int .i64 (m.u 1), .int .i64 (m.u 2), .int .i64 (m.u 3), .int .i64 (m.u 4), .int .i64 (m.u 5), .int .i64 (m.u 6), .int .i64 (m.u 7), m.hm.val, m.he.val, m.hs.val] 42) := by rw [← hw1]; exact heap_alloc_new w _
  have hbx : w.heap.size < w1.heap.size := (Array.getElem?_eq_some_iff.1 hrow).1
  have hM := h.below hb (Nat.le_refl _)
  obtain ⟨sa, sc, hsv, _⟩ := hM.ms.slice_of
  obtain ⟨ma, mc, hmv, _⟩ := hM.more.slice_of
  obtain ⟨ea, ec, hev, _⟩ := hM.evs.1.slice_of
  have k1 := decide_eq_true hr.frm
  have k2 := decide_eq_true hr.to_
  have k5 := decide_eq_true hr.ms
  have h1 := fun W => node17_any m.frm W
  have h2 := fun W => node17_any m.to_ W
  have h5 := members17_any sa sc m.ms w1 (by rw [← hsv]; exact hM.ms) (by omega)
  rw [k1] at h1
  rw [k2] at h2
  rw [k5] at h5
  have hne : (m.frm == m.to_) = false := by simpa using hr.ne
  have hq0 : ¬ m.seq < 0 := by have := hr.seq.1; omega
  have hq1 : ¬ 1099511627776 < m.seq := by
    have h1 := hr.seq.2
    unfold seqMost at h1
    rw [if_pos hk] at h1
    omega
  have fq0 := decide_eq_false hq0
  have fq1 := decide_eq_false hq1
  have h4 : ¬ m.kind = 4 := by omega
  have h5' : ¬ m.kind = 5 := by omega
  obtain ⟨hu, hm0⟩ : noUpto m.u ∧ m.more.length = 0 := by
    have := hr.seen
    unfold Msg.seenOk at this
    rwa [if_neg h4] at this
  have he0 : m.evs.length = 0 := by
    have := hr.evs
    unfold Msg.evsOk at this
    rwa [if_neg h5'] at this
  have heq := run_eql_up m.u
  rw [decide_eq_true hu] at heq
  have hnd := hr.node
  unfold Msg.nodeOk at hnd
  rw [hm0] at hmv
  rw [he0] at hev
  have c0 : w1.cell? ⟨w.heap.size, 0, none⟩ = some (.int .i64 m.kind) := cell_of_row w1 _ 0 _ _ _ hrow
  have c1 : w1.cell? ⟨w.heap.size, 1, none⟩ = some (.int .i64 m.frm) := cell_of_row w1 _ 1 _ _ _ hrow
  have c2 : w1.cell? ⟨w.heap.size, 2, none⟩ = some (.int .i64 m.to_) := cell_of_row w1 _ 2 _ _ _ hrow
  have c3 : w1.cell? ⟨w.heap.size, 3, none⟩ = some (.int .i64 m.seq) := cell_of_row w1 _ 3 _ _ _ hrow
  have c15 : w1.cell? ⟨w.heap.size, 15, none⟩ = some (.slice sa m.ms.length sc) := by rw [← hsv]; exact cell_of_row w1 _ 15 _ _ _ hrow
  have H1 := Lib.hid h1
  have H2 := Lib.hid h2
  have H5 := Lib.hid h5
  have HB := Lib.hid hb
  have HROW := Lib.hid hrow
  have HW1 := Lib.hid hw1
  have HK := Lib.hid hk
  have HND := Lib.hid hnd
  have HEQ := Lib.hid heq
  have HMV := Lib.hid hmv
  have HEV := Lib.hid hev
  clear h1 h2 h5 hb hrow hw1 hM h hsv hmv hev hk hnd heq hr hs k1 k2 k5 hu hm0 he0 h4 h5'
  go_enter Tryz.func22, Tryz.ntmps22
  go_wp2_with fail
  rw [HW1.out]
  go_wp2_with (first | (go_at_call_of 54 (Value.int .i64 m.frm); refine (H1.out _).mono ?_; rintro en w2 ⟨rfl, rfl⟩) | (go_at_call_of 54 (Value.int .i64 m.to_); refine (H2.out _).mono ?_; rintro en w2 ⟨rfl, rfl⟩))
  refine (H5.out).mono ?_
  rintro en w2 ⟨rfl, hb2⟩
  have hrow2 := (hb2.block _ hbx).trans HROW.out
  have c0 : w2.cell? ⟨w.heap.size, 0, none⟩ = some (.int .i64 m.kind) := cell_of_row w2 _ 0 _ _ _ hrow2
  have c4 : w2.cell? ⟨w.heap.size, 4, none⟩ = some (.int .i64 m.node) := cell_of_row w2 _ 4 _ _ _ hrow2
  have m5 : w2.cell? ⟨w.heap.size, 5, none⟩ = some (.int .i64 (m.u 0)) := cell_of_row w2 _ 5 _ _ _ hrow2
  have m6 : w2.cell? ⟨w.heap.size, 6, none⟩ = some (.int .i64 (m.u 1)) := cell_of_row w2 _ 6 _ _ _ hrow2
  have m7 : w2.cell? ⟨w.heap.size, 7, none⟩ = some (.int .i64 (m.u 2)) := cell_of_row w2 _ 7 _ _ _ hrow2
  have m8 : w2.cell? ⟨w.heap.size, 8, none⟩ = some (.int .i64 (m.u 3)) := cell_of_row w2 _ 8 _ _ _ hrow2
  have m9 : w2.cell? ⟨w.heap.size, 9, none⟩ = some (.int .i64 (m.u 4)) := cell_of_row w2 _ 9 _ _ _ hrow2
  have m10 : w2.cell? ⟨w.heap.size, 10, none⟩ = some (.int .i64 (m.u 5)) := cell_of_row w2 _ 10 _ _ _ hrow2
  have m11 : w2.cell? ⟨w.heap.size, 11, none⟩ = some (.int .i64 (m.u 6)) := cell_of_row w2 _ 11 _ _ _ hrow2
  have m12 : w2.cell? ⟨w.heap.size, 12, none⟩ = some (.int .i64 (m.u 7)) := cell_of_row w2 _ 12 _ _ _ hrow2
  have m13 : w2.cell? ⟨w.heap.size, 13, none⟩ = some (.slice ma 0 mc) := by rw [← HMV.out]; exact cell_of_row w2 _ 13 _ _ _ hrow2
  have m14 : w2.cell? ⟨w.heap.size, 14, none⟩ = some (.slice ea 0 ec) := by rw [← HEV.out]; exact cell_of_row w2 _ 14 _ _ _ hrow2
  have c3 : w2.cell? ⟨w.heap.size, 3, none⟩ = some (.int .i64 m.seq) := cell_of_row w2 _ 3 _ _ _ hrow2
  have heq := HEQ.out
  have HB2 := Lib.hid (HB.out.trans (hb2.mono HB.out.size))
  clear hrow2 hb2 H1 H2 H5 HB HROW HW1 HEQ HMV HEV hbx c1 c2 c15 hne hq0 hq1
  rcases HK.out with hk | hk | hk
  · have hn0 : m.node = 0 := by
      rcases HND.out with ⟨h, _⟩ | h
      · omega
      · exact h
    rw [hk] at c0
    rw [hn0] at c4
    clear HK HND hk hn0
    go_wp2_with fail
    go_ret
    exact ⟨rfl, HB2.out⟩
  · have hn0 : 0 ≤ m.node ∧ m.node ≤ 7 := by
      rcases HND.out with ⟨_, h⟩ | h
      · exact h
      · omega
    have h3 := fun W => node17_any m.node W
    rw [decide_eq_true hn0] at h3
    rw [hk] at c0
    have H3 := Lib.hid h3
    clear HK HND hk hn0 h3
    go_wp2_with (first | (go_at_call 54; refine (H3.out _).mono ?_; rintro en w3 ⟨rfl, rfl⟩))
    go_ret
    exact ⟨rfl, HB2.out⟩
  · have hn0 : 0 ≤ m.node ∧ m.node ≤ 7 := by
      rcases HND.out with ⟨_, h⟩ | h
      · exact h
      · omega
    have h3 := fun W => node17_any m.node W
    rw [decide_eq_true hn0] at h3
    rw [hk] at c0
    have H3 := Lib.hid h3
    clear HK HND hk hn0 h3
    go_wp2_with (first | (go_at_call 54; refine (H3.out _).mono ?_; rintro en w3 ⟨rfl, rfl⟩))
    go_ret
    exact ⟨rfl, HB2.out⟩
end Go.Proofs.YtejihgfigclppaaGreat
