/-
  The same words, numbers, messages sent: the reference's comparisons, where both are the same.
  All messages sent compared: the reference's All, where both rows are the same.
-/
import Derived.Test.YtejihgfigclppaaGreatRef07
import Derived.Test.YtejihgfigclppaaGreatSwimF
import Derived.Test.YtejihgfigclppaaGreatMLaw20b
import Derived.BigQuiet
namespace Go.Proofs.YtejihgfigclppaaGreat
open Go.Shelf Go.RowKit Go.Lib Go.Sort
set_option linter.unusedVariables false
set_option linter.unusedSimpArgs false
theorem run_neq_mem (n s i : Int) (w : World) : (binOp .neq 45 (.agg #[.int .i64 n, .int .i64 s, .int .i64 i]) (.agg #[.int .i64 n, .int .i64 s, .int .i64 i])).run Tryz.prog w = .ok (.bool false) w := by
 go_simp
 try simp
theorem run_neq_up0 (w : World) : (binOp .neq 37 (.agg #[.int .i64 0, .int .i64 0, .int .i64 0, .int .i64 0, .int .i64 0, .int .i64 0, .int .i64 0, .int .i64 0]) (.agg #[.int .i64 0, .int .i64 0, .int .i64 0, .int .i64 0, .int .i64 0, .int .i64 0, .int .i64 0, .int .i64 0])).run Tryz.prog w = .ok (.bool false) w := by
 go_simp
 obtain ⟨i, hi⟩ := Option.isSome_iff_exists.1 (show (Tryz.prog.info? 3).isSome = true by kernel_rfl)
 have hc : Tryz.prog.cellsOf 3 = 1 := by kernel_rfl
 rw [show (10000 : Nat) = 9999 + 1 from rfl, run_equalIn_array w 9999 _ _ Tryz.underlying37 hi, hc, show List.range 8 = [0, 1, 2, 3, 4, 5, 6, 7] from rfl]
 simp only [Op.eqItems]
 go_simp
 try simp
set_option maxHeartbeats 4000000 in
theorem words_same (oa ob : Option Addr) (ca cb : Nat) (l : List Mb) (w : World) (ha : SlAt Mb.cells w (.slice oa l.length ca) l) (hb : SlAt Mb.cells w (.slice ob l.length cb) l) (hl : l.length ≤ 1000000) :
  Calls Tryz.prog 32 #[.slice oa l.length ca, .slice ob l.length cb] w fun e w' => e = .returned (.bool true) ∧ ∃ q, w' = w.drewN q := by
 have HA := Lib.hid ha
 have HB := Lib.hid hb
 clear ha hb
 go_enter Tryz.func32, Tryz.ntmps32
 go_wp2_with fail
 go_loopg [5, 13] l.length (fun gk s5 s13 wr => ∃ (i q : Nat), s13 = .int .i64 i ∧ i ≤ l.length ∧ l.length - i ≤ gk ∧ wr = w.drewN q)
 case atStart => exact ⟨0, 0, rfl, Nat.zero_le _, Nat.le_refl _, rfl⟩
 case round =>
  obtain ⟨i, q, rfl, hi, hg, rfl⟩ := hrel
  by_cases hlt : i < l.length
  ·have hltz : (i : Int) < (l.length : Int) := by omega
   have hsa := HA.out
   have hsb := HB.out
   obtain ⟨b1, off1, rfl⟩ := hsa.plain Mb.cells_len (by decide) (by intro e; rw [e] at hlt; exact absurd hlt (by simp))
   obtain ⟨b2, off2, rfl⟩ := hsb.plain Mb.cells_len (by decide) (by intro e; rw [e] at hlt; exact absurd hlt (by simp))
   have c0 : w.cell? ⟨b1, off1 + i * 3, none⟩ = some (.int .i64 l[i].node) := hsa.cell Mb.cells_len (i := i) (c := 0) hlt (by decide)
   have c1 : w.cell? ⟨b1, off1 + i * 3 + 1, none⟩ = some (.int .i64 l[i].st) := hsa.cell Mb.cells_len (i := i) (c := 1) hlt (by decide)
   have c2 : w.cell? ⟨b1, off1 + i * 3 + 2, none⟩ = some (.int .i64 l[i].inc) := hsa.cell Mb.cells_len (i := i) (c := 2) hlt (by decide)
   have d0 : w.cell? ⟨b2, off2 + i * 3, none⟩ = some (.int .i64 l[i].node) := hsb.cell Mb.cells_len (i := i) (c := 0) hlt (by decide)
   have d1 : w.cell? ⟨b2, off2 + i * 3 + 1, none⟩ = some (.int .i64 l[i].st) := hsb.cell Mb.cells_len (i := i) (c := 1) hlt (by decide)
   have d2 : w.cell? ⟨b2, off2 + i * 3 + 2, none⟩ = some (.int .i64 l[i].inc) := hsb.cell Mb.cells_len (i := i) (c := 2) hlt (by decide)
   have hne := run_neq_mem l[i].node l[i].st l[i].inc
   generalize l[i] = y at *
   clear hsa hsb
   go_wp2_with fail
   go_big_quiet (fail)
   go_wp2_with fail
   go_roundg (l.length - (i + 1))
   case measure => omega
   case rel => exact ⟨i + 1, q + nq, by go_num, by omega, Nat.le_refl _, by first | rfl | exact World.drewN_drewN _ _ _⟩
  ·have hltz : ¬ (i : Int) < (l.length : Int) := by omega
   go_wp2_with fail
   go_ret
   exact ⟨rfl, q, rfl⟩
set_option maxHeartbeats 2000000 in
theorem ints_same (oa ob : Option Addr) (ca cb : Nat) (l : List Int) (w : World) (ha : SlAt icells w (.slice oa l.length ca) l) (hb : SlAt icells w (.slice ob l.length cb) l) (hl : l.length ≤ 1000000) :
  Calls Tryz.prog 23 #[.slice oa l.length ca, .slice ob l.length cb] w fun e w' => e = .returned (.bool true) ∧ ∃ q, w' = w.drewN q := by
 have HA := Lib.hid ha
 have HB := Lib.hid hb
 clear ha hb
 go_enter Tryz.func23, Tryz.ntmps23
 go_wp2_with fail
 go_loopg [5, 13] l.length (fun gk s5 s13 wr => ∃ (i q : Nat), s13 = .int .i64 i ∧ i ≤ l.length ∧ l.length - i ≤ gk ∧ wr = w.drewN q)
 case atStart => exact ⟨0, 0, rfl, Nat.zero_le _, Nat.le_refl _, rfl⟩
 case round =>
  obtain ⟨i, q, rfl, hi, hg, rfl⟩ := hrel
  by_cases hlt : i < l.length
  ·have hltz : (i : Int) < (l.length : Int) := by omega
   have hsa := HA.out
   have hsb := HB.out
   obtain ⟨b1, off1, rfl⟩ := hsa.plain icells_len (by decide) (by intro e; rw [e] at hlt; exact absurd hlt (by simp))
   obtain ⟨b2, off2, rfl⟩ := hsb.plain icells_len (by decide) (by intro e; rw [e] at hlt; exact absurd hlt (by simp))
   have c1 : w.cell? ⟨b1, off1 + i, none⟩ = some (.int .i64 (l[i]'hlt)) := by
    have := hsa.cell icells_len (i := i) (c := 0) hlt (by decide)
    simpa [icells] using this
   have c2 : w.cell? ⟨b2, off2 + i, none⟩ = some (.int .i64 (l[i]'hlt)) := by
    have := hsb.cell icells_len (i := i) (c := 0) hlt (by decide)
    simpa [icells] using this
   generalize l[i]'hlt = y at c1 c2
   clear hsa hsb
   go_wp2_with fail
   go_big_quiet (fail)
   go_wp2_with fail
   go_roundg (l.length - (i + 1))
   case measure => omega
   case rel => exact ⟨i + 1, q + nq, by go_num, by omega, Nat.le_refl _, by first | rfl | exact World.drewN_drewN _ _ _⟩
  ·have hltz : ¬ (i : Int) < (l.length : Int) := by omega
   go_wp2_with fail
   go_ret
   exact ⟨rfl, q, rfl⟩
set_option maxHeartbeats 2000000 in
theorem all07_nil (w : World) : Calls Tryz.prog 102 #[.slice none 0 0, .slice none 0 0] w fun e w' => e = .returned (.bool true) ∧ w' = w := by
 go_enter Tryz.func102, Tryz.ntmps102
 go_wp2_with fail
 go_loopg [5, 13] 0 (fun gk s5 s13 wr => s13 = .int .i64 0 ∧ wr = w)
 case atStart => exact ⟨rfl, rfl⟩
 case round =>
  obtain ⟨rfl, rfl⟩ := hrel
  go_wp2_with fail
  go_ret
  exact ⟨rfl, rfl⟩
set_option maxRecDepth 100000 in
set_option maxHeartbeats 16000000 in
theorem same17_sent (s : Sent) (o1 o2 : Option Addr) (c1 c2 : Nat) (w : World) (hl : s.ms.length ≤ 1000000) (ha : SlAt Mb.cells w (.slice o1 s.ms.length c1) s.ms) (hb : SlAt Mb.cells w (.slice o2 s.ms.length c2) s.ms) :
  Calls Tryz.prog 69 #[.agg #[.int .i64 s.kind, .int .i64 s.frm, .int .i64 s.to_, .int .i64 s.seq, .int .i64 s.node, .int .i64 0, .int .i64 0, .int .i64 0, .int .i64 0, .int .i64 0, .int .i64 0, .int .i64 0, .int .i64 0, .slice none 0 0, .slice none 0 0, .slice o1 s.ms.length c1], .agg #[.int .i64 s.kind, .int .i64 s.frm, .int .i64 s.to_, .int .i64 s.seq, .int .i64 s.node, .int .i64 0, .int .i64 0, .int .i64 0, .int .i64 0, .int .i64 0, .int .i64 0, .int .i64 0, .int .i64 0, .slice none 0 0, .slice none 0 0, .slice o2 s.ms.length c2]] w fun e w' => e = .returned (.bool true) ∧ Below w.heap.size w w' := by
 have hp : Tryz.prog.follows .mixedOrders = true := by kernel_rfl
 obtain ⟨h0, h1, hb2, hsz⟩ := alloc2 w (.cells #[.int .i64 s.kind, .int .i64 s.frm, .int .i64 s.to_, .int .i64 s.seq, .int .i64 s.node, .int .i64 0, .int .i64 0, .int .i64 0, .int .i64 0, .int .i64 0, .int .i64 0, .int .i64 0, .int .i64 0, .slice none 0 0, .slice none 0 0, .slice o1 s.ms.length c1] 42) (.cells #[.int .i64 s.kind, .int .i64 s.frm, .int .i64 s.to_, .int .i64 s.seq, .int .i64 s.node, .int .i64 0, .int .i64 0, .int .i64 0, .int .i64 0, .int .i64 0, .int .i64 0, .int .i64 0, .int .i64 0, .slice none 0 0, .slice none 0 0, .slice o2 s.ms.length c2] 42)
 obtain ⟨w2, hw2⟩ : ∃ w2, (w.alloc (.cells #[.int .i64 s.kind, .int .i64 s.frm, .int .i64 s.to_, .int .i64 s.seq, .int .i64 s.node, .int .i64 0, .int .i64 0, .int .i64 0, .int .i64 0, .int .i64 0, .int .i64 0, .int .i64 0, .int .i64 0, .slice none 0 0, .slice none 0 0, .slice o1 s.ms.length c1] 42)).alloc (.cells #[.int .i64 s.kind, .int .i64 s.frm, .int .i64 s.to_, .int .i64 s.seq, .int .i64 s.node, .int .i64 0, .int .i64 0, .int .i64 0, .int .i64 0, .int .i64 0, .int .i64 0, .int .i64 0, .int .i64 0, .slice none 0 0, .slice none 0 0, .slice o2 s.ms.length c2] 42) = w2 := ⟨_, rfl⟩
 rw [hw2] at h0 h1 hb2 hsz
 have ha2 := ha.below Mb.cells_len (by decide) hb2 (Nat.le_refl _)
 have hbb2 := hb.below Mb.cells_len (by decide) hb2 (Nat.le_refl _)
 have hdt := dots_any none none 0 0 [] w2 (SlAt.nil _ _) (SlAt.nil _ _) (by decide)
 have heq := run_neq_up0
 have a0 : w2.cell? ⟨w.heap.size, 0, none⟩ = some (.int .i64 s.kind) := cell_of_row w2 _ 0 _ _ _ h0
 have a1 : w2.cell? ⟨w.heap.size, 1, none⟩ = some (.int .i64 s.frm) := cell_of_row w2 _ 1 _ _ _ h0
 have a2 : w2.cell? ⟨w.heap.size, 2, none⟩ = some (.int .i64 s.to_) := cell_of_row w2 _ 2 _ _ _ h0
 have a3 : w2.cell? ⟨w.heap.size, 3, none⟩ = some (.int .i64 s.seq) := cell_of_row w2 _ 3 _ _ _ h0
 have a4 : w2.cell? ⟨w.heap.size, 4, none⟩ = some (.int .i64 s.node) := cell_of_row w2 _ 4 _ _ _ h0
 have a5 : w2.cell? ⟨w.heap.size, 5, none⟩ = some (.int .i64 0) := cell_of_row w2 _ 5 _ _ _ h0
 have a6 : w2.cell? ⟨w.heap.size, 6, none⟩ = some (.int .i64 0) := cell_of_row w2 _ 6 _ _ _ h0
 have a7 : w2.cell? ⟨w.heap.size, 7, none⟩ = some (.int .i64 0) := cell_of_row w2 _ 7 _ _ _ h0
 have a8 : w2.cell? ⟨w.heap.size, 8, none⟩ = some (.int .i64 0) := cell_of_row w2 _ 8 _ _ _ h0
 have a9 : w2.cell? ⟨w.heap.size, 9, none⟩ = some (.int .i64 0) := cell_of_row w2 _ 9 _ _ _ h0
 have a10 : w2.cell? ⟨w.heap.size, 10, none⟩ = some (.int .i64 0) := cell_of_row w2 _ 10 _ _ _ h0
 have a11 : w2.cell? ⟨w.heap.size, 11, none⟩ = some (.int .i64 0) := cell_of_row w2 _ 11 _ _ _ h0
 have a12 : w2.cell? ⟨w.heap.size, 12, none⟩ = some (.int .i64 0) := cell_of_row w2 _ 12 _ _ _ h0
 have a13 : w2.cell? ⟨w.heap.size, 13, none⟩ = some (.slice none 0 0) := cell_of_row w2 _ 13 _ _ _ h0
 have a14 : w2.cell? ⟨w.heap.size, 14, none⟩ = some (.slice none 0 0) := cell_of_row w2 _ 14 _ _ _ h0
 have a15 : w2.cell? ⟨w.heap.size, 15, none⟩ = some (.slice o1 s.ms.length c1) := cell_of_row w2 _ 15 _ _ _ h0
 have b0 : w2.cell? ⟨w.heap.size + 1, 0, none⟩ = some (.int .i64 s.kind) := cell_of_row w2 _ 0 _ _ _ h1
 have b1 : w2.cell? ⟨w.heap.size + 1, 1, none⟩ = some (.int .i64 s.frm) := cell_of_row w2 _ 1 _ _ _ h1
 have b2 : w2.cell? ⟨w.heap.size + 1, 2, none⟩ = some (.int .i64 s.to_) := cell_of_row w2 _ 2 _ _ _ h1
 have b3 : w2.cell? ⟨w.heap.size + 1, 3, none⟩ = some (.int .i64 s.seq) := cell_of_row w2 _ 3 _ _ _ h1
 have b4 : w2.cell? ⟨w.heap.size + 1, 4, none⟩ = some (.int .i64 s.node) := cell_of_row w2 _ 4 _ _ _ h1
 have b5 : w2.cell? ⟨w.heap.size + 1, 5, none⟩ = some (.int .i64 0) := cell_of_row w2 _ 5 _ _ _ h1
 have b6 : w2.cell? ⟨w.heap.size + 1, 6, none⟩ = some (.int .i64 0) := cell_of_row w2 _ 6 _ _ _ h1
 have b7 : w2.cell? ⟨w.heap.size + 1, 7, none⟩ = some (.int .i64 0) := cell_of_row w2 _ 7 _ _ _ h1
 have b8 : w2.cell? ⟨w.heap.size + 1, 8, none⟩ = some (.int .i64 0) := cell_of_row w2 _ 8 _ _ _ h1
 have b9 : w2.cell? ⟨w.heap.size + 1, 9, none⟩ = some (.int .i64 0) := cell_of_row w2 _ 9 _ _ _ h1
 have b10 : w2.cell? ⟨w.heap.size + 1, 10, none⟩ = some (.int .i64 0) := cell_of_row w2 _ 10 _ _ _ h1
 have b11 : w2.cell? ⟨w.heap.size + 1, 11, none⟩ = some (.int .i64 0) := cell_of_row w2 _ 11 _ _ _ h1
 have b12 : w2.cell? ⟨w.heap.size + 1, 12, none⟩ = some (.int .i64 0) := cell_of_row w2 _ 12 _ _ _ h1
 have b13 : w2.cell? ⟨w.heap.size + 1, 13, none⟩ = some (.slice none 0 0) := cell_of_row w2 _ 13 _ _ _ h1
 have b14 : w2.cell? ⟨w.heap.size + 1, 14, none⟩ = some (.slice none 0 0) := cell_of_row w2 _ 14 _ _ _ h1
 have b15 : w2.cell? ⟨w.heap.size + 1, 15, none⟩ = some (.slice o2 s.ms.length c2) := cell_of_row w2 _ 15 _ _ _ h1
 have HDT := Lib.hid hdt
 have HW2 := Lib.hid hw2
 have HB2 := Lib.hid hb2
 have HA2 := Lib.hid ha2
 have HBB2 := Lib.hid hbb2
 have H0 := Lib.hid h0
 have H1 := Lib.hid h1
 have hl0 : w.heap.size < w2.heap.size := by omega
 have hl1 : w.heap.size + 1 < w2.heap.size := by omega
 clear hdt hw2 hb2 ha2 hbb2 h0 h1 ha hb hsz
 go_enter Tryz.func69, Tryz.ntmps69
 go_wp2_with (rw [HW2.out])
 refine HDT.out.mono ?_
 rintro e w3 ⟨rfl, hg3⟩
 have hb3 := hg3.below
 have r0 := (hb3.block _ hl0).trans H0.out
 have r1 := (hb3.block _ hl1).trans H1.out
 have a7 : w3.cell? ⟨w.heap.size, 7, none⟩ = some (.int .i64 0) := cell_of_row w3 _ 7 _ _ _ r0
 have a13 : w3.cell? ⟨w.heap.size, 13, none⟩ = some (.slice none 0 0) := cell_of_row w3 _ 13 _ _ _ r0
 have a14 : w3.cell? ⟨w.heap.size, 14, none⟩ = some (.slice none 0 0) := cell_of_row w3 _ 14 _ _ _ r0
 have a15 : w3.cell? ⟨w.heap.size, 15, none⟩ = some (.slice o1 s.ms.length c1) := cell_of_row w3 _ 15 _ _ _ r0
 have b13 : w3.cell? ⟨w.heap.size + 1, 13, none⟩ = some (.slice none 0 0) := cell_of_row w3 _ 13 _ _ _ r1
 have b14 : w3.cell? ⟨w.heap.size + 1, 14, none⟩ = some (.slice none 0 0) := cell_of_row w3 _ 14 _ _ _ r1
 have b15 : w3.cell? ⟨w.heap.size + 1, 15, none⟩ = some (.slice o2 s.ms.length c2) := cell_of_row w3 _ 15 _ _ _ r1
 have HB3 := Lib.hid (HB2.out.trans (hb3.mono HB2.out.size))
 have HA3 := Lib.hid (HA2.out.below Mb.cells_len (by decide) hb3 (Nat.le_refl _))
 have HBB3 := Lib.hid (HBB2.out.below Mb.cells_len (by decide) hb3 (Nat.le_refl _))
 have hal := all07_nil w3
 have HAL := Lib.hid hal
 clear hal hb3 hg3 r0 r1 HDT HW2 HB2 HA2 HBB2 H0 H1 heq
 go_wp2_with fail
 refine HAL.out.mono ?_
 rintro e w4 ⟨rfl, rfl⟩
 have hnem := run_neq_mem
 go_wp2_with fail
 go_loopg [5, 74] s.ms.length (fun gk s5 s74 wr => ∃ (i q : Nat), s74 = .int .i64 i ∧ i ≤ s.ms.length ∧ s.ms.length - i ≤ gk ∧ wr = w4.drewN q)
 case atStart => exact ⟨0, 0, rfl, Nat.zero_le _, Nat.le_refl _, rfl⟩
 case round =>
  obtain ⟨i, q, rfl, hi, hg, rfl⟩ := hrel
  by_cases hlt : i < s.ms.length
  ·have hltz : (i : Int) < (s.ms.length : Int) := by omega
   have hsa := HA3.out
   have hsb := HBB3.out
   obtain ⟨b1, off1, rfl⟩ := hsa.plain Mb.cells_len (by decide) (by intro e; rw [e] at hlt; exact absurd hlt (by simp))
   obtain ⟨b2, off2, rfl⟩ := hsb.plain Mb.cells_len (by decide) (by intro e; rw [e] at hlt; exact absurd hlt (by simp))
   have c0 : w4.cell? ⟨b1, off1 + i * 3, none⟩ = some (.int .i64 s.ms[i].node) := hsa.cell Mb.cells_len (i := i) (c := 0) hlt (by decide)
   have c1 : w4.cell? ⟨b1, off1 + i * 3 + 1, none⟩ = some (.int .i64 s.ms[i].st) := hsa.cell Mb.cells_len (i := i) (c := 1) hlt (by decide)
   have c2 : w4.cell? ⟨b1, off1 + i * 3 + 2, none⟩ = some (.int .i64 s.ms[i].inc) := hsa.cell Mb.cells_len (i := i) (c := 2) hlt (by decide)
   have d0 : w4.cell? ⟨b2, off2 + i * 3, none⟩ = some (.int .i64 s.ms[i].node) := hsb.cell Mb.cells_len (i := i) (c := 0) hlt (by decide)
   have d1 : w4.cell? ⟨b2, off2 + i * 3 + 1, none⟩ = some (.int .i64 s.ms[i].st) := hsb.cell Mb.cells_len (i := i) (c := 1) hlt (by decide)
   have d2 : w4.cell? ⟨b2, off2 + i * 3 + 2, none⟩ = some (.int .i64 s.ms[i].inc) := hsb.cell Mb.cells_len (i := i) (c := 2) hlt (by decide)
   generalize s.ms[i] = y at *
   clear hsa hsb
   go_wp2_with fail
   go_big_quiet (fail)
   go_wp2_with fail
   go_roundg (s.ms.length - (i + 1))
   case measure => omega
   case rel => exact ⟨i + 1, q + nq, by go_num, by omega, Nat.le_refl _, by first | rfl | exact World.drewN_drewN _ _ _⟩
  ·have hltz : ¬ (i : Int) < (s.ms.length : Int) := by omega
   go_wp2_with fail
   go_ret
   exact ⟨rfl, HB3.out.trans ((below_drewN w4 q).mono HB3.out.size)⟩
end Go.Proofs.YtejihgfigclppaaGreat
namespace Go.Proofs.YtejihgfigclppaaGreat
open Go.Shelf Go.RowKit Go.Lib Go.Sort
set_option linter.unusedVariables false
set_option linter.unusedSimpArgs false
set_option maxRecDepth 100000 in
set_option maxHeartbeats 8000000 in
theorem all17_sent (oa ob : Option Addr) (ca cb : Nat) (ps qs : List PSent) (B1 B2 : Nat) (w : World) (h1 : MsgsAt B1 w (.slice oa ps.length ca) ps) (h2 : MsgsAt B2 w (.slice ob ps.length cb) qs) (he : ps.map (·.2) = qs.map (·.2)) (hl : ps.length ≤ 1000000) (hm : ∀ p ∈ ps, p.2.ms.length ≤ 1000000) :
  Calls Tryz.prog 31 #[.slice oa ps.length ca, .slice ob ps.length cb] w fun e w' => e = .returned (.bool true) ∧ Below w.heap.size w w' := by
 have hlen : qs.length = ps.length := by have := congrArg List.length he; simpa using this.symm
 have hp : Tryz.prog.follows .mixedOrders = true := by kernel_rfl
 have H1 := Lib.hid h1
 have H2 := Lib.hid h2
 have HE := Lib.hid he
 have HM := Lib.hid hm
 have HLEN := Lib.hid hlen
 clear h1 h2 he hm hlen
 go_enter Tryz.func31, Tryz.ntmps31
 go_wp2_with fail
 go_loopg [5, 13] ps.length (fun gk s5 s13 wr => ∃ (i : Nat), s13 = .int .i64 i ∧ i ≤ ps.length ∧ ps.length - i ≤ gk ∧ Hid (Below w.heap.size w wr))
 case atStart => exact ⟨0, rfl, Nat.zero_le _, Nat.le_refl _, Below.refl _ _⟩
 case round =>
  obtain ⟨i, rfl, hi, hg, HB⟩ := hrel
  by_cases hlt : i < ps.length
  ·have hltz : (i : Int) < (ps.length : Int) := by omega
   have hlq : i < qs.length := by rw [HLEN.out]; exact hlt
   have ha := H1.out.below HB.out (Nat.le_refl _)
   have hb := H2.out.below HB.out (Nat.le_refl _)
   have hsa := ha.1.at
   have hsb := hb.1.at
   obtain ⟨b, off, rfl⟩ := hsa.plain scells_len (by decide) (by intro e; rw [e] at hlt; exact absurd hlt (by simp))
   obtain ⟨b2, off2, rfl⟩ := hsb.plain scells_len (by decide) (by intro e; rw [e] at hlq; exact absurd hlq (by simp))
   have hla := fun (W : World) (hW : Below wr.heap.size wr W) => msg_load (hsa.below scells_len (by decide) hW (Nat.le_refl _)) hlt
   have hlb := fun (W : World) (hW : Below wr.heap.size wr W) => msg_load (hsb.below scells_len (by decide) hW (Nat.le_refl _)) hlq
   have hma := (ha.2 _ (List.getElem_mem hlt)).at
   have hmb := (hb.2 _ (List.getElem_mem hlq)).at
   have hsm := HM.out _ (List.getElem_mem hlt)
   have hee : (ps[i]).2 = (qs[i]).2 := by
    have e := congrArg (fun l => l[i]?) HE.out
    simp only [List.getElem?_map, List.getElem?_eq_getElem hlt, List.getElem?_eq_getElem hlq, Option.map_some] at e
    exact Option.some.inj e
   generalize ps[i] = p at *
   generalize qs[i] = q at *
   obtain ⟨⟨o1, n1, c1⟩, s⟩ := p
   obtain ⟨⟨o2, n2, c2⟩, s'⟩ := q
   dsimp only at hee
   subst hee
   simp only [Hdr.val] at hma hmb
   obtain rfl : n1 = s.ms.length := by obtain ⟨_, _, hv, _⟩ := hma.slice_of; simp only [Value.slice.injEq] at hv; exact hv.2.1
   obtain rfl : n2 = s.ms.length := by obtain ⟨_, _, hv, _⟩ := hmb.slice_of; simp only [Value.slice.injEq] at hv; exact hv.2.1
   have HLA : Hid (∀ W, Below wr.heap.size wr W → Sem.run Tryz.prog (loadCellsFrom ⟨b, off + i * 16, none⟩ 0 16 #[]) W = .ok #[.int .i64 s.kind, .int .i64 s.frm, .int .i64 s.to_, .int .i64 s.seq, .int .i64 s.node, .int .i64 0, .int .i64 0, .int .i64 0, .int .i64 0, .int .i64 0, .int .i64 0, .int .i64 0, .int .i64 0, .slice none 0 0, .slice none 0 0, .slice o1 s.ms.length c1] W) := hla
   have HLB : Hid (∀ W, Below wr.heap.size wr W → Sem.run Tryz.prog (loadCellsFrom ⟨b2, off2 + i * 16, none⟩ 0 16 #[]) W = .ok #[.int .i64 s.kind, .int .i64 s.frm, .int .i64 s.to_, .int .i64 s.seq, .int .i64 s.node, .int .i64 0, .int .i64 0, .int .i64 0, .int .i64 0, .int .i64 0, .int .i64 0, .int .i64 0, .int .i64 0, .slice none 0 0, .slice none 0 0, .slice o2 s.ms.length c2] W) := hlb
   have HS := Lib.hid (fun (W : World) (hW : Below wr.heap.size wr W) => same17_sent s o1 o2 c1 c2 W hsm (hma.below Mb.cells_len (by decide) hW (Nat.le_refl _)) (hmb.below Mb.cells_len (by decide) hW (Nat.le_refl _)))
   clear ha hb hsa hsb hla hlb hma hmb hsm hlq
   go_wp2_with fail
   refine tell_region (by kernel_rfl) [(16, fun v _ => v = .slice (some ⟨b, off, none⟩) ps.length ca), (17, fun v _ => v = .int .i64 i), (18, fun v _ => v = .pointer (some ⟨b, off + i * 16, none⟩)), (19, fun v _ => v = .agg #[.int .i64 s.kind, .int .i64 s.frm, .int .i64 s.to_, .int .i64 s.seq, .int .i64 s.node, .int .i64 0, .int .i64 0, .int .i64 0, .int .i64 0, .int .i64 0, .int .i64 0, .int .i64 0, .int .i64 0, .slice none 0 0, .slice none 0 0, .slice o1 s.ms.length c1]), (20, fun v _ => v = .slice (some ⟨b2, off2, none⟩) ps.length cb), (21, fun v _ => v = .int .i64 i), (22, fun v _ => v = .pointer (some ⟨b2, off2 + i * 16, none⟩)), (23, fun v _ => v = .agg #[.int .i64 s.kind, .int .i64 s.frm, .int .i64 s.to_, .int .i64 s.seq, .int .i64 s.node, .int .i64 0, .int .i64 0, .int .i64 0, .int .i64 0, .int .i64 0, .int .i64 0, .int .i64 0, .int .i64 0, .slice none 0 0, .slice none 0 0, .slice o2 s.ms.length c2]), (24, fun v _ => v = .bool true), (25, fun v _ => v = .bool false)] rfl (by show ([16, 17, 18, 19, 20, 21, 22, 23, 24, 25] : List Nat).Nodup; decide) (by show ∀ d ∈ ([16, 17, 18, 19, 20, 21, 22, 23, 24, 25] : List Nat), d < 27; decide) (by kernel_rfl) ?hmono ?hstep ?hend
   case hmono =>
    intro p hp
    simp only [List.mem_cons, List.not_mem_nil, or_false] at hp
    rcases hp with rfl | rfl | rfl | rfl | rfl | rfl | rfl | rfl | rfl | rfl
    ·exact lasts_pure _
    ·exact lasts_pure _
    ·exact lasts_pure _
    ·exact lasts_pure _
    ·exact lasts_pure _
    ·exact lasts_pure _
    ·exact lasts_pure _
    ·exact lasts_pure _
    ·exact lasts_pure _
    ·exact lasts_pure _
   case hstep =>
    intro i hi r w' hag hbel hn
    have hi2 : i < 10 := hi
    rcases (show i = 0 ∨ i = 1 ∨ i = 2 ∨ i = 3 ∨ i = 4 ∨ i = 5 ∨ i = 6 ∨ i = 7 ∨ i = 8 ∨ i = 9 by omega) with rfl | rfl | rfl | rfl | rfl | rfl | rfl | rfl | rfl | rfl
    ·skip
     have e0 : r.eval (.tmp 0) = .slice (some ⟨b, off, none⟩) ps.length ca := (hag.out 0 (by simp)).trans rfl
     exact leaves_val rfl rfl rfl (v := .slice (some ⟨b, off, none⟩) ps.length ca) (by generalize r.eval = ρ at e0 ⊢; go_simp) (Below.refl _ _) rfl
    ·skip
     have e5 : r.eval (.tmp 5) = .int .i64 i := (hag.out 5 (by simp)).trans rfl
     exact leaves_val rfl rfl rfl (v := .int .i64 i) (by generalize r.eval = ρ at e5 ⊢; go_simp) (Below.refl _ _) rfl
    ·skip
     have e16 : r.eval (.tmp 16) = .slice (some ⟨b, off, none⟩) ps.length ca := hn 0 (by simp) ⟨_, rfl, ⟨0, .data⟩, by simp, rfl, rfl⟩
     have e17 : r.eval (.tmp 17) = .int .i64 i := hn 1 (by simp) ⟨_, rfl, ⟨1, .data⟩, by simp, rfl, rfl⟩
     exact leaves_val rfl rfl rfl (v := .pointer (some ⟨b, off + i * 16, none⟩)) (by generalize r.eval = ρ at e16 e17 ⊢; go_simp) (Below.refl _ _) rfl
    ·skip
     have e18 : r.eval (.tmp 18) = .pointer (some ⟨b, off + i * 16, none⟩) := hn 2 (by simp) ⟨_, rfl, ⟨2, .data⟩, by simp, rfl, rfl⟩
     exact leaves_loadAgg rfl rfl rfl 42 (.tmp 18) rfl 16 (by kernel_rfl) (by kernel_rfl) ⟨b, off + i * 16, none⟩ e18 _ (HLA.out w' hbel) rfl
    ·skip
     have e1 : r.eval (.tmp 1) = .slice (some ⟨b2, off2, none⟩) ps.length cb := (hag.out 1 (by simp)).trans rfl
     exact leaves_val rfl rfl rfl (v := .slice (some ⟨b2, off2, none⟩) ps.length cb) (by generalize r.eval = ρ at e1 ⊢; go_simp) (Below.refl _ _) rfl
    ·skip
     have e5 : r.eval (.tmp 5) = .int .i64 i := (hag.out 5 (by simp)).trans rfl
     exact leaves_val rfl rfl rfl (v := .int .i64 i) (by generalize r.eval = ρ at e5 ⊢; go_simp) (Below.refl _ _) rfl
    ·skip
     have e20 : r.eval (.tmp 20) = .slice (some ⟨b2, off2, none⟩) ps.length cb := hn 4 (by simp) ⟨_, rfl, ⟨4, .data⟩, by simp, rfl, rfl⟩
     have e21 : r.eval (.tmp 21) = .int .i64 i := hn 5 (by simp) ⟨_, rfl, ⟨5, .data⟩, by simp, rfl, rfl⟩
     exact leaves_val rfl rfl rfl (v := .pointer (some ⟨b2, off2 + i * 16, none⟩)) (by generalize r.eval = ρ at e20 e21 ⊢; go_simp) (Below.refl _ _) rfl
    ·skip
     have e22 : r.eval (.tmp 22) = .pointer (some ⟨b2, off2 + i * 16, none⟩) := hn 6 (by simp) ⟨_, rfl, ⟨6, .data⟩, by simp, rfl, rfl⟩
     exact leaves_loadAgg rfl rfl rfl 42 (.tmp 22) rfl 16 (by kernel_rfl) (by kernel_rfl) ⟨b2, off2 + i * 16, none⟩ e22 _ (HLB.out w' hbel) rfl
    ·skip
     have e19 : r.eval (.tmp 19) = .agg #[.int .i64 s.kind, .int .i64 s.frm, .int .i64 s.to_, .int .i64 s.seq, .int .i64 s.node, .int .i64 0, .int .i64 0, .int .i64 0, .int .i64 0, .int .i64 0, .int .i64 0, .int .i64 0, .int .i64 0, .slice none 0 0, .slice none 0 0, .slice o1 s.ms.length c1] := hn 3 (by simp) ⟨_, rfl, ⟨3, .data⟩, by simp, rfl, rfl⟩
     have e23 : r.eval (.tmp 23) = .agg #[.int .i64 s.kind, .int .i64 s.frm, .int .i64 s.to_, .int .i64 s.seq, .int .i64 s.node, .int .i64 0, .int .i64 0, .int .i64 0, .int .i64 0, .int .i64 0, .int .i64 0, .int .i64 0, .int .i64 0, .slice none 0 0, .slice none 0 0, .slice o2 s.ms.length c2] := hn 7 (by simp) ⟨_, rfl, ⟨7, .data⟩, by simp, rfl, rfl⟩
     refine leaves_call (f := 69) (args := #[.agg #[.int .i64 s.kind, .int .i64 s.frm, .int .i64 s.to_, .int .i64 s.seq, .int .i64 s.node, .int .i64 0, .int .i64 0, .int .i64 0, .int .i64 0, .int .i64 0, .int .i64 0, .int .i64 0, .int .i64 0, .slice none 0 0, .slice none 0 0, .slice o1 s.ms.length c1], .agg #[.int .i64 s.kind, .int .i64 s.frm, .int .i64 s.to_, .int .i64 s.seq, .int .i64 s.node, .int .i64 0, .int .i64 0, .int .i64 0, .int .i64 0, .int .i64 0, .int .i64 0, .int .i64 0, .int .i64 0, .slice none 0 0, .slice none 0 0, .slice o2 s.ms.length c2]]) rfl rfl rfl (by have ef : r.eval (.func 69) = .func (.func 69) #[] #[] := rfl; generalize r.eval = ρ at ef e19 e23 ⊢; go_simp) (HS.out w' hbel) ?_
     rintro e2 w2 ⟨rfl, hb⟩
     exact ⟨_, rfl, hb, rfl⟩
    ·skip
     have e24 : r.eval (.tmp 24) = .bool true := hn 8 (by simp) ⟨_, rfl, ⟨8, .data⟩, by simp, rfl, rfl⟩
     exact leaves_val rfl rfl rfl (v := .bool false) (by generalize r.eval = ρ at e24 ⊢; go_simp) (Below.refl _ _) rfl
   case hend =>
    intro r w' hag hbel hall
    have e25 : r.eval (.tmp 25) = .bool false := hall 9 (by simp)
    have hfin := Ag.final _ (by show ∀ d ∈ ([16, 17, 18, 19, 20, 21, 22, 23, 24, 25] : List Nat), d < 27; decide) hag
    simp only [List.map, List.foldl, e25] at hfin
    generalize r.eval (.tmp 16) = y16 at hfin
    generalize r.eval (.tmp 17) = y17 at hfin
    generalize r.eval (.tmp 18) = y18 at hfin
    generalize r.eval (.tmp 19) = y19 at hfin
    generalize r.eval (.tmp 20) = y20 at hfin
    generalize r.eval (.tmp 21) = y21 at hfin
    generalize r.eval (.tmp 22) = y22 at hfin
    generalize r.eval (.tmp 23) = y23 at hfin
    generalize r.eval (.tmp 24) = y24 at hfin
    have HBB := Lib.hid (HB.out.trans (hbel.mono HB.out.size))
    clear e25 hall hag hbel
    subst hfin
    simp only [Act.put, List.setIfInBounds_toArray, List.set_cons_succ, List.set_cons_zero]
    go_wp2_with fail
    go_roundg (ps.length - (i + 1))
    case measure => omega
    case rel => exact ⟨i + 1, by go_num, by omega, Nat.le_refl _, HBB.out⟩
  ·have hltz : ¬ (i : Int) < (ps.length : Int) := by omega
   go_wp2_with fail
   go_ret
   exact ⟨rfl, HB.out⟩
end Go.Proofs.YtejihgfigclppaaGreat
