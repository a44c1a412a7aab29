/-
  What may be asked of a detector: Words, Live, Others, Inc, Target; a node's table made.
  Whether a detector's patience may be: swim.Right.
-/
import Derived.Test.YtejihgfigclppaaGreatSwimF
namespace Go.Proofs.YtejihgfigclppaaGreat
open Go.Shelf Go.RowKit Go.Lib Go.Sort
set_option linter.unusedVariables false
set_option linter.unusedSimpArgs false
set_option maxHeartbeats 4000000 in
theorem inc_any (M : DM) (d : Det) (w : World) (h : DetAt w M d) : Calls Tryz.prog 20 #[.pointer (some ⟨M.g, 0, none⟩)] w fun e w' => e = .returned (.int .i64 d.inc) ∧ w' = w := by
  have k1 : w.cell? ⟨M.g, 1, none⟩ = some (.int .i64 d.inc) := h.cell 1
  clear h
  go_enter Tryz.func20, Tryz.ntmps20
  go_wp2_with fail
  go_ret
  exact ⟨rfl, rfl⟩
set_option maxHeartbeats 4000000 in
theorem words_any (M : DM) (d : Det) (w : World) (h : DetAt w M d) : Calls Tryz.prog 16 #[.pointer (some ⟨M.g, 0, none⟩)] w fun e w' => ∃ o c, e = .returned (.slice o (allT d.tab).length c) ∧ Owns Mb.cells 3 w.heap.size 45 w' (.slice o (allT d.tab).length c) (allT d.tab) ∧ Below w.heap.size w w' := by
  have k5 : w.cell? ⟨M.g, 5, none⟩ = some (.pointer (some ⟨M.gt, 0, none⟩)) := h.cell 5
  have hal := all_any M.gt d.self d.tab w h.tab
  have HAL := Lib.hid hal
  clear h hal
  go_enter Tryz.func16, Tryz.ntmps16
  go_wp2_with fail
  refine HAL.out.mono ?_
  rintro e w2 ⟨o, c, rfl, h1, h2⟩
  have H1 := Lib.hid h1
  have H2 := Lib.hid h2
  clear h1 h2 HAL
  go_wp2_with fail
  go_ret
  exact ⟨o, c, rfl, H1.out, H2.out⟩
set_option maxHeartbeats 4000000 in
theorem liveD_any (M : DM) (d : Det) (w : World) (h : DetAt w M d) : Calls Tryz.prog 24 #[.pointer (some ⟨M.g, 0, none⟩)] w fun e w' => ∃ o c, e = .returned (.slice o (liveT d.tab).length c) ∧ Owns icells 1 w.heap.size 3 w' (.slice o (liveT d.tab).length c) (liveT d.tab) ∧ Below w.heap.size w w' := by
  have k5 : w.cell? ⟨M.g, 5, none⟩ = some (.pointer (some ⟨M.gt, 0, none⟩)) := h.cell 5
  have hal := live_any M.gt d.self d.tab w h.tab
  have HAL := Lib.hid hal
  clear h hal
  go_enter Tryz.func24, Tryz.ntmps24
  go_wp2_with fail
  refine HAL.out.mono ?_
  rintro e w2 ⟨o, c, rfl, h1, h2⟩
  have H1 := Lib.hid h1
  have H2 := Lib.hid h2
  clear h1 h2 HAL
  go_wp2_with fail
  go_ret
  exact ⟨o, c, rfl, H1.out, H2.out⟩
set_option maxHeartbeats 4000000 in
theorem othersD_any (M : DM) (d : Det) (w : World) (h : DetAt w M d) : Calls Tryz.prog 17 #[.pointer (some ⟨M.g, 0, none⟩)] w fun e w' => ∃ o c, e = .returned (.slice o (othersT d.self d.tab).length c) ∧ Owns icells 1 w.heap.size 3 w' (.slice o (othersT d.self d.tab).length c) (othersT d.self d.tab) ∧ Below w.heap.size w w' := by
  have k5 : w.cell? ⟨M.g, 5, none⟩ = some (.pointer (some ⟨M.gt, 0, none⟩)) := h.cell 5
  have hal := others_any M.gt d.self d.tab w h.tab
  have HAL := Lib.hid hal
  clear h hal
  go_enter Tryz.func17, Tryz.ntmps17
  go_wp2_with fail
  refine HAL.out.mono ?_
  rintro e w2 ⟨o, c, rfl, h1, h2⟩
  have H1 := Lib.hid h1
  have H2 := Lib.hid h2
  clear h1 h2 HAL
  go_wp2_with fail
  go_ret
  exact ⟨o, c, rfl, H1.out, H2.out⟩
set_option maxHeartbeats 4000000 in
/-- a table made anew -/
theorem memNew_any (self inc : Int) (w : World) (hm : Mb.may ⟨self, 1, inc⟩) :
    Calls Tryz.prog 37 #[.int .i64 self, .int .i64 inc] w fun e w' => e = .returned (.tuple #[.pointer (some ⟨w.heap.size, 0, none⟩), .int .i64 0]) ∧ TabAt w' w.heap.size self (updT (fun _ => none) self.toNat ⟨1, inc⟩) ∧ Below w.heap.size w w' := by
  have hT : TabAt (w.alloc (.cells (tcells self fun _ => none) 135)) w.heap.size self (fun _ => none) := heap_alloc_new w _
  have hhe := hearTab_any w.heap.size self (fun _ => none) ⟨self, 1, inc⟩ _ hT
  have hnews : newsT (fun _ => none) ⟨self, 1, inc⟩ = true := rfl
  have hhr : hearT (fun _ => none) ⟨self, 1, inc⟩ = updT (fun _ => none) self.toNat ⟨1, inc⟩ := if_pos ⟨hm, hnews⟩
  rw [hhr, hnews, decide_eq_true hm] at hhe
  have HHE := Lib.hid hhe
  have HM := Lib.hid hm
  clear hhe hT hhr hnews hm
  have hcells : tcells self (fun _ => none) = #[.int .i64 self, .bool false, .bool false, .bool false, .bool false, .bool false, .bool false, .bool false, .bool false, .int .i64 0, .int .i64 0, .int .i64 0, .int .i64 0, .int .i64 0, .int .i64 0, .int .i64 0, .int .i64 0, .int .i64 0, .int .i64 0, .int .i64 0, .int .i64 0, .int .i64 0, .int .i64 0, .int .i64 0, .int .i64 0, .int .i64 0, .int .i64 0, .int .i64 0, .int .i64 0, .int .i64 0, .int .i64 0, .int .i64 0, .int .i64 0] := rfl
  rw [hcells] at HHE
  go_enter Tryz.func37, Tryz.ntmps37
  go_wp2_with fail
  refine HHE.out.mono ?_
  rintro e w2 ⟨z, rfl, hz, _, hT2, hg2⟩
  obtain rfl := hz HM.out
  have HT2 := Lib.hid hT2
  have hb2 : Below w.heap.size w w2 := ((Below.refl w.heap.size w).alloc (Nat.le_refl _) _).grown hg2 (by rw [World.size_alloc]; omega) (fun k hk => by cases hk; exact Nat.le_refl _)
  have HB2 := Lib.hid hb2
  clear hT2 hg2 hz HHE hb2
  go_wp2_with fail
  go_ret2
  exact ⟨rfl, HT2.out, HB2.out⟩
end Go.Proofs.YtejihgfigclppaaGreat
namespace Go.Proofs.YtejihgfigclppaaGreat
open Go.Shelf Go.RowKit Go.Lib Go.Sort
set_option linter.unusedVariables false
set_option linter.unusedSimpArgs false
set_option maxHeartbeats 4000000 in
theorem rightFn_any (n lo hi : Int) (h : lo ≤ hi) (w : World) : Calls Tryz.prog 61 #[.int .i64 n, .int .i64 lo, .int .i64 hi] w fun e w' => e = .returned (.bool (decide (lo ≤ n ∧ n ≤ hi))) ∧ w' = w := by
  obtain ⟨v, hv, hc⟩ := within_is n lo hi h w
  rw [← hv]
  have HC := Lib.hid hc
  clear hc hv
  go_enter Tryz.func61, Tryz.ntmps61
  go_wp2_with fail
  refine (HC.out _).mono ?_
  rintro e w2 ⟨rfl, rfl⟩
  go_wp2_with fail
  go_ret
  exact ⟨rfl, rfl⟩
set_option maxHeartbeats 8000000 in
theorem rightD_any (c : DConf) (w : World) : Calls Tryz.prog 26 #[.agg #[.int .i64 c.tout, .int .i64 c.ind, .int .i64 c.gr]] w fun e w' => e = .returned (.bool (decide c.right)) ∧ Below w.heap.size w w' := by
  obtain ⟨t, i, g⟩ := c
  have hall : decide (DConf.right ⟨t, i, g⟩) = (decide (1 ≤ t ∧ t ≤ 100) && (decide (0 ≤ i ∧ i ≤ 8) && decide (1 ≤ g ∧ g ≤ 1000))) := by
    rw [Bool.eq_iff_iff]
    constructor
    · intro h
      obtain ⟨a, b, c, d, e, f⟩ : DConf.right ⟨t, i, g⟩ := of_decide_eq_true h
      rw [Bool.and_eq_true, Bool.and_eq_true, decide_eq_true_iff, decide_eq_true_iff, decide_eq_true_iff]
      exact ⟨⟨a, b⟩, ⟨c, d⟩, ⟨e, f⟩⟩
    · intro h
      rw [Bool.and_eq_true, Bool.and_eq_true, decide_eq_true_iff, decide_eq_true_iff, decide_eq_true_iff] at h
      obtain ⟨⟨a, b⟩, ⟨c, d⟩, ⟨e, f⟩⟩ := h
      exact decide_eq_true (show DConf.right ⟨t, i, g⟩ from ⟨a, b, c, d, e, f⟩)
  have h1 := fun W => rightFn_any t 1 100 (by omega) W
  have h2 := fun W => rightFn_any i 0 8 (by omega) W
  have h3 := fun W => rightFn_any g 1 1000 (by omega) W
  rw [hall]
  dsimp only
  generalize decide (1 ≤ t ∧ t ≤ 100) = b1 at *
  generalize decide (0 ≤ i ∧ i ≤ 8) = b2 at *
  generalize decide (1 ≤ g ∧ g ≤ 1000) = b3 at *
  have H1 := Lib.hid h1
  have H2 := Lib.hid h2
  have H3 := Lib.hid h3
  have HB : Hid (Below w.heap.size w (w.alloc (.cells #[.int .i64 t, .int .i64 i, .int .i64 g] 33))) := (Below.refl _ _).alloc (Nat.le_refl _) _
  clear h1 h2 h3 hall
  cases b1 with
  | false =>
    go_enter Tryz.func26, Tryz.ntmps26
    go_wp2_with fail
    refine (H1.out _).mono ?_
    rintro e w2 ⟨rfl, rfl⟩
    go_wp2_with fail
    go_ret
    exact ⟨rfl, HB.out⟩
  | true =>
    cases b2 with
    | false =>
      go_enter Tryz.func26, Tryz.ntmps26
      go_wp2_with fail
      refine (H1.out _).mono ?_
      rintro e w2 ⟨rfl, rfl⟩
      go_wp2_with fail
      refine (H2.out _).mono ?_
      rintro e w2 ⟨rfl, rfl⟩
      go_wp2_with fail
      go_ret
      exact ⟨rfl, HB.out⟩
    | true =>
      go_enter Tryz.func26, Tryz.ntmps26
      go_wp2_with fail
      refine (H1.out _).mono ?_
      rintro e w2 ⟨rfl, rfl⟩
      go_wp2_with fail
      refine (H2.out _).mono ?_
      rintro e w2 ⟨rfl, rfl⟩
      go_wp2_with fail
      refine (H3.out _).mono ?_
      rintro e w2 ⟨rfl, rfl⟩
      go_wp2_with fail
      go_ret
      exact ⟨rfl, HB.out⟩
end Go.Proofs.YtejihgfigclppaaGreat
