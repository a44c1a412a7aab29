/-
  What may be asked of a detector: Words, Live, Others, Inc, Target; a node's table made.
  Whether a detector's patience may be: swim.Right.
  A detector made.
-/
import Derived.Test.YtejihgfigclppaaGreatSwimF
import Derived.Carry
namespace Go.Proofs.YtejihgfigclppaaGreat
open Go.Shelf Go.RowKit Go.Lib Go.Sort
set_option linter.unusedVariables false
set_option linter.unusedSimpArgs false
set_option maxHeartbeats 4000000 in
theorem inc_any (M : DM) (d : Det) (w : World) (h : DetAt w M d) : Calls Tryz.prog 20 #[.pointer (some ⟨M.g, 0, none⟩)] w fun e w' => e = .returned (.int .i64 d.inc) ∧ w' = w := by
 have k1 : w.cell? ⟨M.g, 1, none⟩ = some (.int .i64 d.inc) := h.cell 1
 clear h
 go_enter Tryz.func20, Tryz.ntmps20
 go_wp2_with fail
 go_ret
 exact ⟨rfl, rfl⟩
set_option maxHeartbeats 4000000 in
theorem words_any (M : DM) (d : Det) (w : World) (h : DetAt w M d) : Calls Tryz.prog 16 #[.pointer (some ⟨M.g, 0, none⟩)] w fun e w' => ∃ o c, e = .returned (.slice o (allT d.tab).length c) ∧ Owns Mb.cells 3 w.heap.size 45 w' (.slice o (allT d.tab).length c) (allT d.tab) ∧ Below w.heap.size w w' := by
 have k5 : w.cell? ⟨M.g, 5, none⟩ = some (.pointer (some ⟨M.gt, 0, none⟩)) := h.cell 5
 have hal := all_any M.gt d.self d.tab w h.tab
 have HAL := Lib.hid hal
 clear h hal
 go_enter Tryz.func16, Tryz.ntmps16
 go_wp2_with fail
 refine HAL.out.mono ?_
 rintro e w2 ⟨o, c, rfl, h1, h2⟩
 have H1 := Lib.hid h1
 have H2 := Lib.hid h2
 clear h1 h2 HAL
 go_wp2_with fail
 go_ret
 exact ⟨o, c, rfl, H1.out, H2.out⟩
set_option maxHeartbeats 4000000 in
theorem liveD_any (M : DM) (d : Det) (w : World) (h : DetAt w M d) : Calls Tryz.prog 24 #[.pointer (some ⟨M.g, 0, none⟩)] w fun e w' => ∃ o c, e = .returned (.slice o (liveT d.tab).length c) ∧ Owns icells 1 w.heap.size 3 w' (.slice o (liveT d.tab).length c) (liveT d.tab) ∧ Below w.heap.size w w' := by
 have k5 : w.cell? ⟨M.g, 5, none⟩ = some (.pointer (some ⟨M.gt, 0, none⟩)) := h.cell 5
 have hal := live_any M.gt d.self d.tab w h.tab
 have HAL := Lib.hid hal
 clear h hal
 go_enter Tryz.func24, Tryz.ntmps24
 go_wp2_with fail
 refine HAL.out.mono ?_
 rintro e w2 ⟨o, c, rfl, h1, h2⟩
 have H1 := Lib.hid h1
 have H2 := Lib.hid h2
 clear h1 h2 HAL
 go_wp2_with fail
 go_ret
 exact ⟨o, c, rfl, H1.out, H2.out⟩
set_option maxHeartbeats 4000000 in
theorem othersD_any (M : DM) (d : Det) (w : World) (h : DetAt w M d) : Calls Tryz.prog 17 #[.pointer (some ⟨M.g, 0, none⟩)] w fun e w' => ∃ o c, e = .returned (.slice o (othersT d.self d.tab).length c) ∧ Owns icells 1 w.heap.size 3 w' (.slice o (othersT d.self d.tab).length c) (othersT d.self d.tab) ∧ Below w.heap.size w w' := by
 have k5 : w.cell? ⟨M.g, 5, none⟩ = some (.pointer (some ⟨M.gt, 0, none⟩)) := h.cell 5
 have hal := others_any M.gt d.self d.tab w h.tab
 have HAL := Lib.hid hal
 clear h hal
 go_enter Tryz.func17, Tryz.ntmps17
 go_wp2_with fail
 refine HAL.out.mono ?_
 rintro e w2 ⟨o, c, rfl, h1, h2⟩
 have H1 := Lib.hid h1
 have H2 := Lib.hid h2
 clear h1 h2 HAL
 go_wp2_with fail
 go_ret
 exact ⟨o, c, rfl, H1.out, H2.out⟩
set_option maxHeartbeats 4000000 in
theorem memNew_any (self inc : Int) (w : World) (hm : Mb.may ⟨self, 1, inc⟩) :
  Calls Tryz.prog 37 #[.int .i64 self, .int .i64 inc] w fun e w' => e = .returned (.tuple #[.pointer (some ⟨w.heap.size, 0, none⟩), .int .i64 0]) ∧ TabAt w' w.heap.size self (updT (fun _ => none) self.toNat ⟨1, inc⟩) ∧ Below w.heap.size w w' := by
 have hT : TabAt (w.alloc (.cells (tcells self fun _ => none) 135)) w.heap.size self (fun _ => none) := heap_alloc_new w _
 have hhe := hearTab_any w.heap.size self (fun _ => none) ⟨self, 1, inc⟩ _ hT
 have hnews : newsT (fun _ => none) ⟨self, 1, inc⟩ = true := rfl
 have hhr : hearT (fun _ => none) ⟨self, 1, inc⟩ = updT (fun _ => none) self.toNat ⟨1, inc⟩ := if_pos ⟨hm, hnews⟩
 rw [hhr, hnews, decide_eq_true hm] at hhe
 have HHE := Lib.hid hhe
 have HM := Lib.hid hm
 clear hhe hT hhr hnews hm
 have hcells : tcells self (fun _ => none) = #[.int .i64 self, .bool false, .bool false, .bool false, .bool false, .bool false, .bool false, .bool false, .bool false, .int .i64 0, .int .i64 0, .int .i64 0, .int .i64 0, .int .i64 0, .int .i64 0, .int .i64 0, .int .i64 0, .int .i64 0, .int .i64 0, .int .i64 0, .int .i64 0, .int .i64 0, .int .i64 0, .int .i64 0, .int .i64 0, .int .i64 0, .int .i64 0, .int .i64 0, .int .i64 0, .int .i64 0, .int .i64 0, .int .i64 0, .int .i64 0] := rfl
 rw [hcells] at HHE
 go_enter Tryz.func37, Tryz.ntmps37
 go_wp2_with fail
 refine HHE.out.mono ?_
 rintro e w2 ⟨z, rfl, hz, _, hT2, hg2⟩
 obtain rfl := hz HM.out
 have HT2 := Lib.hid hT2
 have hb2 : Below w.heap.size w w2 := ((Below.refl w.heap.size w).alloc (Nat.le_refl _) _).grown hg2 (by rw [World.size_alloc]; omega) (fun k hk => by cases hk; exact Nat.le_refl _)
 have HB2 := Lib.hid hb2
 clear hT2 hg2 hz HHE hb2
 go_wp2_with fail
 go_ret2
 exact ⟨rfl, HT2.out, HB2.out⟩
end Go.Proofs.YtejihgfigclppaaGreat
namespace Go.Proofs.YtejihgfigclppaaGreat
open Go.Shelf Go.RowKit Go.Lib Go.Sort
set_option linter.unusedVariables false
set_option linter.unusedSimpArgs false
set_option maxHeartbeats 4000000 in
theorem rightFn_any (n lo hi : Int) (h : lo ≤ hi) (w : World) : Calls Tryz.prog 61 #[.int .i64 n, .int .i64 lo, .int .i64 hi] w fun e w' => e = .returned (.bool (decide (lo ≤ n ∧ n ≤ hi))) ∧ w' = w := by
 obtain ⟨v, hv, hc⟩ := within_is n lo hi h w
 rw [← hv]
 have HC := Lib.hid hc
 clear hc hv
 go_enter Tryz.func61, Tryz.ntmps61
 go_wp2_with fail
 refine (HC.out _).mono ?_
 rintro e w2 ⟨rfl, rfl⟩
 go_wp2_with fail
 go_ret
 exact ⟨rfl, rfl⟩
set_option maxHeartbeats 8000000 in
theorem rightD_any (c : DConf) (w : World) : Calls Tryz.prog 26 #[.agg #[.int .i64 c.tout, .int .i64 c.ind, .int .i64 c.gr]] w fun e w' => e = .returned (.bool (decide c.right)) ∧ Below w.heap.size w w' := by
 obtain ⟨t, i, g⟩ := c
 have hall : decide (DConf.right ⟨t, i, g⟩) = (decide (1 ≤ t ∧ t ≤ 100) && (decide (0 ≤ i ∧ i ≤ 8) && decide (1 ≤ g ∧ g ≤ 1000))) := by
  rw [Bool.eq_iff_iff]
  constructor
  ·intro h
   obtain ⟨a, b, c, d, e, f⟩ : DConf.right ⟨t, i, g⟩ := of_decide_eq_true h
   rw [Bool.and_eq_true, Bool.and_eq_true, decide_eq_true_iff, decide_eq_true_iff, decide_eq_true_iff]
   exact ⟨⟨a, b⟩, ⟨c, d⟩, ⟨e, f⟩⟩
  ·intro h
   rw [Bool.and_eq_true, Bool.and_eq_true, decide_eq_true_iff, decide_eq_true_iff, decide_eq_true_iff] at h
   obtain ⟨⟨a, b⟩, ⟨c, d⟩, ⟨e, f⟩⟩ := h
   exact decide_eq_true (show DConf.right ⟨t, i, g⟩ from ⟨a, b, c, d, e, f⟩)
 have h1 := fun W => rightFn_any t 1 100 (by omega) W
 have h2 := fun W => rightFn_any i 0 8 (by omega) W
 have h3 := fun W => rightFn_any g 1 1000 (by omega) W
 rw [hall]
 dsimp only
 generalize decide (1 ≤ t ∧ t ≤ 100) = b1 at *
 generalize decide (0 ≤ i ∧ i ≤ 8) = b2 at *
 generalize decide (1 ≤ g ∧ g ≤ 1000) = b3 at *
 have H1 := Lib.hid h1
 have H2 := Lib.hid h2
 have H3 := Lib.hid h3
 have HB : Hid (Below w.heap.size w (w.alloc (.cells #[.int .i64 t, .int .i64 i, .int .i64 g] 33))) := (Below.refl _ _).alloc (Nat.le_refl _) _
 clear h1 h2 h3 hall
 cases b1 with
 | false =>
  go_enter Tryz.func26, Tryz.ntmps26
  go_wp2_with fail
  refine (H1.out _).mono ?_
  rintro e w2 ⟨rfl, rfl⟩
  go_wp2_with fail
  go_ret
  exact ⟨rfl, HB.out⟩
 | true =>
  cases b2 with
  | false =>
   go_enter Tryz.func26, Tryz.ntmps26
   go_wp2_with fail
   refine (H1.out _).mono ?_
   rintro e w2 ⟨rfl, rfl⟩
   go_wp2_with fail
   refine (H2.out _).mono ?_
   rintro e w2 ⟨rfl, rfl⟩
   go_wp2_with fail
   go_ret
   exact ⟨rfl, HB.out⟩
  | true =>
   go_enter Tryz.func26, Tryz.ntmps26
   go_wp2_with fail
   refine (H1.out _).mono ?_
   rintro e w2 ⟨rfl, rfl⟩
   go_wp2_with fail
   refine (H2.out _).mono ?_
   rintro e w2 ⟨rfl, rfl⟩
   go_wp2_with fail
   refine (H3.out _).mono ?_
   rintro e w2 ⟨rfl, rfl⟩
   go_wp2_with fail
   go_ret
   exact ⟨rfl, HB.out⟩
end Go.Proofs.YtejihgfigclppaaGreat
namespace Go.Proofs.YtejihgfigclppaaGreat
open Go.Shelf Go.RowKit Go.Lib Go.Sort
set_option linter.unusedVariables false
set_option linter.unusedSimpArgs false
set_option maxHeartbeats 4000000 in
theorem memNew_bad (self inc : Int) (w : World) (hm : ¬ Mb.may ⟨self, 1, inc⟩) :
    Calls Tryz.prog 37 #[.int .i64 self, .int .i64 inc] w fun e w' => e = .returned (.tuple #[.pointer none, .int .i64 2]) ∧ Below w.heap.size w w' := by
  have hT : TabAt (w.alloc (.cells (tcells self fun _ => none) 135)) w.heap.size self (fun _ => none) := heap_alloc_new w _
  have hhe := hearTab_any w.heap.size self (fun _ => none) ⟨self, 1, inc⟩ _ hT
  rw [decide_eq_false hm] at hhe
  have HHE := Lib.hid hhe
  have HM := Lib.hid hm
  clear hhe hT hm
  have hcells : tcells self (fun _ => none) = #[.int .i64 self, .bool false, .bool false, .bool false, .bool false, .bool false, .bool false, .bool false, .bool false, .int .i64 0, .int .i64 0, .int .i64 0, .int .i64 0, .int .i64 0, .int .i64 0, .int .i64 0, .int .i64 0, .int .i64 0, .int .i64 0, .int .i64 0, .int .i64 0, .int .i64 0, .int .i64 0, .int .i64 0, .int .i64 0, .int .i64 0, .int .i64 0, .int .i64 0, .int .i64 0, .int .i64 0, .int .i64 0, .int .i64 0, .int .i64 0] := rfl
  rw [hcells] at HHE
  go_enter Tryz.func37, Tryz.ntmps37
  go_wp2_with fail
  refine HHE.out.mono ?_
  rintro e w2 ⟨z, rfl, _, hz, _, hg2⟩
  obtain rfl := hz HM.out
  have hb2 : Below w.heap.size w w2 := ((Below.refl w.heap.size w).alloc (Nat.le_refl _) _).grown hg2 (by rw [World.size_alloc]; omega) (fun k hk => by cases hk; exact Nat.le_refl _)
  have HB2 := Lib.hid hb2
  clear hg2 hz HHE hb2
  go_wp2_with fail
  go_ret2
  exact ⟨rfl, HB2.out⟩
theorem det_made {W : World} {g gt go gm : Nat} (self inc : Int) (c : DConf) (seed : Int)
    (h1 : W.heap[g]? = some (.cells #[.int .i64 self, .int .i64 inc, .int .i64 c.tout, .int .i64 c.ind, .int .i64 c.gr, .pointer (some ⟨gt, 0, none⟩), .pointer (some ⟨go, 0, none⟩), .int .i64 0, .int .i64 0, .pointer none, .int .i64 0, .map (some gm), .slice none 0 0, .bool false] 95))
    (h2 : TabAt W gt self (updT (fun _ => none) self.toNat ⟨1, inc⟩)) (h3 : W.heap[go]? = some (.cells #[.int .u64 seed, .slice none 0 0] 139)) (h4 : SinceAt W gm fun _ => none) (hn : [g, gt, go, gm].Nodup) :
    DetAt W ⟨g, gt, go, gm, none, .slice none 0 0, none⟩ (Det.new self inc c seed) where
  obj := h1
  tab := h2
  ord := ⟨.slice none 0 0, ⟨h3⟩, SlAt.nil _ _, fun h => absurd rfl h, (fun b h => nomatch h), fun b h => by cases h⟩
  since := h4
  prs := trivial
  ers := Owns.nil _ _ _ _ _
  nod := hn
theorem blocks3 (w : World) (o0 o1 o2 : Go.Obj) : (((w.alloc o0).alloc o1).alloc o2).drew.heap[w.heap.size]? = some o0 ∧ (((w.alloc o0).alloc o1).alloc o2).drew.heap[w.heap.size + 1]? = some o1 ∧ (((w.alloc o0).alloc o1).alloc o2).drew.heap[w.heap.size + 1 + 1]? = some o2 ∧ Below w.heap.size w (((w.alloc o0).alloc o1).alloc o2).drew := by
  obtain ⟨h0, h1, hb, hs⟩ := alloc2 w o0 o1
  refine ⟨?_, ?_, ?_, below_drew (hb.alloc (by omega) _)⟩
  · exact (Below.heap_alloc _ _ _ (by omega)).trans h0
  · exact (Below.heap_alloc _ _ _ (by omega)).trans h1
  · have := heap_alloc_new ((w.alloc o0).alloc o1) o2
    rw [hs] at this
    exact this
theorem since_made {W : World} {b : Nat} (h : W.heap[b]? = some (.map #[] 0)) : SinceAt W b fun _ => none := by
  obtain ⟨D, ⟨es, clock, h1, h2⟩, h3⟩ := SinceAt.made W
  have h4 := heap_alloc_new W (.map #[] 0)
  rw [h1] at h4
  injection h4 with h5
  injection h5 with h6 h7
  subst h6 h7
  exact ⟨D, ⟨#[], 0, h, h2⟩, h3⟩
theorem bAlloc {W W' : World} (h : Below W.heap.size W W') (o : Go.Obj) : Below W.heap.size W (W'.alloc o) := h.alloc h.size o
set_option maxRecDepth 100000 in
set_option maxHeartbeats 8000000 in
theorem newD_good (self inc : Int) (c : DConf) (seed : Int) (w : World) (hm : Mb.may ⟨self, 1, inc⟩) (hc : c.right) :
    Calls Tryz.prog 11 #[.int .i64 self, .int .i64 inc, .agg #[.int .i64 c.tout, .int .i64 c.ind, .int .i64 c.gr], .int .u64 seed] w fun e w' => ∃ M, e = .returned (.tuple #[.pointer (some ⟨M.g, 0, none⟩), .int .i64 0]) ∧ DetAt w' M (Det.new self inc c seed) ∧ (∀ k ∈ M.own, w.heap.size ≤ k) ∧ Below w.heap.size w w' := by
  have hn1 := fun W => memNew_any self inc W hm
  have hr1 := fun W => rightD_any c W
  rw [decide_eq_true hc] at hr1
  have hor := fun W => new_any seed W
  obtain ⟨w1, hw1⟩ : ∃ w1, w.alloc (.cells #[.int .i64 c.tout, .int .i64 c.ind, .int .i64 c.gr] 33) = w1 := ⟨_, rfl⟩
  have hb1 : Below w.heap.size w w1 := by rw [← hw1]; exact (Below.refl _ _).alloc (Nat.le_refl _) _
  have hr : w1.heap[w.heap.size]? = some (.cells #[.int .i64 c.tout, .int .i64 c.ind, .int .i64 c.gr] 33) := by rw [← hw1]; exact heap_alloc_new w _
  have hs1 : w1.heap.size = w.heap.size + 1 := by rw [← hw1]; exact World.size_alloc _ _
  have HN1 := Lib.hid hn1
  have HR1 := Lib.hid hr1
  have HOR := Lib.hid hor
  have HW1 := Lib.hid hw1
  have HB1 := Lib.hid hb1
  have HR := Lib.hid hr
  clear hn1 hr1 hor hw1 hb1 hr hm hc
  obtain ⟨t, i, g⟩ := c
  dsimp only at *
  go_enter Tryz.func11, Tryz.ntmps11
  go_wp2_with fail
  rw [HW1.out]
  go_wp2_with fail
  refine (HN1.out _).mono ?_
  rintro e w2 ⟨rfl, hT2, hb2⟩
  have r0 := cell_of_row w2 w.heap.size 0 _ _ _ ((hb2.block w.heap.size (by omega)).trans HR.out)
  have r1 := cell_of_row w2 w.heap.size 1 _ _ _ ((hb2.block w.heap.size (by omega)).trans HR.out)
  have r2 := cell_of_row w2 w.heap.size 2 _ _ _ ((hb2.block w.heap.size (by omega)).trans HR.out)
  simp only [List.getElem?_toArray, List.getElem?_cons_zero, List.getElem?_cons_succ] at r0 r1 r2
  have hlt2 := hT2.lt
  have HT2 := Lib.hid hT2
  have HB2 := Lib.hid (HB1.out.trans (hb2.mono HB1.out.size))
  have hs2 : w.heap.size < w2.heap.size := by have := hb2.size; omega
  clear hb2 hT2
  go_wp2_with fail
  refine (HR1.out _).mono ?_
  rintro e w3 ⟨rfl, hb3⟩
  have q0 := (hb3.cell (p := ⟨w.heap.size, 0, none⟩) hs2).trans r0
  have q1 := (hb3.cell (p := ⟨w.heap.size, 1, none⟩) hs2).trans r1
  have q2 := (hb3.cell (p := ⟨w.heap.size, 2, none⟩) hs2).trans r2
  have hT3 := HT2.out.keep (hb3.block _ hlt2)
  have hlt3 : w1.heap.size < w3.heap.size := hT3.lt
  have hs3 : w.heap.size < w3.heap.size := by omega
  have HT3 := Lib.hid hT3
  have HB3 := Lib.hid (HB2.out.trans (hb3.mono HB2.out.size))
  have hk : ∀ W, Below w3.heap.size w3 W → W.cell? ⟨w.heap.size, 0, none⟩ = some (.int .i64 t) ∧ W.cell? ⟨w.heap.size, 1, none⟩ = some (.int .i64 i) ∧ W.cell? ⟨w.heap.size, 2, none⟩ = some (.int .i64 g) := fun W hW => ⟨(hW.cell (p := ⟨w.heap.size, 0, none⟩) hs3).trans q0, (hW.cell (p := ⟨w.heap.size, 1, none⟩) hs3).trans q1, (hW.cell (p := ⟨w.heap.size, 2, none⟩) hs3).trans q2⟩
  have HK := Lib.hid hk
  clear hb3 r0 r1 r2 HT2 HB2 hT3 HR1 HN1 hk
  go_wp2_with fail
  have hmm := @run_makeMap Tryz.prog
  go_cut [8, 9] (fun s8 s9 wx => ∃ M : DM, s8 = .pointer (some ⟨M.g, 0, none⟩) ∧ s9 = .int .i64 0 ∧ Hid (DetAt wx M (Det.new self inc ⟨t, i, g⟩ seed)) ∧ Hid (∀ k ∈ M.own, w.heap.size ≤ k) ∧ Hid (Below w.heap.size w wx))
  case first =>
    go_region_held (fun w' => w'.cell? ⟨w.heap.size, 0, none⟩ = some (.int .i64 t) ∧ w'.cell? ⟨w.heap.size, 1, none⟩ = some (.int .i64 i) ∧ w'.cell? ⟨w.heap.size, 2, none⟩ = some (.int .i64 g)) (first | exact ⟨q0, q1, q2⟩ | (refine HK.out _ ?_; repeat (first | exact Below.refl _ _ | refine below_drew ?_ | refine bAlloc ?_ _)))
      (first | (go_at_call 38; refine (HOR.out _).mono ?_; rintro e w4 ⟨rfl, rfl⟩))
    all_goals
      go_wp2_with fail
      go_meet
      first
        | (obtain ⟨a0, a1, a2, hbl⟩ := blocks3 w3 (.cells #[.int .u64 seed, .slice none 0 0] 139) (.map #[] 0) (.cells #[.int .i64 self, .int .i64 inc, .int .i64 t, .int .i64 i, .int .i64 g, .pointer (some ⟨w.heap.size + 1, 0, none⟩), .pointer (some ⟨w3.heap.size, 0, none⟩), .int .i64 0, .int .i64 0, .pointer none, .int .i64 0, .map (some (w3.heap.size + 1)), .slice none 0 0, .bool false] 95)
           have hTt := HT3.out.keep (hbl.block _ hlt3)
           rw [hs1] at hTt
           exact ⟨⟨w3.heap.size + 1 + 1, w.heap.size + 1, w3.heap.size, w3.heap.size + 1, none, .slice none 0 0, none⟩, rfl, rfl, det_made self inc ⟨t, i, g⟩ seed a2 hTt a0 (since_made a1) (by simp; omega), (fun k hk => by simp only [DM.own, List.mem_cons, Option.toList_none, List.nil_append, Value.ownBlock, List.not_mem_nil, or_false] at hk; omega), HB3.out.trans (hbl.mono HB3.out.size)⟩)
        | (obtain ⟨a0, a1, a2, hbl⟩ := blocks3 w3 (.map #[] 0) (.cells #[.int .u64 seed, .slice none 0 0] 139) (.cells #[.int .i64 self, .int .i64 inc, .int .i64 t, .int .i64 i, .int .i64 g, .pointer (some ⟨w.heap.size + 1, 0, none⟩), .pointer (some ⟨w3.heap.size + 1, 0, none⟩), .int .i64 0, .int .i64 0, .pointer none, .int .i64 0, .map (some w3.heap.size), .slice none 0 0, .bool false] 95)
           have hTt := HT3.out.keep (hbl.block _ hlt3)
           rw [hs1] at hTt
           exact ⟨⟨w3.heap.size + 1 + 1, w.heap.size + 1, w3.heap.size + 1, w3.heap.size, none, .slice none 0 0, none⟩, rfl, rfl, det_made self inc ⟨t, i, g⟩ seed a2 hTt a1 (since_made a0) (by simp; omega), (fun k hk => by simp only [DM.own, List.mem_cons, Option.toList_none, List.nil_append, Value.ownBlock, List.not_mem_nil, or_false] at hk; omega), HB3.out.trans (hbl.mono HB3.out.size)⟩)
  case rest =>
    obtain ⟨M, rfl, rfl, HD, HO, HB⟩ := hcut
    go_wp2_with fail
    go_ret2
    exact ⟨M, rfl, HD.out, HO.out, HB.out⟩
set_option maxHeartbeats 4000000 in
theorem newD_bad (self inc : Int) (c : DConf) (seed : Int) (w : World) (hm : ¬ Mb.may ⟨self, 1, inc⟩) :
    Calls Tryz.prog 11 #[.int .i64 self, .int .i64 inc, .agg #[.int .i64 c.tout, .int .i64 c.ind, .int .i64 c.gr], .int .u64 seed] w fun e w' => e = .returned (.tuple #[.pointer none, .int .i64 2]) ∧ Below w.heap.size w w' := by
  have hn1 := fun W => memNew_bad self inc W hm
  have HN1 := Lib.hid hn1
  have HB1 : Hid (Below w.heap.size w (w.alloc (.cells #[.int .i64 c.tout, .int .i64 c.ind, .int .i64 c.gr] 33))) := (Below.refl _ _).alloc (Nat.le_refl _) _
  clear hn1 hm
  go_enter Tryz.func11, Tryz.ntmps11
  go_wp2_with fail
  refine (HN1.out _).mono ?_
  rintro e w2 ⟨rfl, hb2⟩
  have HB2 := Lib.hid (HB1.out.trans (hb2.mono HB1.out.size))
  clear hb2 HN1
  go_wp2_with fail
  go_ret2
  exact ⟨rfl, HB2.out⟩
set_option maxHeartbeats 4000000 in
theorem newD_bad2 (self inc : Int) (c : DConf) (seed : Int) (w : World) (hm : Mb.may ⟨self, 1, inc⟩) (hc : ¬ c.right) :
    Calls Tryz.prog 11 #[.int .i64 self, .int .i64 inc, .agg #[.int .i64 c.tout, .int .i64 c.ind, .int .i64 c.gr], .int .u64 seed] w fun e w' => e = .returned (.tuple #[.pointer none, .int .i64 2]) ∧ Below w.heap.size w w' := by
  have hn1 := fun W => memNew_any self inc W hm
  have hr1 := fun W => rightD_any c W
  rw [decide_eq_false hc] at hr1
  obtain ⟨w1, hw1⟩ : ∃ w1, w.alloc (.cells #[.int .i64 c.tout, .int .i64 c.ind, .int .i64 c.gr] 33) = w1 := ⟨_, rfl⟩
  have hb1 : Below w.heap.size w w1 := by rw [← hw1]; exact (Below.refl _ _).alloc (Nat.le_refl _) _
  have hr : w1.heap[w.heap.size]? = some (.cells #[.int .i64 c.tout, .int .i64 c.ind, .int .i64 c.gr] 33) := by rw [← hw1]; exact heap_alloc_new w _
  have hs1 : w1.heap.size = w.heap.size + 1 := by rw [← hw1]; exact World.size_alloc _ _
  have HN1 := Lib.hid hn1
  have HR1 := Lib.hid hr1
  have HW1 := Lib.hid hw1
  have HB1 := Lib.hid hb1
  have HR := Lib.hid hr
  clear hn1 hr1 hw1 hb1 hr hm hc
  go_enter Tryz.func11, Tryz.ntmps11
  go_wp2_with fail
  rw [HW1.out]
  go_wp2_with fail
  refine (HN1.out _).mono ?_
  rintro e w2 ⟨rfl, hT2, hb2⟩
  have r0 := cell_of_row w2 w.heap.size 0 _ _ _ ((hb2.block w.heap.size (by omega)).trans HR.out)
  have r1 := cell_of_row w2 w.heap.size 1 _ _ _ ((hb2.block w.heap.size (by omega)).trans HR.out)
  have r2 := cell_of_row w2 w.heap.size 2 _ _ _ ((hb2.block w.heap.size (by omega)).trans HR.out)
  simp only [List.getElem?_toArray, List.getElem?_cons_zero, List.getElem?_cons_succ] at r0 r1 r2
  have HB2 := Lib.hid (HB1.out.trans (hb2.mono HB1.out.size))
  clear hb2 hT2 HN1
  go_wp2_with fail
  refine (HR1.out _).mono ?_
  rintro e w3 ⟨rfl, hb3⟩
  have HB3 := Lib.hid (HB2.out.trans (hb3.mono HB2.out.size))
  clear hb3 r0 r1 r2 HR1
  go_wp2_with fail
  go_ret2
  exact ⟨rfl, HB3.out⟩
end Go.Proofs.YtejihgfigclppaaGreat
