/-
  The detector contradicts, buries.
-/
import Derived.Test.YtejihgfigclppaaGreatSwimB
import Derived.Deep.RegionHeld
namespace Go.Proofs.YtejihgfigclppaaGreat
open Go.Shelf Go.RowKit Go.Lib Go.Sort
set_option linter.unusedVariables false
set_option linter.unusedSimpArgs false
/-- a scalar of the detector's own block turned -/
theorem DetAt.scalar {W : World} {M : DM} {d d' : Det} (h : DetAt W M d) (o : Nat) (v : Value) (hc : (dcells M d).setIfInBounds o v = dcells M d') (e : d'.self = d.self ∧ d'.tab = d.tab ∧ d'.s = d.s ∧ d'.ws = d.ws ∧ d'.since = d.since ∧ d'.pr = d.pr ∧ d'.er = d.er) : DetAt (W.setCell ⟨M.g, o, none⟩ v) M d' := by
  obtain ⟨n1, n2, n3, n4, n5, n6, n7, n8, n9⟩ := nod_ne h.nod
  obtain ⟨e1, e2, e3, e4, e5, e6, e7⟩ := e
  have ho : ∀ k, k ≠ M.g → (W.setCell ⟨M.g, o, none⟩ v).heap[k]? = W.heap[k]? := fun k hk => Below.heap_setCell W ⟨M.g, o, none⟩ _ _ hk
  exact {
    obj := by rw [← hc]; exact heap_setCell_same W M.g o v _ _ _ h.obj
    tab := by rw [e1, e2]; exact h.tab.keep (ho _ n1.symm)
    ord := by rw [e3, e4]; exact h.ord.keep (ho _ n2.symm) fun b hb => ho b (n9 b hb).1
    since := by rw [e5]; exact h.since.kept (ho _ n3.symm)
    prs := by rw [e6]; exact h.prs.keep fun b hb => ho b (n7 b hb).1
    ers := by rw [e7]; exact h.ers.keep fun b hb => ho b (n8 b hb).1
    nod := h.nod }
set_option maxRecDepth 100000 in
set_option maxHeartbeats 8000000 in
theorem contradict_any (M : DM) (d : Det) (ks : Nat) (hks : ks < 8) (hself : d.self = ks) (own : Wd) (ho : d.tab ks = some own) (hi : 0 ≤ own.inc) (w : World) (h : DetAt w M d) (hc : FitsI d.clock) :
    Calls Tryz.prog 41 #[.pointer (some ⟨M.g, 0, none⟩)] w fun e w' => e = .returned (.tuple #[]) ∧ DetAt w' M d.contradict ∧ Touch (fun k => k = M.g ∨ k = M.gt ∨ k = M.gm) w w' := by
  have hp : Tryz.prog.follows .mixedOrders = true := by kernel_rfl
  have hof := fun (W : World) (hW : Below w.heap.size w W) => ofTab_some M.gt d.self d.tab ks hks own ho W (h.tab.keep (hW.block _ h.tab.lt))
  have hcon : d.contradict = if d.left = true ∨ (own.st = 1 ∧ own.inc ≤ d.inc) ∨ 1099511627776 ≤ own.inc then d else Det.hear { d with inc := own.inc + 1 } ⟨d.self, 1, own.inc + 1⟩ := by
    unfold Det.contradict
    rw [hself, Int.toNat_natCast, ho]
  have k0 : w.cell? ⟨M.g, 0, none⟩ = some (.int .i64 ks) := by rw [← hself]; exact h.cell 0
  have k5 : w.cell? ⟨M.g, 5, none⟩ = some (.pointer (some ⟨M.gt, 0, none⟩)) := h.cell 5
  have hgl := h.lt
  have HD := Lib.hid h
  have HOF := Lib.hid hof
  have HCON := Lib.hid hcon
  clear hof hcon h ho
  go_enter Tryz.func41, Tryz.ntmps41
  go_wp2_with fail
  go_cut [2, 3] (fun s2 s3 wx => ∃ b, s2 = .pointer (some ⟨b, 0, none⟩) ∧ s3 = .bool true ∧ b ≠ M.g ∧ Hid (wx.heap[b]? = some (.cells #[.int .i64 ks, .int .i64 own.st, .int .i64 own.inc] 45)) ∧ Hid (Below w.heap.size w wx))
  case first =>
    go_region_law (first | (go_simp; refine (HOF.out _ (by first | exact below_drew (Below.refl _ _) | exact below_drew ((Below.refl _ _).alloc (Nat.le_refl _) _))).mono ?_; rintro e w2 ⟨rfl, hb2⟩; have hbw := hb2; try (have hr2 : w2.heap[w.heap.size]? = some (.cells #[.int .i64 0, .int .i64 0, .int .i64 0] 45) := (hb2.block w.heap.size (by simp [World.drew])).trans (heap_alloc_new w _); have l0 : w2.cell? ⟨w.heap.size, 0, none⟩ = some (.int .i64 0) := cell_of_row w2 _ 0 _ _ _ hr2; have l1 : w2.cell? ⟨w.heap.size, 1, none⟩ = some (.int .i64 0) := cell_of_row w2 _ 1 _ _ _ hr2; have l2 : w2.cell? ⟨w.heap.size, 2, none⟩ = some (.int .i64 0) := cell_of_row w2 _ 2 _ _ _ hr2; have lz : ∀ k, w2.frozen? ⟨w.heap.size, k, none⟩ = false := fun k => by unfold World.frozen?; rw [hr2]; simp)))
    all_goals
      go_wp2_with fail
      go_meet
      first
        | exact ⟨w2.heap.size, rfl, rfl, Nat.ne_of_gt (Nat.lt_of_lt_of_le hgl hbw.size), heap_alloc_new w2 _, ((below_drew (Below.refl w.heap.size w)).trans hbw).alloc hbw.size _⟩
        | exact ⟨w.heap.size, rfl, rfl, Nat.ne_of_gt hgl, heap_cellSame _ _ _ _ _ _ (heap_cellSame _ _ _ _ _ _ (heap_cellSame _ _ _ _ _ _ hr2)), ((((below_drew ((Below.refl w.heap.size w).alloc (Nat.le_refl _) _)).trans (hbw.mono (by simp [World.drew]))).setCell (p := ⟨w.heap.size, 0, none⟩) (Nat.le_refl _) _).setCell (p := ⟨w.heap.size, 1, none⟩) (Nat.le_refl _) _).setCell (p := ⟨w.heap.size, 2, none⟩) (Nat.le_refl _) _⟩
  case rest =>
    obtain ⟨b, rfl, rfl, hbne, HR, HB⟩ := hcut
    have hDc := HD.out.below HB.out
    have HDc := Lib.hid hDc
    have c1 : wc.cell? ⟨M.g, 1, none⟩ = some (.int .i64 d.inc) := hDc.cell 1
    have c0 : wc.cell? ⟨M.g, 0, none⟩ = some (.int .i64 ks) := by rw [← hself]; exact hDc.cell 0
    have c13 : wc.cell? ⟨M.g, 13, none⟩ = some (.bool d.left) := hDc.cell 13
    have z1 := hDc.frozen 1
    have r1 := cell_of_row wc b 1 _ _ _ HR.out
    have r2 := cell_of_row wc b 2 _ _ _ HR.out
    simp only [List.getElem?_toArray, List.getElem?_cons_zero, List.getElem?_cons_succ] at r1 r2
    have hTc : Touch (fun k => k = M.g ∨ k = M.gt ∨ k = M.gm) w wc := Touch.of_below HB.out (Nat.le_refl _)
    have HTc := Lib.hid hTc
    clear hDc hTc k0 k5 HOF HB HD hgl
    obtain ⟨fine, hfine⟩ : ∃ fine, decide (own.st = 1 ∧ own.inc ≤ d.inc) = fine := ⟨_, rfl⟩
    go_wp2_with fail
    go_cut [4] (fun s4 wx => s4 = .bool fine ∧ ∃ q, wx = wc.drewN q)
    case first =>
      by_cases h1 : own.st = 1
      · have h1b : (own.st == 1) = true := by simpa using h1
        have hf2 : decide (own.inc ≤ d.inc) = fine := by rw [← hfine]; simp [h1]
        clear hfine
        go_quiet (fail)
        go_wp2_with fail
        go_meet
        exact ⟨rfl, _, rfl⟩
      · have h1b : (own.st == 1) = false := by simpa using h1
        have hf2 : fine = false := by rw [← hfine]; simp [h1]
        subst hf2
        clear hfine
        go_quiet (fail)
        go_wp2_with fail
        go_meet
        exact ⟨rfl, _, rfl⟩
    case rest =>
      obtain ⟨rfl, q, rfl⟩ := hcut
      have hDq : DetAt (wc.drewN q) M d := HDc.out.keep fun _ _ => rfl
      have HDq := Lib.hid hDq
      have e1 : (wc.drewN q).cell? ⟨M.g, 1, none⟩ = some (.int .i64 d.inc) := c1
      have e0 : (wc.drewN q).cell? ⟨M.g, 0, none⟩ = some (.int .i64 ks) := c0
      have e13 : (wc.drewN q).cell? ⟨M.g, 13, none⟩ = some (.bool d.left) := c13
      have f1 : (wc.drewN q).cell? ⟨b, 1, none⟩ = some (.int .i64 own.st) := r1
      have f2 : (wc.drewN q).cell? ⟨b, 2, none⟩ = some (.int .i64 own.inc) := r2
      have g1 : (wc.drewN q).frozen? ⟨M.g, 1, none⟩ = false := z1
      have HTq := Lib.hid (HTc.out.trans (Touch.of_grown (L := fun k => k = M.g ∨ k = M.gt ∨ k = M.gm) (gb_drewN wc q none) (fun j hj => by cases hj)) fun _ _ h => h)
      clear c1 c0 c13 r1 r2 z1 HDc HTc hDq HR
      generalize wc.drewN q = w5 at *
      have hfi : (own.st = 1 ∧ own.inc ≤ d.inc) ↔ fine = true := by rw [← hfine, decide_eq_true_iff]
      have HFI := Lib.hid hfi
      clear hfi hfine
      by_cases hst : d.left = true ∨ (own.st = 1 ∧ own.inc ≤ d.inc) ∨ 1099511627776 ≤ own.inc
      · have hd : d.contradict = d := by rw [HCON.out, if_pos hst]
        have HDD := Lib.hid hd
        have HST := Lib.hid hst
        clear hst hd HCON
        cases hl : d.left with
        | true =>
          rw [hl] at e13
          go_wp2_with fail
          refine bodyPost_ret (v := .tuple #[]) (by simp [results, Tryz.results41, go_sem]) rfl ⟨rfl, by rw [HDD.out]; exact HDq.out, HTq.out⟩
        | false =>
          rw [hl] at e13
          cases fine with
          | true =>
            go_wp2_with fail
            refine bodyPost_ret (v := .tuple #[]) (by simp [results, Tryz.results41, go_sem]) rfl ⟨rfl, by rw [HDD.out]; exact HDq.out, HTq.out⟩
          | false =>
            have ht : 1099511627776 ≤ own.inc := by
              rcases HST.out with h | h | h
              · rw [hl] at h; cases h
              · exact absurd (HFI.out.1 h) (by decide)
              · exact h
            go_wp2_with fail
            refine bodyPost_ret (v := .tuple #[]) (by simp [results, Tryz.results41, go_sem]) rfl ⟨rfl, by rw [HDD.out]; exact HDq.out, HTq.out⟩
      · have hd : d.contradict = Det.hear { d with inc := own.inc + 1 } ⟨d.self, 1, own.inc + 1⟩ := by rw [HCON.out, if_neg hst]
        rw [hself] at hd
        have HDD := Lib.hid hd
        have hl : d.left = false := by cases h : d.left with
          | true => exact absurd (.inl h) hst
          | false => rfl
        have hf : fine = false := by cases h : fine with
          | true => exact absurd (.inr (.inl (HFI.out.2 h))) hst
          | false => rfl
        have ht : ¬ 1099511627776 ≤ own.inc := fun h => hst (.inr (.inr h))
        subst hf
        rw [hl] at e13
        have hw : IntKind.i64.wrap (own.inc + 1) = own.inc + 1 := by rw [IntKind.wrap_i64]; omega
        have hD6 := HDq.out.scalar (d' := { d with inc := own.inc + 1 }) 1 (.int .i64 (own.inc + 1)) rfl ⟨rfl, rfl, rfl, rfl, rfl, rfl, rfl⟩
        have i0 : (w5.setCell ⟨M.g, 1, none⟩ (.int .i64 (own.inc + 1))).cell? ⟨M.g, 0, none⟩ = some (.int .i64 ks) := by rw [← hself]; exact hD6.cell 0
        have i1 : (w5.setCell ⟨M.g, 1, none⟩ (.int .i64 (own.inc + 1))).cell? ⟨M.g, 1, none⟩ = some (.int .i64 (own.inc + 1)) := hD6.cell 1
        have hhe := hear_any M { d with inc := own.inc + 1 } ⟨d.self, 1, own.inc + 1⟩ (w5.setCell ⟨M.g, 1, none⟩ (.int .i64 (own.inc + 1))).drew (hD6.keep fun _ _ => rfl) hc
        rw [hself] at hhe
        have hT6 : Touch (fun k => k = M.g ∨ k = M.gt ∨ k = M.gm) w (w5.setCell ⟨M.g, 1, none⟩ (.int .i64 (own.inc + 1))).drew := (HTq.out.trans (touch_set (fun k => k = M.g ∨ k = M.gt ∨ k = M.gm) w5 ⟨M.g, 1, none⟩ _ (.inl rfl)) fun _ _ h => h).trans (Touch.of_grown (L := fun k => k = M.g ∨ k = M.gt ∨ k = M.gm) (gb_drew _ none) (fun j hj => by cases hj)) fun _ _ h => h
        have HHE := Lib.hid hhe
        have HT6 := Lib.hid hT6
        clear hst hd HCON hhe hT6 hD6
        go_wp2_with fail
        clear e0 e1 e13 f1 f2 g1
        go_region_held (fun w' => w'.cell? ⟨M.g, 0, none⟩ = some (.int .i64 ks) ∧ w'.cell? ⟨M.g, 1, none⟩ = some (.int .i64 (own.inc + 1))) (first | exact ⟨i0, i1⟩ | exact ⟨j0, j1⟩) (first | (go_at_call 40; refine HHE.out.mono ?_; rintro e w7 ⟨rfl, hD7, hT7⟩; have j0 : w7.cell? ⟨M.g, 0, none⟩ = some (.int .i64 ks) := (hD7.cell 0).trans (congrArg (fun z => some (Value.int .i64 z)) (hear_self _ _)); have j1 : w7.cell? ⟨M.g, 1, none⟩ = some (.int .i64 (own.inc + 1)) := (hD7.cell 1).trans (congrArg (fun z => some (Value.int .i64 z)) (hear_inc _ _))))
        all_goals
          go_wp2_with fail
          go_end0
          exact ⟨rfl, by rw [HDD.out]; exact hD7, HT6.out.trans hT7 (fun _ _ h => .inr h)⟩
end Go.Proofs.YtejihgfigclppaaGreat
