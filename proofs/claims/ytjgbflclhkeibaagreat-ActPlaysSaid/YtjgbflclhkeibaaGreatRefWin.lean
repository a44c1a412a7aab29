/-
  The reference's Winner: the policy and the dot of the latest Set of a workload, if there is one. (NOT BUILT YET: typed after XWin, whose program text is the same.)
-/
import Derived.Test.YtjgbflclhkeibaaGreatRefSets
namespace Go.Proofs.YtjgbflclhkeibaaGreat
open Go.Shelf Go.RowKit Go.Lib Go.Sort
set_option linter.unusedVariables false
set_option maxHeartbeats 4000000 in
theorem refWinner_any (oa : Option Addr) (cap : Nat) (ps : List PEv) (work : Int) (w : World) (h : EvsAt w (.slice oa ps.length cap) ps) (hl : ps.length ≤ 1000000) (hr : ∀ p ∈ ps, p.2.rem.length ≤ 1000000) :
    Calls Tryz.prog 30 #[.slice oa ps.length cap, .int .i64 work] w (WinPost ps work w) := by
  have hs := fun (W : World) (hE : EvsAt W (.slice oa ps.length cap) ps) => refSets_any oa cap ps work W hE hl hr
  have HS := Lib.hid hs
  have HE := Lib.hid h
  clear hs h hr
  go_enter Tryz.func30, Tryz.ntmps30
  go_wp2_with fail
  refine (HS.out _ (HE.out.below (((Below.refl _ _).alloc (Nat.le_refl _) _).alloc (by simp) _) (Nat.le_refl _))).mono ?_
  rintro e w1 ⟨v, qs, rfl, hst, hacc, hb⟩
  obtain ⟨hcell, hfr⟩ := bcell hb
  have hz : w.heap.size + 1 < w1.heap.size := by have := hb.size; simp at this; omega
  have HST := Lib.hid hst
  have HACC := Lib.hid hacc
  have HB := Lib.hid hb
  obtain ⟨ov, cv, rfl⟩ := slAt_slice hacc.row.at
  clear hst hb
  cases qs with
  | nil =>
    clear hacc
    go_wp2_with fail
    refine bodyPost_ret (v := winV []) (by simp [results, Tryz.results30, go_sem, winV, cell_set, hcell]) rfl ⟨[], HST.out, rfl, ?_⟩
    have hb1 : RowKit.Below w.heap.size w w1 := (((RowKit.Below.refl _ _).alloc (Nat.le_refl _) _).alloc (by simp) _).trans (HB.out.mono (by simp; omega))
    clear hcell hfr
    go_grown
  | cons q qs =>
    have hsl := hacc.evs.1
    obtain ⟨b, off, rfl⟩ := slAt_some hsl 0 (by simp)
    obtain ⟨ra, rn, rc, ev, hp, c0, c1, c2, c3, c4, c5, c6, c7, c8, c9, c10, c11, c12, c13⟩ := hsl.ev 0 (by simp)
    have hbs : w.heap.size + 2 ≤ b := by
      have := (hacc.row.lt b rfl).1
      simpa using this
    have HP := Lib.hid hp
    have len0 : (((q :: qs).length : Int) == 0) = false := by simp; omega
    clear hp hsl hacc
    simp only [Nat.zero_mul, Nat.add_zero] at c0 c1 c2 c3 c4 c5 c6 c7 c8 c9 c10 c11 c12 c13
    go_wp2_with fail
    go_region
    all_goals
      go_wp2_with fail
      refine bodyPost_ret (v := winV ((q :: qs).map (·.2))) ?_ rfl ⟨_, HST.out, rfl, ?_⟩
      · have e : q = (⟨ra, rn, rc⟩, ev) := by have := HP.out; simpa using this
        subst e
        simp [results, Tryz.results30, go_sem, winV, cell_set, hcell]
      · have hb1 : RowKit.Below w.heap.size w w1 := (((RowKit.Below.refl _ _).alloc (Nat.le_refl _) _).alloc (by simp) _).trans (HB.out.mono (by simp; omega))
        clear hcell hfr
        go_grown
end Go.Proofs.YtjgbflclhkeibaaGreat
