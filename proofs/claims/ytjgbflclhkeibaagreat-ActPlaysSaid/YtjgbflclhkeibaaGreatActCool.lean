/-
  cooled: whether it is not too early for a plan.
-/
import Derived.Test.YtjgbflclhkeibaaGreatActAsk
import Derived.Deep.RegionHeld3
namespace Go.Proofs.YtjgbflclhkeibaaGreat
open Go.Shelf Go.RowKit Go.Lib Go.Sort
set_option linter.unusedVariables false
section
variable (b : Nat) (c : ACfg) (t l live : Value) (work now tick : Int) (p : Pol) (load : Int) (w : World)
set_option maxHeartbeats 1000000 in
theorem cooled_any (n ab : Nat) (vs : Nat → Value) (ts : Nat → Trk) (hn : n < 8) (ht : t = .pointer (some ⟨ab, 4 + n * 3, none⟩)) (h : QAt w b c t l live work now tick p load) (ha : AObj ab w c vs ts) :
    Calls Tryz.prog 27 #[.pointer (some ⟨b, 0, none⟩)] w fun e w' => e = askE (!decide (tooEarly (ts n) p tick)) 14 ∧ Below w.heap.size w w' := by
  subst ht
  have hq : ∀ W, Below w.heap.size w W → W.cell? ⟨b, 4, none⟩ = some (.pointer (some ⟨ab, 4 + n * 3, none⟩)) ∧ W.cell? ⟨b, 9, none⟩ = some (.int .i64 tick) ∧ W.cell? ⟨b, 16, none⟩ = some (.int .i64 p.cool) ∧ W.cell? ⟨ab, 4 + n * 3 + 1, none⟩ = some (.bool (ts n).written) ∧ W.cell? ⟨ab, 4 + n * 3 + 2, none⟩ = some (.int .i64 (ts n).at') :=
    fun W hW => ⟨(h.below hW).cell 4, (h.below hW).cell 9, (h.below hW).cell 16, ((ha.below hW).cell _).trans (acells_written c vs ts hn), ((ha.below hW).cell _).trans (acells_at c vs ts hn)⟩
  obtain ⟨c4, c9, c16, a1, a2⟩ := hq w (Below.refl _ _)
  have hs : ∀ W, Below w.heap.size w W → Calls Tryz.prog 44 #[.int .i64 tick, .int .i64 p.cool] W fun e w' => e = .returned (.int .i64 (satSub tick p.cool)) ∧ Below w.heap.size w w' :=
    fun W hW => (sub_any tick p.cool W).mono fun e w' ⟨he, hg⟩ => ⟨he, hW.trans (hg.below.mono hW.size)⟩
  have hm := fun ok W => must_any ok 14 W
  obtain ⟨ok, hok⟩ : ∃ ok, (!decide (tooEarly (ts n) p tick)) = ok := ⟨_, rfl⟩
  rw [hok]
  have hte : (!decide (tooEarly (ts n) p tick)) = (!(ts n).written || decide ((ts n).at' ≤ satSub tick p.cool)) := by
    rw [Bool.eq_iff_iff]
    simp only [Bool.not_eq_true', decide_eq_false_iff_not, Bool.or_eq_true, decide_eq_true_eq]
    unfold tooEarly
    cases (ts n).written
    · simp
    · simp
  rw [hte] at hok
  generalize (ts n).written = wr0 at *
  generalize (ts n).at' = at0 at *
  have hblt := h.lt
  have hablt := ha.lt
  generalize hsu : satSub tick p.cool = su at *
  have HM := Lib.hid hm
  have HS := Lib.hid hs
  have HQ := Lib.hid hq
  have hmx : Tryz.prog.follows .mixedOrders = true := by kernel_rfl
  have hy : ∀ W, Calls Tryz.prog 39 #[.bool true, .int .i64 14] W fun e w' => e = .returned (.tuple #[]) ∧ Grew W w' := fun W => (must_yes 14 W).mono fun e w' ⟨he, hw⟩ => ⟨he, by rw [← hw]; exact Grew.refl _⟩
  have HY := Lib.hid hy
  have hys : ∀ W, Calls Tryz.prog 39 #[.bool true, .int .i64 14] W fun e w' => e = .returned (.tuple #[]) ∧ w' = W := fun W => (must_yes 14 W).mono fun e w' ⟨he, hw⟩ => ⟨he, hw.symm⟩
  have HYS := Lib.hid hys
  clear hys
  have hsq := fun W => sub_any tick p.cool W
  rw [hsu] at hsq
  have HSQ := Lib.hid hsq
  clear h ha hq hs hm
  generalize 4 + n * 3 = o0 at *
  have c4 := cell_grown hblt c4
  have c9 := cell_grown hblt c9
  have c16 := cell_grown hblt c16
  have a1 := cell_grown hablt a1
  have a2 := cell_grown hablt a2
  clear hte hy hsq hsu
  cases wr0 with
  | false =>
    obtain rfl : true = ok := by rw [← hok]; rfl
    clear hok
    go_enter Tryz.func27, Tryz.ntmps27
    go_wp2_with fail
    go_quiet (first | (go_at_call 39; refine Calls.quiet_of_same (HYS.out _)))
    go_wp2_with fail
    exact ⟨rfl, _, results_none rfl _ _ _, rfl, below_drewN _ _⟩
  | true =>
    simp only [Bool.not_true, Bool.false_or] at hok
    cases ok with
    | true =>
      go_enter Tryz.func27, Tryz.ntmps27
      go_wp2_with fail
      go_quiet_grown (first | (go_at_call 44; refine Calls.grown_of (HSQ.out _)) | (go_at_call 39; refine Calls.grown_of (HY.out _)))
      go_wp2_with fail
      exact ⟨rfl, _, results_none rfl _ _ _, rfl, ⟨rfl, rfl, rfl, by simp, fun k hk => heap_grow_old _ _ hk⟩⟩
    | false =>
      go_enter Tryz.func27, Tryz.ntmps27
      go_wp2_with fail
      go_region_held (fun w' => w'.cell? ⟨b, 4, none⟩ = some (.pointer (some ⟨ab, o0, none⟩)) ∧ w'.cell? ⟨b, 9, none⟩ = some (.int .i64 tick) ∧ w'.cell? ⟨b, 16, none⟩ = some (.int .i64 p.cool) ∧ w'.cell? ⟨ab, o0 + 1, none⟩ = some (.bool true) ∧ w'.cell? ⟨ab, o0 + 2, none⟩ = some (.int .i64 at0)) (first | exact HQ.out _ (below_drew (Below.refl _ _)) | exact HQ.out _ HB1.out)
        (first
          | (go_at_call 44; refine (HS.out _ (below_drew (Below.refl _ _))).mono ?_; rintro e w1 ⟨rfl, hb1⟩; have HB1 := Lib.hid hb1; clear hb1)
          | (go_at_call 39; refine (HM.out false _).mono ?_; rintro e w2 ⟨rfl, rfl⟩; simp only [askE, Bool.false_eq_true, if_false]; refine (fun (_ : False → (‹Act → World → Prop› : Act → World → Prop) ⟨#[], []⟩ w1) => ⟨rfl, rfl, HB1.out⟩) ?_; intro hF))
      all_goals exact hF.elim
end
end Go.Proofs.YtjgbflclhkeibaaGreat
