/-
  The document's examples of layer 32: murmurlaw32.alive says true.
-/
import Derived.Test.YtkdjfoehpioghaaLookW
import Derived.Test.YtkdjfoehpioghaaCheckW
import Derived.Test.YtkdjfoehpioghaaTell
import Derived.Test.YtkdjfoehpioghaaForgot
namespace Go.Proofs.Ytkdjfoehpioghaa
open Go.Shelf Go.RowKit Go.Lib Go.Sort
set_option linter.unusedVariables false
set_option linter.unusedSimpArgs false
/-- a view of no node that runs -/
def WV.plain (has fence : List Int) : WV := ⟨List.replicate 8 WN.zero, has, fence, 0⟩
def vA : WV := WV.plain [0, 0, 0, 0, 0, 0, 0, 0] [0, 0, 3, 0, 0, 0, 0, 0]
def vB : WV := WV.plain [0, 0, 0, 0, 0, 0, 0, 0] [0, 0, 5, 0, 0, 0, 0, 0]
def vC : WV := WV.plain [0, 0, 1, 0, 0, 0, 0, 0] [0, 0, 3, 0, 0, 0, 0, 0]
theorem plain_sets (W : World) (h f : List Int) : SetsIn W (WV.plain h f) := fun n hn => by
  obtain rfl := List.eq_of_mem_replicate hn
  exact ⟨SlAt.nil _ _, by decide⟩
theorem plain_rule1 (h f h' f' : List Int) : rule1 (WV.plain h f) (WV.plain h' f') = fun _ _ => false := by
  funext r i
  unfold rule1
  have hz : ∀ n ∈ (List.replicate 8 WN.zero), n.runs = false := fun n hn => by rw [List.eq_of_mem_replicate hn]; rfl
  by_cases hi : i < 8
  · have ha : i < (WV.plain h f).nodes.length := hi
    have hb : i < (WV.plain h' f').nodes.length := hi
    rw [forgotB_eq ha hb, fellB_eq ha hb]
    have h1 : ((WV.plain h f).nodes[i]'ha).runs = false := hz _ (List.getElem_mem _)
    rw [h1]
    split <;> rfl
  · have h1 : (WV.plain h f).nodes[i]? = none := List.getElem?_eq_none (by show (List.replicate 8 WN.zero).length ≤ i; rw [List.length_replicate]; omega)
    unfold forgotB fellB
    rw [h1]
    split <;> rfl
theorem plain_check (h f h' f' : List Int) (l : List Dot) (hl : overL [(3, 0), (4, 1)] (rule2 (WV.plain h f) (WV.plain h' f')) 8 = l) : checkL (WV.plain h f) (WV.plain h' f') = l := by
  unfold checkL
  rw [plain_rule1, hl]
  have h1 : overL [(1, 0), (2, 1)] (fun _ _ => false) 8 = [] := rfl
  have h3 : overL [(5, 0)] (rule3 (WV.plain h' f')) 1 = [] := rfl
  rw [h1, h3, List.nil_append, List.append_nil]
theorem check_ab : checkL vA vB = [⟨3, 2⟩] := plain_check _ _ _ _ _ (by decide)
theorem check_ac : checkL vA vC = [⟨4, 2⟩] := plain_check _ _ _ _ _ (by decide)
theorem check_aa : checkL vA vA = [] := plain_check _ _ _ _ _ (by decide)
theorem plain_ok {h f : List Int} (hh : h.length = 8) (hf : f.length = 8) : (WV.plain h f).Ok := ⟨rfl, hh, hf⟩
theorem fences_small {h f : List Int} (hf : ∀ x ∈ f, R64 x) : FencesOk (WV.plain h f) := hf
theorem cellsA : (Try.zeroCells43).setIfInBounds 98 (.int .i64 3) = vA.cells.toArray := by kernel_rfl
theorem cellsB : (Try.zeroCells43).setIfInBounds 98 (.int .i64 5) = vB.cells.toArray := by kernel_rfl
theorem cellsC : ((Try.zeroCells43).setIfInBounds 98 (.int .i64 3)).setIfInBounds 90 (.int .i64 1) = vC.cells.toArray := by kernel_rfl
theorem fencesA : FencesOk vA := fun x hx => by
  have : x ∈ ([0, 0, 3, 0, 0, 0, 0, 0] : List Int) := hx
  simp only [List.mem_cons, List.not_mem_nil, or_false] at this
  unfold R64; omega
theorem fencesB : FencesOk vB := fun x hx => by
  have : x ∈ ([0, 0, 5, 0, 0, 0, 0, 0] : List Int) := hx
  simp only [List.mem_cons, List.not_mem_nil, or_false] at this
  unfold R64; omega
theorem fencesC : FencesOk vC := fencesA
theorem three_blocks (w : World) (o0 o1 o2 : Obj) : (((w.alloc o0).alloc o1).alloc o2).heap[w.heap.size]? = some o0 ∧ (((w.alloc o0).alloc o1).alloc o2).heap[w.heap.size + 1]? = some o1 ∧ (((w.alloc o0).alloc o1).alloc o2).heap[w.heap.size + 2]? = some o2 ∧ Below w.heap.size w (((w.alloc o0).alloc o1).alloc o2) ∧ (((w.alloc o0).alloc o1).alloc o2).heap.size = w.heap.size + 3 := by
  obtain ⟨h0, h1, hb, hs⟩ := alloc2 w o0 o1
  refine ⟨?_, ?_, ?_, hb.alloc (by omega) _, by rw [World.size_alloc, hs]⟩
  · rw [Below.heap_alloc _ _ _ (by omega)]; exact h0
  · rw [Below.heap_alloc _ _ _ (by omega)]; exact h1
  · rw [← hs, heap_alloc_new]
/-- a list of one break in memory -/
def OneAt (d : Dot) (v : Value) (w : World) : Prop := ∃ o c, v = .slice o 1 c ∧ SlAt Dot.cells w (.slice o 1 c) [d]
theorem oneAt_lasts (d : Dot) : Lasts (OneAt d) := fun v w w' hb h => by
  obtain ⟨o, c, rfl, hs⟩ := h
  exact ⟨o, c, rfl, hs.below Dot.cells_len (by decide) hb (Nat.le_refl _)⟩
theorem check_one {a b : WV} {d : Dot} (ha : a.Ok) (hb : b.Ok) (fa : FencesOk a) (fb : FencesOk b) (sa : ∀ W, SetsIn W a) (sb : ∀ W, SetsIn W b) (hc : checkL a b = [d]) (w : World) :
    Calls Try.prog 8 #[.agg a.cells.toArray, .agg b.cells.toArray] w fun e w' => ∃ v, e = .returned v ∧ OneAt d v w' ∧ Below w.heap.size w w' := by
  refine (check_any a b ha hb fa fb w (sa w) (sb w)).mono ?_
  rintro e w' ⟨o, n, c, rfl, ho, hbl⟩
  rw [hc] at ho
  obtain ⟨o', c', hv⟩ := slAt_slice ho.at
  rw [hv] at ho
  exact ⟨_, rfl, ⟨o', c', hv, ho.at⟩, hbl⟩
set_option maxRecDepth 100000 in
set_option maxHeartbeats 8000000 in
theorem alive32_any (w : World) : Calls Try.prog 4 #[] w fun e w' => e = .returned (.bool true) ∧ Below w.heap.size w w' := by
  have hzs : (Try.zeroCells43).size = 105 := by kernel_rfl
  go_enter Try.func4, Try.ntmps4
  go_wp2_with fail
  rw [cellsA, cellsB]
  have hC := cellsC
  rw [cellsA] at hC
  rw [hC]
  clear hC hzs
  obtain ⟨rA, rB, rC, hb3, hs3⟩ := three_blocks w (.cells vA.cells.toArray 43) (.cells vB.cells.toArray 43) (.cells vC.cells.toArray 43)
  have okA : vA.Ok := plain_ok rfl rfl
  have okB : vB.Ok := plain_ok rfl rfl
  have okC : vC.Ok := plain_ok rfl rfl
  have cAB := fun W => check_one okA okB fencesA fencesB (fun W => plain_sets W _ _) (fun W => plain_sets W _ _) check_ab W
  have cAC := fun W => check_one okA okC fencesA fencesC (fun W => plain_sets W _ _) (fun W => plain_sets W _ _) check_ac W
  have cAA := fun W => check_any vA vA okA okA fencesA fencesA W (plain_sets W _ _) (plain_sets W _ _)
  rw [check_aa] at cAA
  generalize ((w.alloc (.cells vA.cells.toArray 43)).alloc (.cells vB.cells.toArray 43)).alloc (.cells vC.cells.toArray 43) = w3 at *
  have lA := fun (W : World) (h : Below w3.heap.size w3 W) => view_load (W := W) okA ((h.block _ (by omega)).trans rA)
  have lB := fun (W : World) (h : Below w3.heap.size w3 W) => view_load (W := W) okB ((h.block _ (by omega)).trans rB)
  have lC := fun (W : World) (h : Below w3.heap.size w3 W) => view_load (W := W) okC ((h.block _ (by omega)).trans rC)
  clear rA rB rC okA okB okC
  generalize vA.cells.toArray = cA at *
  generalize vB.cells.toArray = cB at *
  generalize vC.cells.toArray = cC at *
  refine tell_region (by kernel_rfl) [(14, fun v _ => v = .agg cA), (15, fun v _ => v = .agg cB), (16, OneAt ⟨3, 2⟩), (17, fun v _ => v = .agg cA), (18, fun v _ => v = .agg cC), (19, OneAt ⟨4, 2⟩), (4, OneAt ⟨3, 2⟩), (5, OneAt ⟨4, 2⟩)] rfl (by show ([14, 15, 16, 17, 18, 19, 4, 5] : List Nat).Nodup; decide) (by show ∀ d ∈ ([14, 15, 16, 17, 18, 19, 4, 5] : List Nat), d < 54; decide) (by kernel_rfl) ?hmono ?hstep ?hend
  case hmono =>
    intro p hp
    simp only [List.mem_cons, List.not_mem_nil, or_false] at hp
    rcases hp with rfl | rfl | rfl | rfl | rfl | rfl | rfl | rfl
    · exact lasts_pure _
    · exact lasts_pure _
    · exact oneAt_lasts _
    · exact lasts_pure _
    · exact lasts_pure _
    · exact oneAt_lasts _
    · exact oneAt_lasts _
    · exact oneAt_lasts _
  case hstep =>
    intro i hi a w' hag hbel hn
    have s1 : a.eval (.tmp 1) = .pointer (some ⟨w.heap.size, 0, none⟩) := (hag.out 1 (by simp)).trans rfl
    have s2 : a.eval (.tmp 2) = .pointer (some ⟨w.heap.size + 1, 0, none⟩) := (hag.out 2 (by simp)).trans rfl
    have s3 : a.eval (.tmp 3) = .pointer (some ⟨w.heap.size + 2, 0, none⟩) := (hag.out 3 (by simp)).trans rfl
    have ef : a.eval (.func 8) = .func (.func 8) #[] #[] := rfl
    match i, hi with
    | 0, _ => exact leaves_loadAgg rfl rfl rfl 43 (.tmp 1) rfl 105 (by kernel_rfl) (by kernel_rfl) _ s1 cA (lA _ hbel) rfl
    | 1, _ => exact leaves_loadAgg rfl rfl rfl 43 (.tmp 2) rfl 105 (by kernel_rfl) (by kernel_rfl) _ s2 cB (lB _ hbel) rfl
    | 2, _ =>
      have n0 : a.eval (.tmp 14) = .agg cA := hn 0 (by simp) ⟨_, rfl, ⟨0, .data⟩, by simp, rfl, rfl⟩
      have n1 : a.eval (.tmp 15) = .agg cB := hn 1 (by simp) ⟨_, rfl, ⟨1, .data⟩, by simp, rfl, rfl⟩
      exact leaves_call (f := 8) (args := #[.agg cA, .agg cB]) rfl rfl rfl (by generalize a.eval = ρ at ef n0 n1 ⊢; go_simp) (cAB w') (fun e w2 ⟨v, h1, h2, h3⟩ => ⟨v, h1, h3, h2⟩)
    | 3, _ => exact leaves_loadAgg rfl rfl rfl 43 (.tmp 1) rfl 105 (by kernel_rfl) (by kernel_rfl) _ s1 cA (lA _ hbel) rfl
    | 4, _ => exact leaves_loadAgg rfl rfl rfl 43 (.tmp 3) rfl 105 (by kernel_rfl) (by kernel_rfl) _ s3 cC (lC _ hbel) rfl
    | 5, _ =>
      have n0 : a.eval (.tmp 17) = .agg cA := hn 3 (by simp) ⟨_, rfl, ⟨3, .data⟩, by simp, rfl, rfl⟩
      have n1 : a.eval (.tmp 18) = .agg cC := hn 4 (by simp) ⟨_, rfl, ⟨4, .data⟩, by simp, rfl, rfl⟩
      exact leaves_call (f := 8) (args := #[.agg cA, .agg cC]) rfl rfl rfl (by generalize a.eval = ρ at ef n0 n1 ⊢; go_simp) (cAC w') (fun e w2 ⟨v, h1, h2, h3⟩ => ⟨v, h1, h3, h2⟩)
    | 6, _ =>
      obtain ⟨o, c, h1, h2⟩ : OneAt ⟨3, 2⟩ (a.eval (.tmp 16)) w' := hn 2 (by simp) ⟨_, rfl, ⟨2, .data⟩, by simp, rfl, rfl⟩
      exact leaves_val rfl rfl rfl (v := .slice o 1 c) (by generalize a.eval = ρ at h1 ⊢; go_simp) (Below.refl _ _) ⟨o, c, rfl, h2⟩
    | 7, _ =>
      obtain ⟨o, c, h1, h2⟩ : OneAt ⟨4, 2⟩ (a.eval (.tmp 19)) w' := hn 5 (by simp) ⟨_, rfl, ⟨5, .data⟩, by simp, rfl, rfl⟩
      exact leaves_val rfl rfl rfl (v := .slice o 1 c) (by generalize a.eval = ρ at h1 ⊢; go_simp) (Below.refl _ _) ⟨o, c, rfl, h2⟩
  case hend =>
    intro a w' hag hbel hall
    have v0 : a.eval (.tmp 14) = .agg cA := hall 0 (by simp)
    have v1 : a.eval (.tmp 15) = .agg cB := hall 1 (by simp)
    obtain ⟨o2, c2, v2, h2⟩ : OneAt ⟨3, 2⟩ (a.eval (.tmp 4)) w' := hall 6 (by simp)
    obtain ⟨o5, c5, v5, h5⟩ : OneAt ⟨4, 2⟩ (a.eval (.tmp 5)) w' := hall 7 (by simp)
    have v3 : a.eval (.tmp 17) = .agg cA := hall 3 (by simp)
    have v4 : a.eval (.tmp 18) = .agg cC := hall 4 (by simp)
    have hfin := Ag.final _ (by show ∀ d ∈ ([14, 15, 16, 17, 18, 19, 4, 5] : List Nat), d < 54; decide) hag
    simp only [List.map, List.foldl, v0, v1, v2, v3, v4, v5] at hfin
    generalize a.eval (.tmp 16) = y16 at hfin
    generalize a.eval (.tmp 19) = y19 at hfin
    subst hfin
    have lA' := lA _ hbel
    have hbw := hb3.trans (hbel.mono hb3.size)
    clear v0 v1 v2 v3 v4 v5 hall hag cAB cAC lB lC hbel hb3 lA
    obtain ⟨b, off, rfl⟩ := h2.plain Dot.cells_len (by decide) (by simp)
    obtain ⟨b5, off5, rfl⟩ := h5.plain Dot.cells_len (by decide) (by simp)
    have k0 := h2.cell Dot.cells_len (i := 0) (c := 0) (by decide) (by decide)
    have k1 := h2.cell Dot.cells_len (i := 0) (c := 1) (by decide) (by decide)
    have j0 := h5.cell Dot.cells_len (i := 0) (c := 0) (by decide) (by decide)
    have j1 := h5.cell Dot.cells_len (i := 0) (c := 1) (by decide) (by decide)
    simp only [Nat.zero_mul, Nat.zero_add, Nat.add_zero, List.getElem_cons_zero, Dot.cells, List.getElem?_cons_zero, List.getElem?_cons_succ] at k0 k1 j0 j1
    clear h2 h5
    simp only [Act.put, List.setIfInBounds_toArray, List.set_cons_succ, List.set_cons_zero]
    have LA := Lib.hid lA'
    have HBW := Lib.hid hbw
    clear lA' hbw
    go_wp2_with fail
    refine oper_loadAgg 43 (.tmp 1) rfl 105 (fun _ => by kernel_rfl) (fun _ => by kernel_rfl) ⟨w.heap.size, 0, none⟩ rfl cA LA.out ?_
    go_wp2_with fail
    refine oper_loadAgg 43 (.tmp 1) rfl 105 (fun _ => by kernel_rfl) (fun _ => by kernel_rfl) ⟨w.heap.size, 0, none⟩ rfl cA LA.out ?_
    go_wp2_with fail
    refine (cAA _).mono ?_
    rintro _ w4 ⟨o4, n4, c4, rfl, hown4, hb4⟩
    obtain ⟨q4, r4, hv4⟩ := slAt_slice hown4.at
    simp only [List.length_nil] at hv4
    rw [hv4]
    have HB4 := Lib.hid (HBW.out.trans (hb4.mono HBW.out.size))
    clear hown4 hb4 hv4 cAA LA HBW k0 k1 j0 j1
    go_wp2_with fail
    refine (lookNil_any _).mono ?_
    rintro _ w5 ⟨rfl, hb5⟩
    have HB5 := Lib.hid (HB4.out.trans (hb5.mono HB4.out.size))
    have hfd : ∀ W, (Instr.field 43 (.agg WV.zero.cells.toArray) 3).run Try.prog W = .ok (.int .i64 0) W := fun W => by kernel_rfl
    clear hb5 HB4
    generalize WV.zero.cells.toArray = cZ at *
    go_wp2_with fail
    go_ret
    exact ⟨rfl, HB5.out⟩
end Go.Proofs.Ytkdjfoehpioghaa
