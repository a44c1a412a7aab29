/-
  The table's methods that go over all words: walk, All, Live, Others; Of; New.
  The detector as it lies in memory; hear walked.
-/
import Derived.Test.YtejihgfigclppaaGreatMMemb
import Derived.Test.YtejihgfigclppaaGreatMDotP
import Derived.Laws.EntriesVeiled
import Derived.Test.YtejihgfigclppaaGreatMSwimP
import Derived.Deep.DeepCutAuto
namespace Go.Proofs.YtejihgfigclppaaGreat
open Go.Shelf Go.RowKit Go.Lib Go.Sort
set_option linter.unusedVariables false
set_option linter.unusedSimpArgs false
def knowns (t : Tab) : Array Value := #[knB t 0, knB t 1, knB t 2, knB t 3, knB t 4, knB t 5, knB t 6, knB t 7]
theorem TabAt.loadKnown {W : World} {b : Nat} {self : Int} {t : Tab} (h : TabAt W b self t) : Sem.run Tryz.prog (loadCellsFrom ⟨b, 1, none⟩ 0 8 #[]) W = .ok (knowns t) W :=
 run_loadCellsFrom_list Tryz.prog W ⟨b, 1, none⟩ (knowns t).toList 8 rfl (fun i v hv => by
  rw [Addr.add_lit]
  have hi : i < 8 := (List.getElem?_eq_some_iff.1 hv).1
  rw [h.cell (1 + i), tcells_known self t hi, ← hv]
  rcases eight hi with rfl | rfl | rfl | rfl | rfl | rfl | rfl | rfl <;> rfl)
set_option maxRecDepth 100000 in
theorem known_index (t : Tab) (i : Nat) (hi : i < 8) (w : World) : (Instr.index 131 (.agg (knowns t)) (.int .i64 i)).run Tryz.prog w = .ok (.bool (t i).isSome) w := by
 rcases eight hi with rfl | rfl | rfl | rfl | rfl | rfl | rfl | rfl <;> kernel_rfl
theorem TabAt.word {W : World} {b : Nat} {self : Int} {t : Tab} (h : TabAt W b self t) {k : Nat} (hk : k < 8) {wd : Wd} (ht : t k = some wd) :
  W.cell? ⟨b, 9 + k * 3, none⟩ = some (.int .i64 k) ∧ W.cell? ⟨b, 9 + k * 3 + 1, none⟩ = some (.int .i64 wd.st) ∧ W.cell? ⟨b, 9 + k * 3 + 2, none⟩ = some (.int .i64 wd.inc) := by
 refine ⟨(h.cell _).trans ((tcells_node self t hk).trans ?_), (h.cell _).trans ((tcells_st self t hk).trans ?_), (h.cell _).trans ((tcells_inc self t hk).trans ?_)⟩
 ·unfold wN; rw [ht]; rfl
 ·unfold wS; rw [ht]; rfl
 ·unfold wI; rw [ht]; rfl
set_option maxHeartbeats 4000000 in
theorem memWalk_any (K : Nat) (free : Array Value) (eg : ∀ args w, (callFunc K args).run Tryz.prog w = .ok (.enter K args) w) (b : Nat) (self : Int) (t : Tab) (Inv : Nat → World → Prop)
  (hs : ∀ k, k < 8 → ∀ wd, t k = some wd → ∀ W, Inv k W → Calls Tryz.prog K (#[.agg #[.int .i64 k, .int .i64 wd.st, .int .i64 wd.inc]] ++ free) W fun e w' => e = .returned (.tuple #[]) ∧ Inv (k + 1) w')
  (hn : ∀ k, k < 8 → t k = none → ∀ W, Inv k W → Inv (k + 1) W) (hg : ∀ k W, Inv k W → TabAt W b self t) (w : World) (h0 : Inv 0 w) :
  Calls Tryz.prog 88 #[.pointer (some ⟨b, 0, none⟩), .func (.func K) #[] free] w fun e w' => e = .returned (.tuple #[]) ∧ Inv 8 w' := by
 have hld := (hg 0 w h0).loadKnown
 have hix := fun i hi W => known_index t i hi W
 generalize knowns t = kn at *
 have HS := Lib.hid hs
 have HN := Lib.hid hn
 have HG := Lib.hid hg
 have H0 := Lib.hid h0
 have HIX := Lib.hid hix
 clear hs hn hg h0 hix
 go_enter Tryz.func88, Tryz.ntmps88
 go_wp2_with (refine wpList_loadAgg _ rfl 131 _ rfl 8 (by kernel_rfl) (by kernel_rfl) ⟨b, 1, none⟩ rfl kn hld ?_)
 clear hld
 go_loopg [12] 8 (fun gk s12 wr => ∃ (n : Nat), s12 = .int .i64 n ∧ n ≤ 8 ∧ 8 - n ≤ gk ∧ Hid (Inv n wr))
 case atStart => exact ⟨0, rfl, Nat.zero_le _, Nat.le_refl _, H0.out⟩
 case round =>
  obtain ⟨n, rfl, hi, hgk, HI⟩ := hrel
  by_cases hlt : n < 8
  ·have hltz : (n : Int) < 8 := by omega
   have hix := HIX.out n hlt
   cases ht : t n with
   | none =>
    have HI1 := Lib.hid (HN.out n hlt ht wr HI.out)
    rw [ht] at hix
    simp only [Option.isSome_none] at hix
    clear HI ht
    go_wp2_with fail
    go_roundg (8 - (n + 1))
    case measure => omega
    case rel => exact ⟨n + 1, by go_num, by omega, Nat.le_refl _, HI1.out⟩
   | some wd =>
    obtain ⟨k0, k1, k2⟩ := (HG.out n wr HI.out).word hlt ht
    have HST := Lib.hid (HS.out n hlt wd ht wr HI.out)
    rw [ht] at hix
    simp only [Option.isSome_some] at hix
    clear HI ht
    go_wp2_with fail
    refine HST.out.mono ?_
    rintro e w1 ⟨rfl, hI⟩
    have HI1 := Lib.hid hI
    clear hI HST hix k0 k1 k2
    go_wp2_with fail
    go_roundg (8 - (n + 1))
    case measure => omega
    case rel => exact ⟨n + 1, by go_num, by omega, Nat.le_refl _, HI1.out⟩
  ·have hltz : ¬ (n : Int) < 8 := by omega
   obtain rfl : n = 8 := by omega
   go_wp2_with fail
   go_end0
   exact ⟨rfl, HI.out⟩
theorem infoMember : (Tryz.prog.info? 45).map (fun i => (i.zero, i.size, i.bytes)) = some (some (.agg #[.int .i64 0, .int .i64 0, .int .i64 0]), 3, 24) := by kernel_rfl
structure GatherAt {α : Type} (enc : α → List Value) (k ty el : Nat) (ob : Nat) (W0 W : World) (v : Value) (l : List α) : Prop where
 lt : ob < W0.heap.size
 obj : W.heap[ob]? = some (.cells #[v] ty)
 own : Owns enc k W0.heap.size el W v l
 grew : W0.grownBy W (some ob)
theorem gather_val {α : Type} {enc : α → List Value} {k ty el ob : Nat} {W0 W : World} {v : Value} {l : List α} (h : GatherAt enc k ty el ob W0 W v l) : ∃ o c, v = .slice o l.length c := slAt_slice h.own.at
set_option maxHeartbeats 8000000 in
theorem allFn_any (ob : Nat) (m : Mb) (W0 W : World) (v : Value) (l : List Mb) (hl : l.length ≤ 100) (h : GatherAt Mb.cells 3 40 45 ob W0 W v l) :
  Calls Tryz.prog 89 #[.agg #[.int .i64 m.node, .int .i64 m.st, .int .i64 m.inc], .pointer (some ⟨ob, 0, none⟩)] W fun e w' => e = .returned (.tuple #[]) ∧ ∃ v', GatherAt Mb.cells 3 40 45 ob W0 w' v' (l ++ [m]) := by
 obtain ⟨oh, ch, rfl⟩ := gather_val h
 have hrow := h.obj
 have hob0 := h.lt
 have hob : ob < W.heap.size := (Array.getElem?_eq_some_iff.1 hrow).1
 have hsz0 := h.grew.size
 have hb0 := (Below.refl W.heap.size W).alloc (Nat.le_refl _) (.cells #[.int .i64 m.node, .int .i64 m.st, .int .i64 m.inc] 132)
 have hown := h.own.below hb0 (Nat.le_refl _)
 have HGW := Lib.hid h.grew
 have HOWN := Lib.hid hown
 have HROW := Lib.hid hrow
 have c0 : W.cell? ⟨ob, 0, none⟩ = some (.slice oh l.length ch) := cell_of_row W ob 0 _ _ _ hrow
 have z0 : W.frozen? ⟨ob, 0, none⟩ = false := by unfold World.frozen?; rw [hrow]; simp
 clear h hb0 hown hrow
 go_enter Tryz.func89, Tryz.ntmps89
 go_wp2_with (at_builtin; refine wpList_app Mb.cells 3 Mb.cells_len (by decide) Mb.cells_one _ rfl _ _ 40 rfl W0.heap.size 45 _ 24 Tryz.underlying40 infoMember rfl _ l rfl ?h1 _ [m] rfl ?h2 ?h3 ?h4 ?h5 ?_)
 case h1 => exact HOWN.out.below ((Below.refl _ _).alloc (Nat.le_refl _) _) (Nat.le_refl _)
 case h2 =>
  have := slAt_new (enc := Mb.cells) (W.alloc (.cells #[.int .i64 m.node, .int .i64 m.st, .int .i64 m.inc] 132)) #[.int .i64 m.node, .int .i64 m.st, .int .i64 m.inc] 45 1 1 (0, 0) [m] rfl rfl (by decide)
  rw [World.size_alloc] at this
  exact this
 case h3 => simp only [List.length_singleton]; omega
 case h4 => simp only [List.length_singleton]; omega
 case h5 => simp; omega
 intro v' w' hown2 hg2 hv2
 obtain ⟨o2, c2, hvv⟩ := slAt_slice hown2.at
 subst hvv
 have hlow : ∀ x, (Value.slice oh l.length ch).ownBlock = some x → W0.heap.size ≤ x := fun x hx => (HOWN.out.lt x hx).1
 have hrow2 : w'.heap[ob]? = some (.cells #[.slice oh l.length ch] 40) := (hg2.block ob (by simp; omega) (fun e => by have := hlow ob e.symm; omega)).trans ((Below.heap_alloc _ _ _ (by simp; omega)).trans ((Below.heap_alloc _ _ _ hob).trans HROW.out))
 have k0 : w'.cell? ⟨ob, 0, none⟩ = some (.slice oh l.length ch) := cell_of_row w' ob 0 _ _ _ hrow2
 have z2 : w'.frozen? ⟨ob, 0, none⟩ = false := by unfold World.frozen?; rw [hrow2]; simp
 have HOWN2 := Lib.hid hown2
 have HGW2 := Lib.hid (gb_then (HGW.out.trans ((World.grownBy_alloc W (.cells #[.int .i64 m.node, .int .i64 m.st, .int .i64 m.inc] 132) (some ob)).trans (World.grownBy_alloc _ (.cells #[.int .i64 m.node, .int .i64 m.st, .int .i64 m.inc] 45) (some ob)))) hg2 (fun x hx => .inl (hlow x hx)))
 have HROW2 := Lib.hid hrow2
 clear hown2 hg2 hv2 hrow2 c0 z0
 generalize hlm : l ++ [m] = lm at *
 generalize lm.length = ln at *
 go_wp2_with fail
 go_end0
 have hob := heap_setCell_same w' ob 0 (.slice o2 ln c2) _ _ _ HROW2.out
 refine ⟨rfl, .slice o2 ln c2, hob0, hob, ?_, gb_then HGW2.out (gb_set w' ob 0 _) fun j hj => .inr hj⟩
 rw [hlm]
 refine HOWN2.out.keep fun b hb => ?_
 have := (HOWN2.out.lt b hb).1
 exact Below.heap_setCell w' ⟨ob, 0, none⟩ _ _ (by show b ≠ ob; omega)
set_option maxHeartbeats 8000000 in
theorem all_any (b : Nat) (self : Int) (t : Tab) (w : World) (h : TabAt w b self t) :
  Calls Tryz.prog 50 #[.pointer (some ⟨b, 0, none⟩)] w fun e w' => ∃ o c, e = .returned (.slice o (allT t).length c) ∧ Owns Mb.cells 3 w.heap.size 45 w' (.slice o (allT t).length c) (allT t) ∧ Below w.heap.size w w' := by
 have eg : ∀ args w, (callFunc 89 args).run Tryz.prog w = .ok (.enter 89 args) w := enters_of Tryz.func89 (by kernel_rfl) rfl
 have hlt := h.lt
 have hob := heap_alloc_new w (.cells #[.slice none 0 0] 40)
 have hb1 := (Below.refl w.heap.size w).alloc (Nat.le_refl _) (.cells #[.slice none 0 0] 40)
 have hwk := memWalk_any 89 #[.pointer (some ⟨w.heap.size, 0, none⟩)] eg b self t (fun k W' => ∃ v, GatherAt Mb.cells 3 40 45 w.heap.size (w.alloc (.cells #[.slice none 0 0] 40)) W' v (wordsTo t k))
  (fun k hk wd hwd W' ⟨v, hI⟩ => (allFn_any w.heap.size ⟨k, wd.st, wd.inc⟩ _ W' v (wordsTo t k) (Nat.le_trans (wordsTo_len t k) (by omega)) hI).mono fun e w2 ⟨h1, v2, h2⟩ => ⟨h1, v2, by unfold wordsTo; rw [hwd]; exact h2⟩)
  (fun k hk hno W' ⟨v, hI⟩ => ⟨v, by unfold wordsTo; rw [hno]; dsimp only; rw [List.append_nil]; exact hI⟩)
  (fun k W' ⟨v, hI⟩ => (h.keep (hb1.block b hlt)).keep (hI.grew.block b (by rw [World.size_alloc]; omega) (fun e => by have := Option.some.inj e; omega)))
  (w.alloc (.cells #[.slice none 0 0] 40)) ⟨.slice none 0 0, by rw [World.size_alloc]; omega, hob, Owns.nil _ _ _ _ _, World.grownBy.refl _ _⟩
 have HWK := Lib.hid hwk
 have HB1 := Lib.hid hb1
 clear hwk hob hb1 h eg
 go_enter Tryz.func50, Tryz.ntmps50
 go_wp2_with fail
 refine HWK.out.mono ?_
 rintro e w4 ⟨rfl, v4, hI⟩
 obtain ⟨o4, c4, rfl⟩ := gather_val hI
 have hrow := hI.obj
 have k0 : w4.cell? ⟨w.heap.size, 0, none⟩ = some (.slice o4 (wordsTo t 8).length c4) := cell_of_row w4 _ 0 _ _ _ hrow
 have z0 : w4.frozen? ⟨w.heap.size, 0, none⟩ = false := by unfold World.frozen?; rw [hrow]; simp
 have HOW := Lib.hid hI.own
 have HB4 := Lib.hid (HB1.out.grown hI.grew HB1.out.size (fun k hk => by cases hk; omega))
 clear hI hrow HWK
 go_wp2_with fail
 refine bodyPost_ret (v := .slice o4 (wordsTo t 8).length c4) (by simp [results, Tryz.results50, go_sem, cell_set, k0]) rfl ⟨o4, c4, rfl, ?_, HB4.out.setCell (p := ⟨w.heap.size, 0, none⟩) (by show w.heap.size ≤ w.heap.size; omega) _⟩
 refine (HOW.out.keep fun b hb => ?_).lower (by rw [World.size_alloc]; omega)
 have := (HOW.out.lt b hb).1
 rw [World.size_alloc] at this
 exact Below.heap_setCell w4 ⟨w.heap.size, 0, none⟩ _ _ (by show b ≠ w.heap.size; omega)
set_option maxHeartbeats 4000000 in
theorem thereW_any (m : Mb) (w : World) : Calls Tryz.prog 95 #[.agg #[.int .i64 m.node, .int .i64 m.st, .int .i64 m.inc]] w fun e w' => e = .returned (.bool (Wd.there ⟨m.st, m.inc⟩)) ∧ Grew w w' := by
 have ht : Wd.there ⟨m.st, m.inc⟩ = decide (m.st = 1 ∨ m.st = 2) := rfl
 rw [ht]
 by_cases h1 : m.st = 1
 ·have hb1 : (m.st == 1) = true := by simpa using h1
  rw [decide_eq_true (.inl h1)]
  go_enter Tryz.func95, Tryz.ntmps95
  go_wp2_with fail
  go_ret
  exact ⟨rfl, (Grew.refl _).alloc _⟩
 ·have hb1 : (m.st == 1) = false := by simpa using h1
  by_cases h2 : m.st = 2
  ·have hb2 : (m.st == 2) = true := by simpa using h2
   rw [decide_eq_true (.inr h2)]
   go_enter Tryz.func95, Tryz.ntmps95
   go_wp2_with fail
   go_ret
   exact ⟨rfl, (Grew.refl _).alloc _⟩
  ·have hb2 : (m.st == 2) = false := by simpa using h2
   rw [decide_eq_false (by omega)]
   go_enter Tryz.func95, Tryz.ntmps95
   go_wp2_with fail
   go_ret
   exact ⟨rfl, (Grew.refl _).alloc _⟩
set_option maxHeartbeats 8000000 in
theorem liveFn_any (ob : Nat) (m : Mb) (W0 W : World) (v : Value) (l : List Int) (hl : l.length ≤ 100) (h : GatherAt icells 1 50 3 ob W0 W v l) :
  Calls Tryz.prog 94 #[.agg #[.int .i64 m.node, .int .i64 m.st, .int .i64 m.inc], .pointer (some ⟨ob, 0, none⟩)] W fun e w' => e = .returned (.tuple #[]) ∧ ∃ v', GatherAt icells 1 50 3 ob W0 w' v' (l ++ if Wd.there ⟨m.st, m.inc⟩ = true then [m.node] else []) := by
 obtain ⟨oh, ch, rfl⟩ := gather_val h
 have hrow := h.obj
 have hob0 := h.lt
 have hob : ob < W.heap.size := (Array.getElem?_eq_some_iff.1 hrow).1
 have hsz0 := h.grew.size
 have hth := fun W => thereW_any m W
 obtain ⟨W1, hW1⟩ : ∃ W1, W.alloc (.cells #[.int .i64 m.node, .int .i64 m.st, .int .i64 m.inc] 132) = W1 := ⟨_, rfl⟩
 have hb0 : Below W.heap.size W W1 := by rw [← hW1]; exact (Below.refl W.heap.size W).alloc (Nat.le_refl _) _
 have hg0 : W.grownBy W1 (some ob) := by rw [← hW1]; exact World.grownBy_alloc W _ (some ob)
 have hr1 : W1.heap[W.heap.size]? = some (.cells #[.int .i64 m.node, .int .i64 m.st, .int .i64 m.inc] 132) := by rw [← hW1]; exact heap_alloc_new W _
 have q0 : W1.cell? ⟨W.heap.size, 0, none⟩ = some (.int .i64 m.node) := cell_of_row W1 _ 0 _ _ _ hr1
 have q1 : W1.cell? ⟨W.heap.size, 1, none⟩ = some (.int .i64 m.st) := cell_of_row W1 _ 1 _ _ _ hr1
 have q2 : W1.cell? ⟨W.heap.size, 2, none⟩ = some (.int .i64 m.inc) := cell_of_row W1 _ 2 _ _ _ hr1
 have hs1 : W1.heap.size = W.heap.size + 1 := by rw [← hW1]; exact World.size_alloc _ _
 have HW1 := Lib.hid hW1
 have HH := Lib.hid h
 have HTH := Lib.hid hth
 have HB0 := Lib.hid hb0
 have HG0 := Lib.hid hg0
 clear hth h hb0 hg0 hr1 hW1
 cases hthb : Wd.there ⟨m.st, m.inc⟩ with
 | false =>
  simp only [hthb] at HTH
  go_enter Tryz.func94, Tryz.ntmps94
  go_wp2_with fail
  rw [HW1.out]
  go_wp2_with fail
  refine (HTH.out _).mono ?_
  rintro e w3 ⟨rfl, hg3⟩
  have hb3 := hg3.below
  go_wp2_with fail
  go_end0
  have hbt := HB0.out.trans (hb3.mono (by omega))
  refine ⟨rfl, .slice oh l.length ch, hob0, (hbt.block ob hob).trans hrow, ?_, gb_below HH.out.grew hbt (by omega)⟩
  exact HH.out.own.below hbt (Nat.le_refl _)
 | true =>
  simp only [hthb] at HTH
  go_enter Tryz.func94, Tryz.ntmps94
  go_wp2_with fail
  rw [HW1.out]
  go_wp2_with fail
  refine (HTH.out _).mono ?_
  rintro e w3 ⟨rfl, hg3⟩
  have hb3 := hg3.below
  have hbt := HB0.out.trans (hb3.mono (by omega))
  have hrow3 := (hbt.block ob hob).trans hrow
  have hown3 := HH.out.own.below hbt (Nat.le_refl _)
  have c0 : w3.cell? ⟨ob, 0, none⟩ = some (.slice oh l.length ch) := cell_of_row w3 ob 0 _ _ _ hrow3
  have r0 := (hb3.cell (p := ⟨W.heap.size, 0, none⟩) (by show W.heap.size < _; omega)).trans q0
  have HGW := Lib.hid (gb_below HH.out.grew hbt (by omega))
  have HOWN := Lib.hid hown3
  have HROW := Lib.hid hrow3
  have hs3 : W.heap.size + 1 ≤ w3.heap.size := by have := hb3.size; omega
  clear hbt hrow3 hown3 hb3 hg3 q0 q1 q2 HTH HH HB0 HG0
  go_wp2_with (at_builtin; refine wpList_app icells 1 icells_len (by decide) icells_one _ rfl _ _ 50 rfl W0.heap.size 3 _ 8 Tryz.underlying50 infoInt rfl _ l rfl ?h1 _ [m.node] rfl ?h2 ?h3 ?h4 ?h5 ?_)
  case h1 => exact HOWN.out.below ((Below.refl _ _).alloc (Nat.le_refl _) _) (Nat.le_refl _)
  case h2 => exact slAt_new (enc := icells) w3 #[.int .i64 m.node] 3 1 1 (0, 0) [m.node] rfl rfl (by decide)
  case h3 => simp only [List.length_singleton]; omega
  case h4 => simp only [List.length_singleton]; omega
  case h5 => simp; omega
  intro v' w' hown2 hg2 hv2
  obtain ⟨o2, c2, hvv⟩ := slAt_slice hown2.at
  subst hvv
  have hlow : ∀ x, (Value.slice oh l.length ch).ownBlock = some x → W0.heap.size ≤ x := fun x hx => (HOWN.out.lt x hx).1
  have hrow2 : w'.heap[ob]? = some (.cells #[.slice oh l.length ch] 50) := (hg2.block ob (by simp; omega) (fun e => by have := hlow ob e.symm; omega)).trans ((Below.heap_alloc _ _ _ (by omega)).trans HROW.out)
  have k0 : w'.cell? ⟨ob, 0, none⟩ = some (.slice oh l.length ch) := cell_of_row w' ob 0 _ _ _ hrow2
  have z2 : w'.frozen? ⟨ob, 0, none⟩ = false := by unfold World.frozen?; rw [hrow2]; simp
  have HOWN2 := Lib.hid hown2
  have HGW2 := Lib.hid (gb_then (HGW.out.trans (World.grownBy_alloc w3 (.cells #[.int .i64 m.node] 3) (some ob))) hg2 (fun x hx => .inl (hlow x hx)))
  have HROW2 := Lib.hid hrow2
  clear hown2 hg2 hv2 hrow2 c0
  generalize hlm : l ++ [m.node] = lm at *
  generalize lm.length = ln at *
  go_wp2_with fail
  go_end0
  have hob := heap_setCell_same w' ob 0 (.slice o2 ln c2) _ _ _ HROW2.out
  refine ⟨rfl, .slice o2 ln c2, hob0, hob, ?_, gb_then HGW2.out (gb_set w' ob 0 _) fun j hj => .inr hj⟩
  refine HOWN2.out.keep fun b hb => ?_
  have := (HOWN2.out.lt b hb).1
  exact Below.heap_setCell w' ⟨ob, 0, none⟩ _ _ (by show b ≠ ob; omega)
set_option maxHeartbeats 8000000 in
theorem live_any (b : Nat) (self : Int) (t : Tab) (w : World) (h : TabAt w b self t) :
  Calls Tryz.prog 59 #[.pointer (some ⟨b, 0, none⟩)] w fun e w' => ∃ o c, e = .returned (.slice o (liveT t).length c) ∧ Owns icells 1 w.heap.size 3 w' (.slice o (liveT t).length c) (liveT t) ∧ Below w.heap.size w w' := by
 have eg : ∀ args w, (callFunc 94 args).run Tryz.prog w = .ok (.enter 94 args) w := enters_of Tryz.func94 (by kernel_rfl) rfl
 have hlt := h.lt
 have hob := heap_alloc_new w (.cells #[.slice none 0 0] 50)
 have hb1 := (Below.refl w.heap.size w).alloc (Nat.le_refl _) (.cells #[.slice none 0 0] 50)
 have hwk := memWalk_any 94 #[.pointer (some ⟨w.heap.size, 0, none⟩)] eg b self t (fun k W' => ∃ v, GatherAt icells 1 50 3 w.heap.size (w.alloc (.cells #[.slice none 0 0] 50)) W' v (liveTo t k))
  (fun k hk wd hwd W' ⟨v, hI⟩ => (liveFn_any w.heap.size ⟨k, wd.st, wd.inc⟩ _ W' v (liveTo t k) (Nat.le_trans (liveTo_len t k) (by omega)) hI).mono fun e w2 ⟨h1, v2, h2⟩ => ⟨h1, v2, by unfold liveTo; rw [hwd]; exact h2⟩)
  (fun k hk hno W' ⟨v, hI⟩ => ⟨v, by unfold liveTo; rw [hno]; dsimp only; rw [List.append_nil]; exact hI⟩)
  (fun k W' ⟨v, hI⟩ => (h.keep (hb1.block b hlt)).keep (hI.grew.block b (by rw [World.size_alloc]; omega) (fun e => by have := Option.some.inj e; omega)))
  (w.alloc (.cells #[.slice none 0 0] 50)) ⟨.slice none 0 0, by rw [World.size_alloc]; omega, hob, Owns.nil _ _ _ _ _, World.grownBy.refl _ _⟩
 have HWK := Lib.hid hwk
 have HB1 := Lib.hid hb1
 clear hwk hob hb1 h eg
 go_enter Tryz.func59, Tryz.ntmps59
 go_wp2_with fail
 refine HWK.out.mono ?_
 rintro e w4 ⟨rfl, v4, hI⟩
 obtain ⟨o4, c4, rfl⟩ := gather_val hI
 have hrow := hI.obj
 have k0 : w4.cell? ⟨w.heap.size, 0, none⟩ = some (.slice o4 (liveTo t 8).length c4) := cell_of_row w4 _ 0 _ _ _ hrow
 have z0 : w4.frozen? ⟨w.heap.size, 0, none⟩ = false := by unfold World.frozen?; rw [hrow]; simp
 have HOW := Lib.hid hI.own
 have HB4 := Lib.hid (HB1.out.grown hI.grew HB1.out.size (fun k hk => by cases hk; omega))
 clear hI hrow HWK
 go_wp2_with fail
 refine bodyPost_ret (v := .slice o4 (liveTo t 8).length c4) (by simp [results, Tryz.results59, go_sem, cell_set, k0]) rfl ⟨o4, c4, rfl, ?_, HB4.out.setCell (p := ⟨w.heap.size, 0, none⟩) (by show w.heap.size ≤ w.heap.size; omega) _⟩
 refine (HOW.out.keep fun b hb => ?_).lower (by rw [World.size_alloc]; omega)
 have := (HOW.out.lt b hb).1
 rw [World.size_alloc] at this
 exact Below.heap_setCell w4 ⟨w.heap.size, 0, none⟩ _ _ (by show b ≠ w.heap.size; omega)
set_option maxHeartbeats 8000000 in
theorem others_any (b : Nat) (self : Int) (t : Tab) (w : World) (h : TabAt w b self t) :
  Calls Tryz.prog 51 #[.pointer (some ⟨b, 0, none⟩)] w fun e w' => ∃ o c, e = .returned (.slice o (othersT self t).length c) ∧ Owns icells 1 w.heap.size 3 w' (.slice o (othersT self t).length c) (othersT self t) ∧ Below w.heap.size w w' := by
 have hlt := h.lt
 have hlv := live_any b self t w h
 have hll := liveT_len t
 have HT := Lib.hid h
 have HO := Lib.hid (show othersT self t = (liveT t).filter fun n => !decide (n = self) from rfl)
 generalize othersT self t = os at *
 generalize liveT t = lv at *
 have HLV := Lib.hid hlv
 clear hlv h
 go_enter Tryz.func51, Tryz.ntmps51
 go_wp2_with fail
 refine HLV.out.mono ?_
 rintro e w2 ⟨o2, c2, rfl, ho2, hb2⟩
 have HO2 := Lib.hid ho2
 have HB2 := Lib.hid hb2
 clear ho2 hb2 HLV
 go_wp2_with fail
 go_loopg [2, 8] lv.length (fun gk s2 s8 wr => ∃ (i : Nat) (oq : Option Addr) (cq : Nat), s8 = .int .i64 i ∧ s2 = .slice oq ((lv.take i).filter fun n => !decide (n = self)).length cq ∧ i ≤ lv.length ∧ lv.length - i ≤ gk ∧ Hid (Owns icells 1 w2.heap.size 3 wr (.slice oq ((lv.take i).filter fun n => !decide (n = self)).length cq) ((lv.take i).filter fun n => !decide (n = self))) ∧ Hid (Below w2.heap.size w2 wr))
 case atStart => exact ⟨0, none, 0, rfl, rfl, Nat.zero_le _, Nat.le_refl _, Owns.nil _ _ _ _ _, Below.refl _ _⟩
 case round =>
  obtain ⟨i, oq, cq, rfl, rfl, hi, hgk, HQ, HBR⟩ := hrel
  have hsz := HBR.out.size
  by_cases hlt2 : i < lv.length
  ·have hltz : (i : Int) < (lv.length : Int) := by omega
   have hsl := HO2.out.at.below icells_len (by decide) HBR.out (Nat.le_refl _)
   obtain ⟨g, off, rfl⟩ := hsl.plain icells_len (by decide) (by intro e; rw [e] at hlt2; exact absurd hlt2 (by simp))
   have c0 := hsl.cell icells_len (i := i) (c := 0) hlt2 (by decide)
   simp only [icells, Nat.mul_one, Nat.add_zero, List.getElem?_cons_zero] at c0
   have hs0 := ((HT.out.keep (HB2.out.block b hlt)).keep (HBR.out.block b (Nat.lt_of_lt_of_le hlt HB2.out.size))).cell 0
   have hself : wr.cell? ⟨b, 0, none⟩ = some (.int .i64 self) := hs0
   have htk : lv.take (i + 1) = lv.take i ++ [lv[i]] := by rw [List.take_add_one, List.getElem?_eq_getElem hlt2]; rfl
   have hfl : ((lv.take i).filter fun n => !decide (n = self)).length ≤ 8 := Nat.le_trans (List.length_filter_le _ _) (by rw [List.length_take]; omega)
   have HTK := Lib.hid htk
   clear hsl hs0 htk
   generalize lv[i] = x at *
   generalize hfq : (lv.take i).filter (fun n => !decide (n = self)) = fq at *
   have HFQ := Lib.hid hfq
   clear hfq
   by_cases hx : x = self
   ·have hnx : (lv.take (i + 1)).filter (fun n => !decide (n = self)) = fq := by rw [HTK.out, List.filter_append, HFQ.out]; simp [hx]
    have HNX := Lib.hid hnx
    clear hnx
    go_wp2_with fail
    go_roundg (lv.length - (i + 1))
    case measure => omega
    case rel => exact ⟨i + 1, oq, cq, by go_num, by rw [HNX.out], by omega, Nat.le_refl _, by rw [HNX.out]; exact HQ.out, HBR.out⟩
   ·have hnx : (lv.take (i + 1)).filter (fun n => !decide (n = self)) = fq ++ [x] := by rw [HTK.out, List.filter_append, HFQ.out]; simp [hx]
    have HNX := Lib.hid hnx
    clear hnx
    go_wp2_with (at_builtin; refine wpList_app icells 1 icells_len (by decide) icells_one _ rfl _ _ 50 rfl w2.heap.size 3 _ 8 Tryz.underlying50 infoInt rfl _ fq rfl ?h1 _ [x] rfl ?h2 ?h3 ?h4 ?h5 ?_)
    case h1 => exact HQ.out.below ((Below.refl _ _).alloc (Nat.le_refl _) _) (Nat.le_refl _)
    case h2 => exact slAt_new (enc := icells) wr #[.int .i64 x] 3 1 1 (0, 0) [x] rfl rfl (by decide)
    case h3 => simp only [List.length_singleton]; omega
    case h4 => simp only [List.length_singleton]; omega
    case h5 => rw [World.size_alloc]; omega
    intro v' w' hown2 hg2 hv2
    obtain ⟨o5, c5, hvv⟩ := slAt_slice hown2.at
    subst hvv
    have hbw := (HBR.out.alloc hsz (.cells #[.int .i64 x] 3)).grown hg2 (by rw [World.size_alloc]; omega) (fun k hk => (HQ.out.lt k hk).1)
    have HOWN2 := Lib.hid hown2
    have HBW := Lib.hid hbw
    clear hown2 hg2 hv2 hbw
    go_wp2_with fail
    go_roundg (lv.length - (i + 1))
    case measure => omega
    case rel => exact ⟨i + 1, o5, c5, by go_num, by rw [HNX.out], by omega, Nat.le_refl _, by rw [HNX.out]; exact HOWN2.out, HBW.out⟩
  ·have hltz : ¬ (i : Int) < (lv.length : Int) := by omega
   obtain rfl : i = lv.length := by omega
   have hq := HQ.out
   rw [List.take_length] at hq
   go_wp2_with fail
   go_ret
   rw [HO.out]
   exact ⟨oq, cq, rfl, hq.lower HB2.out.size, HB2.out.trans (HBR.out.mono HB2.out.size)⟩
end Go.Proofs.YtejihgfigclppaaGreat
namespace Go.Proofs.YtejihgfigclppaaGreat
open Go.Shelf Go.RowKit Go.Lib Go.Sort
set_option linter.unusedVariables false
set_option linter.unusedSimpArgs false
structure DM where
 g : Nat
 gt : Nat
 go : Nat
 gm : Nat
 pb : Option Nat
 ev : Value
 wb : Option Nat
def prV (o : Option Nat) : Value := .pointer (o.map fun b => ⟨b, 0, none⟩)
def Er.cells (e : Er) : List Value := [.int .i64 e.num, .int .i64 e.node, .int .i64 e.frm, .int .i64 e.seq]
theorem Er.cells_len (e : Er) : e.cells.length = 4 := rfl
def dcells (M : DM) (d : Det) : Array Value :=
 #[.int .i64 d.self, .int .i64 d.inc, .int .i64 d.c.tout, .int .i64 d.c.ind, .int .i64 d.c.gr, .pointer (some ⟨M.gt, 0, none⟩), .pointer (some ⟨M.go, 0, none⟩), .int .i64 d.clock, .int .i64 d.num, prV M.pb, .int .i64 d.began, .map (some M.gm), M.ev, .bool d.left]
def DM.own (M : DM) : List Nat := M.g :: M.gt :: M.go :: M.gm :: (M.pb.toList ++ (M.ev.ownBlock.toList ++ M.wb.toList))
def PrAt (W : World) : Option Nat → Option (Int × Int) → Prop
 | none, none => True
 | some b, some p => W.heap[b]? = some (.cells #[.int .i64 p.1, .int .i64 p.2] 130)
 | _, _ => False
def WaitsAt (W : World) (go : Nat) (wb : Option Nat) (s : Int) (ws : List Int) : Prop := ∃ wv, Ord2 go W s wv 139 ∧ SlAt icells W wv ws ∧ (ws ≠ [] → wv.ownBlock = wb) ∧ (∀ b, wb = some b → (W.heap[b]?).isSome = true) ∧ ∀ b, wv.ownBlock = some b → go < b
theorem WaitsAt.lt {W : World} {go : Nat} {wb : Option Nat} {s : Int} {ws : List Int} (h : WaitsAt W go wb s ws) : go < W.heap.size := by obtain ⟨v, h, _⟩ := h; exact h.lt
theorem WaitsAt.lt2 {W : World} {go : Nat} {wb : Option Nat} {s : Int} {ws : List Int} (h : WaitsAt W go wb s ws) : ∀ b, wb = some b → b < W.heap.size := by
 obtain ⟨v, _, _, _, h, _⟩ := h
 intro b hb
 have := h b hb
 rcases Nat.lt_or_ge b W.heap.size with h' | h'
 ·exact h'
 ·rw [Array.getElem?_eq_none h'] at this; cases this
theorem WaitsAt.keep {W W' : World} {go : Nat} {wb : Option Nat} {s : Int} {ws : List Int} (h : WaitsAt W go wb s ws) (h1 : W'.heap[go]? = W.heap[go]?) (h2 : ∀ b, wb = some b → W'.heap[b]? = W.heap[b]?) : WaitsAt W' go wb s ws := by
 obtain ⟨v, a, b, c, d, f⟩ := h
 refine ⟨v, a.keep h1, b.keep ?_, c, fun k hk => by rw [h2 k hk]; exact d k hk, f⟩
 by_cases e : ws = []
 ·exact .inl e
 ·exact .inr fun k hk => h2 k (by rw [← c e]; exact hk)
theorem WaitsAt.obj {W : World} {go : Nat} {wb : Option Nat} {s : Int} {ws : List Int} (h : WaitsAt W go wb s ws) : Obj 139 go (go + 1) W s ws := by
 obtain ⟨v, a, b, c, d, f⟩ := h
 exact ⟨v, a, b, Nat.lt_succ_self _, fun g hg => f g hg⟩
theorem waits_of {W : World} {go B : Nat} {s : Int} {ws : List Int} (h : Obj 139 go B W s ws) : ∃ wb, WaitsAt W go wb s ws ∧ ∀ b, wb = some b → B ≤ b := by
 obtain ⟨v, a, b, c, d⟩ := h
 by_cases e : ws = []
 ·exact ⟨none, ⟨v, a, b, fun h => absurd e h, (fun b h => nomatch h), fun g hg => Nat.lt_of_lt_of_le c (d g hg)⟩, fun b h => by cases h⟩
 ·exact ⟨v.ownBlock, ⟨v, a, b, fun _ => rfl, fun k hk => by
   have := b.lt icells_len (by decide) e k hk
   rw [Array.getElem?_eq_getElem this]; rfl, fun g hg => Nat.lt_of_lt_of_le c (d g hg)⟩, fun k hk => d k hk⟩
structure DetAt (W : World) (M : DM) (d : Det) : Prop where
 obj : W.heap[M.g]? = some (.cells (dcells M d) 95)
 tab : TabAt W M.gt d.self d.tab
 ord : WaitsAt W M.go M.wb d.s d.ws
 since : SinceAt W M.gm d.since
 prs : PrAt W M.pb d.pr
 ers : Owns Er.cells 4 0 149 W M.ev d.er
 nod : M.own.Nodup
theorem DetAt.cell {W : World} {M : DM} {d : Det} (h : DetAt W M d) (k : Nat) : W.cell? ⟨M.g, k, none⟩ = (dcells M d)[k]? := cell_of_row _ M.g k _ _ _ h.obj
theorem DetAt.frozen {W : World} {M : DM} {d : Det} (h : DetAt W M d) (k : Nat) : W.frozen? ⟨M.g, k, none⟩ = false := by simp [World.frozen?, h.obj]
theorem DetAt.lt {W : World} {M : DM} {d : Det} (h : DetAt W M d) : M.g < W.heap.size := (Array.getElem?_eq_some_iff.1 h.obj).1
theorem DM.mem_g (M : DM) : M.g ∈ M.own := by simp [DM.own]
theorem DM.mem_gt (M : DM) : M.gt ∈ M.own := by simp [DM.own]
theorem DM.mem_go (M : DM) : M.go ∈ M.own := by simp [DM.own]
theorem DM.mem_gm (M : DM) : M.gm ∈ M.own := by simp [DM.own]
theorem DM.mem_pb (M : DM) {b : Nat} (h : M.pb = some b) : b ∈ M.own := by simp [DM.own, h]
theorem DM.mem_ev (M : DM) {b : Nat} (h : M.ev.ownBlock = some b) : b ∈ M.own := by simp [DM.own, h]
theorem DM.mem_wb (M : DM) {b : Nat} (h : M.wb = some b) : b ∈ M.own := by simp [DM.own, h]
theorem nod_ne {M : DM} (h : M.own.Nodup) : M.g ≠ M.gt ∧ M.g ≠ M.go ∧ M.g ≠ M.gm ∧ M.gt ≠ M.go ∧ M.gt ≠ M.gm ∧ M.go ≠ M.gm ∧ (∀ b, M.pb = some b → b ≠ M.g ∧ b ≠ M.gt ∧ b ≠ M.go ∧ b ≠ M.gm) ∧ (∀ b, M.ev.ownBlock = some b → b ≠ M.g ∧ b ≠ M.gt ∧ b ≠ M.go ∧ b ≠ M.gm ∧ M.pb ≠ some b) ∧ (∀ b, M.wb = some b → b ≠ M.g ∧ b ≠ M.gt ∧ b ≠ M.go ∧ b ≠ M.gm ∧ M.pb ≠ some b ∧ M.ev.ownBlock ≠ some b) := by
 unfold DM.own at h
 simp only [List.nodup_cons, List.mem_cons, List.mem_append, not_or, Option.mem_toList, List.nodup_append] at h
 obtain ⟨⟨h1, h2, h3, h4, h5, h6⟩, ⟨k1, k2, k3, k4, k5⟩, ⟨l1, l2, l3, l4⟩, ⟨m1, m2, m3⟩, _, ⟨_, _, n1⟩, n2⟩ := h
 refine ⟨h1, h2, h3, k1, k2, l1, fun b hb => ⟨?_, ?_, ?_, ?_⟩, fun b hb => ⟨?_, ?_, ?_, ?_, ?_⟩, fun b hb => ⟨?_, ?_, ?_, ?_, ?_, ?_⟩⟩
 ·rintro rfl; exact h4 hb
 ·rintro rfl; exact k3 hb
 ·rintro rfl; exact l2 hb
 ·rintro rfl; exact m1 hb
 ·rintro rfl; exact h5 hb
 ·rintro rfl; exact k4 hb
 ·rintro rfl; exact l3 hb
 ·rintro rfl; exact m2 hb
 ·intro e; exact n2 b e b (.inl hb) rfl
 ·rintro rfl; exact h6 hb
 ·rintro rfl; exact k5 hb
 ·rintro rfl; exact l4 hb
 ·rintro rfl; exact m3 hb
 ·intro e; exact n2 b e b (.inr hb) rfl
 ·intro e; exact n1 b e b hb rfl
theorem PrAt.keep {W W' : World} {o : Option Nat} {p : Option (Int × Int)} (h : PrAt W o p) (hb : ∀ b, o = some b → W'.heap[b]? = W.heap[b]?) : PrAt W' o p := by
 cases o with
 | none => cases p with
  | none => trivial
  | some p => exact h
 | some b => cases p with
  | none => exact h
  | some p => exact (hb b rfl).trans h
theorem PrAt.lt {W : World} {o : Option Nat} {p : Option (Int × Int)} (h : PrAt W o p) : ∀ b, o = some b → b < W.heap.size := by
 rintro b rfl
 cases p with
 | none => exact absurd h (by intro h; exact h)
 | some p => exact (Array.getElem?_eq_some_iff.1 (show W.heap[b]? = _ from h)).1
theorem DetAt.keep {W W' : World} {M : DM} {d : Det} (h : DetAt W M d) (hb : ∀ k ∈ M.own, W'.heap[k]? = W.heap[k]?) : DetAt W' M d where
 obj := (hb _ M.mem_g).trans h.obj
 tab := h.tab.keep (hb _ M.mem_gt)
 ord := h.ord.keep (hb _ M.mem_go) fun b hx => hb b (M.mem_wb hx)
 since := h.since.kept (hb _ M.mem_gm)
 prs := h.prs.keep fun b hx => hb b (M.mem_pb hx)
 ers := h.ers.keep fun b hx => hb b (M.mem_ev hx)
 nod := h.nod
theorem DetAt.own_lt {W : World} {M : DM} {d : Det} (h : DetAt W M d) : ∀ k ∈ M.own, k < W.heap.size := by
 intro k hk
 simp only [DM.own, List.mem_cons, List.mem_append, Option.mem_toList] at hk
 rcases hk with e | e | e | e | e | e | e
 ·rw [e]; exact h.lt
 ·rw [e]; exact h.tab.lt
 ·rw [e]; exact h.ord.lt
 ·rw [e]; exact h.since.lt
 ·exact h.prs.lt k e
 ·exact (h.ers.lt k e).2
 ·exact h.ord.lt2 k e
theorem DetAt.below {W W' : World} {M : DM} {d : Det} (h : DetAt W M d) (hb : Below W.heap.size W W') : DetAt W' M d where
 obj := (hb.block _ h.lt).trans h.obj
 tab := h.tab.keep (hb.block _ h.tab.lt)
 ord := h.ord.keep (hb.block _ h.ord.lt) fun b hx => hb.block b (h.ord.lt2 b hx)
 since := h.since.kept (hb.block _ h.since.lt)
 prs := h.prs.keep fun b hx => hb.block b (h.prs.lt b hx)
 ers := h.ers.keep fun b hx => hb.block b (h.ers.lt b hx).2
 nod := h.nod
theorem DetAt.turned {W W' : World} {M : DM} {d : Det} (h : DetAt W M d) (ht : Touch (fun k => k = M.gt ∨ k = M.gm) W W') {t : Tab} {f : Int → Option Int} (h1 : TabAt W' M.gt d.self t) (h2 : SinceAt W' M.gm f) : DetAt W' M { d with tab := t, since := f } := by
 obtain ⟨n1, n2, n3, n4, n5, n6, n7, n8, n9⟩ := nod_ne h.nod
 exact {
  obj := (ht.block _ h.lt (fun e => e.elim (fun e => n1 e) (fun e => n3 e))).trans h.obj
  tab := h1
  ord := h.ord.keep (ht.block _ h.ord.lt (fun e => e.elim (fun e => n4 e.symm) (fun e => n6 e))) fun b hb => ht.block b (h.ord.lt2 b hb) (fun e => e.elim (fun e => (n9 b hb).2.1 e) (fun e => (n9 b hb).2.2.2.1 e))
  since := h2
  prs := h.prs.keep fun b hb => ht.block b (h.prs.lt b hb) (fun e => e.elim (fun e => (n7 b hb).2.1 e) (fun e => (n7 b hb).2.2.2 e))
  ers := h.ers.touch ht fun b hb => fun e => e.elim (fun e => (n8 b hb).2.1 e) (fun e => (n8 b hb).2.2.2.1 e)
  nod := h.nod }
set_option maxRecDepth 100000 in
set_option maxHeartbeats 8000000 in
theorem hear_any (M : DM) (d : Det) (m : Mb) (w : World) (h : DetAt w M d) (hc : FitsI d.clock) :
  Calls Tryz.prog 40 #[.pointer (some ⟨M.g, 0, none⟩), .agg #[.int .i64 m.node, .int .i64 m.st, .int .i64 m.inc]] w fun e w' => e = .returned (.tuple #[]) ∧ DetAt w' M (d.hear m) ∧ Touch (fun k => k = M.gt ∨ k = M.gm) w w' := by
 have hp : Tryz.prog.follows .mixedOrders = true := by kernel_rfl
 have hb1 := (Below.refl w.heap.size w).alloc (Nat.le_refl _) (.cells #[.int .i64 m.node, .int .i64 m.st, .int .i64 m.inc] 45)
 have hr1 := heap_alloc_new w (.cells #[.int .i64 m.node, .int .i64 m.st, .int .i64 m.inc] 45)
 have hD1 := h.below hb1
 obtain ⟨w1, hw1⟩ : ∃ w1, w.alloc (.cells #[.int .i64 m.node, .int .i64 m.st, .int .i64 m.inc] 45) = w1 := ⟨_, rfl⟩
 have hsz : w1.heap.size = w.heap.size + 1 := by rw [← hw1]; exact World.size_alloc _ _
 rw [hw1] at hb1 hr1 hD1
 have k5 : w1.cell? ⟨M.g, 5, none⟩ = some (.pointer (some ⟨M.gt, 0, none⟩)) := hD1.cell 5
 have q0 := cell_of_row w1 w.heap.size 0 _ _ _ hr1
 have q1 := cell_of_row w1 w.heap.size 1 _ _ _ hr1
 have q2 := cell_of_row w1 w.heap.size 2 _ _ _ hr1
 simp only [List.getElem?_toArray, List.getElem?_cons_zero, List.getElem?_cons_succ] at q0 q1 q2
 have hht := hearTab_any M.gt d.self d.tab m w1.drew hD1.tab
 have HHT := Lib.hid hht
 have HD1 := Lib.hid hD1
 have HB1 := Lib.hid hb1
 have HR1 := Lib.hid hr1
 have HW1 := Lib.hid hw1
 clear hht hD1 hb1 hr1 hw1 h
 go_enter Tryz.func40, Tryz.ntmps40
 go_wp2_with fail
 rw [HW1.out]
 go_cut [4, 5] (fun s4 s5 wx => ∃ z : Int, s4 = .bool (decide m.may && newsT d.tab m) ∧ s5 = .int .i64 z ∧ Hid (TabAt wx M.gt d.self (hearT d.tab m)) ∧ Hid (w1.grownBy wx (some M.gt)))
 case first =>
  go_region_law (first | (go_simp; refine HHT.out.mono ?_; rintro e w2 ⟨z, rfl, hz1, hz2, hT2, hg2⟩))
  all_goals
   go_wp2_with fail
   go_meet
   exact ⟨z, rfl, rfl, hT2, gb_then (gb_drew w1 _) hg2 fun j hj => .inr hj⟩
 case rest =>
  obtain ⟨z, rfl, rfl, HT2, HG2⟩ := hcut
  have hsz2 := HG2.out.size
  have hb2 : ∀ k, k < w1.heap.size → k ≠ M.gt → wc.heap[k]? = w1.heap[k]? := fun k hk hne => HG2.out.block k hk fun e => hne (Option.some.inj e)
  obtain ⟨n1, n2, n3, n4, n5, n6, n7, n8, n9⟩ := nod_ne HD1.out.nod
  have hgl := HD1.out.lt
  have hgtl := HD1.out.tab.lt
  have hgml := HD1.out.since.lt
  have hD2 := HD1.out.turned (t := hearT d.tab m) (f := d.since) (Touch.of_grown HG2.out fun j hj => .inl (Option.some.inj hj).symm) HT2.out (HD1.out.since.kept (hb2 _ hgml n5.symm))
  have c0 : wc.cell? ⟨M.g, 0, none⟩ = some (.int .i64 d.self) := hD2.cell 0
  have c7 : wc.cell? ⟨M.g, 7, none⟩ = some (.int .i64 d.clock) := hD2.cell 7
  have c11 : wc.cell? ⟨M.g, 11, none⟩ = some (.map (some M.gm)) := hD2.cell 11
  have hne1 : w.heap.size ≠ M.gt := by
   have := HD1.out.tab
   intro e
   rw [← e] at this
   have h1 := HR1.out
   rw [show w1.heap[w.heap.size]? = _ from this] at h1
   injection h1 with h2
   injection h2 with h3 h4
   exact absurd h4 (by decide)
  have p0 : wc.cell? ⟨w.heap.size, 0, none⟩ = some (.int .i64 m.node) := (World.cell?_of_block (a := ⟨w.heap.size, 0, none⟩) (hb2 w.heap.size (by omega) hne1)).trans q0
  have p1 : wc.cell? ⟨w.heap.size, 1, none⟩ = some (.int .i64 m.st) := (World.cell?_of_block (a := ⟨w.heap.size, 1, none⟩) (hb2 w.heap.size (by omega) hne1)).trans q1
  have ht2 : Touch (fun k => k = M.gt ∨ k = M.gm) w wc := (Touch.of_below HB1.out (Nat.le_refl _)).trans (Touch.of_grown (L := fun k => k = M.gt ∨ k = M.gm) HG2.out fun j hj => .inl (Option.some.inj hj).symm) fun _ _ h => h
  have HD2 := Lib.hid hD2
  have HTT := Lib.hid ht2
  clear hD2 ht2 HG2 HHT k5 q0 q1 q2 HW1 HB1 HD1 HR1 hb2 HT2
  by_cases hm : m.may
  ·have hmd := decide_eq_true hm
   have hk : ∃ k : Nat, m.node = (k : Int) ∧ k < 8 := ⟨m.node.toNat, by have := hm.1; omega, by have := hm.1; have := hm.2.1; omega⟩
   obtain ⟨k, hk, hk8⟩ := hk
   by_cases hn : newsT d.tab m = true
   ·rw [hmd, hn]
    by_cases hs : m.node = d.self
    ·have hh : d.hear m = { d with tab := hearT d.tab m, since := d.since } := by unfold Det.hear hearT; rw [if_pos ⟨hm, hn⟩, if_pos hs, if_pos ⟨hm, hn⟩]
     have HH := Lib.hid hh
     clear hh hmd hn
     go_wp2_with fail
     go_quiet (fail)
     go_wp2_with fail
     refine bodyPost_ret (v := .tuple #[]) (by simp [results, Tryz.results40, go_sem]) rfl ?_
     rw [HH.out]
     exact ⟨rfl, HD2.out.keep (fun _ _ => rfl), HTT.out.trans (Touch.of_grown (L := fun k => k = M.gt ∨ k = M.gm) (gb_drewN wc nq none) (fun j hj => by cases hj)) (fun _ _ h => h)⟩
    ·have hsb : (m.node == d.self) = false := by simpa using hs
     have hlw : w.heap.size ≠ M.gm := fun e => by
      have h1 := HD2.out.since.lt
      obtain ⟨D, ⟨es, clock, h2, _⟩, _⟩ := HD2.out.since
      have h3 := p0
      rw [e] at h3
      unfold World.cell? at h3
      rw [h2] at h3
      simp at h3
     clear hmd
     go_wp2_with fail
     go_quiet (fail)
     obtain ⟨w3, hdel, hS3, hg3⟩ := SinceAt.drop (w := wc.drewN (nq + 1)) HD2.out.since k hk8 0
     have hb3 : ∀ j, j < wc.heap.size → j ≠ M.gm → w3.heap[j]? = wc.heap[j]? := fun j hj hne => hg3.block j hj fun e => hne (Option.some.inj e)
     have hD3 := HD2.out.turned (W' := w3) (t := hearT d.tab m) (f := updI d.since (k : Int) none) ((Touch.of_grown (L := fun k => k = M.gt ∨ k = M.gm) (gb_drewN wc (nq + 1) none) (fun j hj => by cases hj)).trans (Touch.of_grown (L := fun k => k = M.gt ∨ k = M.gm) hg3 fun j hj => .inr (Option.some.inj hj).symm) fun _ _ h => h) (HD2.out.tab.keep (hb3 _ HD2.out.tab.lt n5)) hS3
     have e7 : w3.cell? ⟨M.g, 7, none⟩ = some (.int .i64 d.clock) := hD3.cell 7
     have e11 : w3.cell? ⟨M.g, 11, none⟩ = some (.map (some M.gm)) := hD3.cell 11
     have hwl : w.heap.size < wc.heap.size := by omega
     have r0 : w3.cell? ⟨w.heap.size, 0, none⟩ = some (.int .i64 (k : Int)) := (World.cell?_of_block (a := ⟨w.heap.size, 0, none⟩) (hb3 _ hwl hlw)).trans (by rw [← hk]; exact p0)
     have r1 : w3.cell? ⟨w.heap.size, 1, none⟩ = some (.int .i64 m.st) := (World.cell?_of_block (a := ⟨w.heap.size, 1, none⟩) (hb3 _ hwl hlw)).trans p1
     have HT3 := Lib.hid (HTT.out.trans ((Touch.of_grown (L := fun k => k = M.gt ∨ k = M.gm) (gb_drewN wc (nq + 1) none) (fun j hj => by cases hj)).trans (Touch.of_grown (L := fun k => k = M.gt ∨ k = M.gm) hg3 fun j hj => .inr (Option.some.inj hj).symm) fun _ _ h => h) (fun _ _ h => h))
     have HD3 := Lib.hid hD3
     obtain ⟨w4, hst4, hS4, hg4⟩ := hD3.since.store (w := w3.drew) k hk8 d.clock hc
     have hb4 : ∀ j, j < w3.heap.size → j ≠ M.gm → w4.heap[j]? = w3.heap[j]? := fun j hj hne => hg4.block j hj fun e => hne (Option.some.inj e)
     have hu : updI (updI d.since (k : Int) none) (k : Int) (some d.clock) = updI d.since (k : Int) (some d.clock) := by
      funext x; unfold updI; split <;> rfl
     have ht4 : Touch (fun k => k = M.gt ∨ k = M.gm) w3 w4 := (Touch.of_grown (L := fun k => k = M.gt ∨ k = M.gm) (gb_drewN w3 1 none) (fun j hj => by cases hj)).trans (Touch.of_grown (L := fun k => k = M.gt ∨ k = M.gm) hg4 fun j hj => .inr (Option.some.inj hj).symm) fun _ _ h => h
     have hD4 := hD3.turned (W' := w4) (t := hearT d.tab m) (f := updI d.since (k : Int) (some d.clock)) ht4 (hD3.tab.keep (hb4 _ hD3.tab.lt n5)) (by rw [← hu]; exact hS4)
     have HD4 := Lib.hid hD4
     have HT4 := Lib.hid (HT3.out.trans ht4 fun _ _ h => h)
     have hh : d.hear m = { d with tab := hearT d.tab m, since := updI d.since (k : Int) (if m.st = 2 then some d.clock else none) } := by
      unfold Det.hear
      rw [if_pos ⟨hm, hn⟩, if_neg hs, show hearT d.tab m = updT d.tab m.node.toNat ⟨m.st, m.inc⟩ from if_pos ⟨hm, hn⟩, hk]
     have HH := Lib.hid hh
     clear hh hD4 ht4 hu hb4 hg4 hS4 hb3 hD3 hS3 hg3 hn hm p1 hlw hwl c0 c7
     by_cases hst : m.st = 2
     ·have hst' : (m.st == 2) = true := by simpa using hst
      have hh2 : d.hear m = { d with tab := hearT d.tab m, since := updI d.since (k : Int) (some d.clock) } := by rw [HH.out, if_pos hst]
      have HH2 := Lib.hid hh2
      clear hh2
      go_wp2_with fail
      go_region_law (fail)
      all_goals
       clear hdel
       go_wp2_with fail
       go_region_law (fail)
       all_goals
        go_wp2_with fail
        go_end0
        rw [HH2.out]
        exact ⟨rfl, HD4.out, HT4.out⟩
     ·have hst' : (m.st == 2) = false := by simpa using hst
      have hh2 : d.hear m = { d with tab := hearT d.tab m, since := updI d.since (k : Int) none } := by rw [HH.out, if_neg hst]
      have HH2 := Lib.hid hh2
      clear hh2 hst4
      go_wp2_with fail
      go_region_law (fail)
      all_goals
       clear hdel
       go_wp2_with fail
       go_end0
       rw [HH2.out]
       exact ⟨rfl, HD3.out, HT3.out⟩
   ·have hnf : newsT d.tab m = false := by simpa using hn
    have hh : d.hear m = { d with tab := hearT d.tab m, since := d.since } := by unfold Det.hear hearT; rw [if_neg (fun h => hn h.2), if_neg (fun h => hn h.2)]
    have HH := Lib.hid hh
    rw [hmd, hnf]
    clear hh hmd hn hnf
    go_wp2_with fail
    go_quiet (fail)
    go_wp2_with fail
    refine bodyPost_ret (v := .tuple #[]) (by simp [results, Tryz.results40, go_sem]) rfl ?_
    rw [HH.out]
    exact ⟨rfl, HD2.out.keep (fun _ _ => rfl), HTT.out.trans (Touch.of_grown (L := fun k => k = M.gt ∨ k = M.gm) (gb_drewN wc nq none) (fun j hj => by cases hj)) (fun _ _ h => h)⟩
  ·have hmf : decide m.may = false := decide_eq_false hm
   have hh : d.hear m = { d with tab := hearT d.tab m, since := d.since } := by unfold Det.hear hearT; rw [if_neg (fun h => hm h.1), if_neg (fun h => hm h.1)]
   have HH := Lib.hid hh
   rw [hmf]
   clear hh hmf hm
   go_wp2_with fail
   go_quiet (fail)
   go_wp2_with fail
   refine bodyPost_ret (v := .tuple #[]) (by simp [results, Tryz.results40, go_sem]) rfl ?_
   rw [HH.out]
   exact ⟨rfl, HD2.out.keep (fun _ _ => rfl), HTT.out.trans (Touch.of_grown (L := fun k => k = M.gt ∨ k = M.gm) (gb_drewN wc nq none) (fun j hj => by cases hj)) (fun _ _ h => h)⟩
end Go.Proofs.YtejihgfigclppaaGreat
