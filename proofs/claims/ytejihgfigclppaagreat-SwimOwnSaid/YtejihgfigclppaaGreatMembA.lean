/-
  The table's methods that go over all words: walk, All, Live, Others; Of; New.
-/
import Derived.Test.YtejihgfigclppaaGreatMembH
import Derived.Test.YtejihgfigclppaaGreatDots
import Derived.Laws.EntriesVeiled
namespace Go.Proofs.YtejihgfigclppaaGreat
open Go.Shelf Go.RowKit Go.Lib Go.Sort
set_option linter.unusedVariables false
set_option linter.unusedSimpArgs false
def knowns (t : Tab) : Array Value := #[knB t 0, knB t 1, knB t 2, knB t 3, knB t 4, knB t 5, knB t 6, knB t 7]
theorem TabAt.loadKnown {W : World} {b : Nat} {self : Int} {t : Tab} (h : TabAt W b self t) : Sem.run Tryz.prog (loadCellsFrom ⟨b, 1, none⟩ 0 8 #[]) W = .ok (knowns t) W :=
  run_loadCellsFrom_list Tryz.prog W ⟨b, 1, none⟩ (knowns t).toList 8 rfl (fun i v hv => by
    rw [Addr.add_lit]
    have hi : i < 8 := (List.getElem?_eq_some_iff.1 hv).1
    rw [h.cell (1 + i), tcells_known self t hi, ← hv]
    rcases eight hi with rfl | rfl | rfl | rfl | rfl | rfl | rfl | rfl <;> rfl)
set_option maxRecDepth 100000 in
theorem known_index (t : Tab) (i : Nat) (hi : i < 8) (w : World) : (Instr.index 131 (.agg (knowns t)) (.int .i64 i)).run Tryz.prog w = .ok (.bool (t i).isSome) w := by
  rcases eight hi with rfl | rfl | rfl | rfl | rfl | rfl | rfl | rfl <;> kernel_rfl
/-- the word on node k, in memory -/
theorem TabAt.word {W : World} {b : Nat} {self : Int} {t : Tab} (h : TabAt W b self t) {k : Nat} (hk : k < 8) {wd : Wd} (ht : t k = some wd) :
    W.cell? ⟨b, 9 + k * 3, none⟩ = some (.int .i64 k) ∧ W.cell? ⟨b, 9 + k * 3 + 1, none⟩ = some (.int .i64 wd.st) ∧ W.cell? ⟨b, 9 + k * 3 + 2, none⟩ = some (.int .i64 wd.inc) := by
  refine ⟨(h.cell _).trans ((tcells_node self t hk).trans ?_), (h.cell _).trans ((tcells_st self t hk).trans ?_), (h.cell _).trans ((tcells_inc self t hk).trans ?_)⟩
  · unfold wN; rw [ht]; rfl
  · unfold wS; rw [ht]; rfl
  · unfold wI; rw [ht]; rfl
set_option maxHeartbeats 4000000 in
theorem memWalk_any (K : Nat) (free : Array Value) (eg : ∀ args w, (callFunc K args).run Tryz.prog w = .ok (.enter K args) w) (b : Nat) (self : Int) (t : Tab) (Inv : Nat → World → Prop)
    (hs : ∀ k, k < 8 → ∀ wd, t k = some wd → ∀ W, Inv k W → Calls Tryz.prog K (#[.agg #[.int .i64 k, .int .i64 wd.st, .int .i64 wd.inc]] ++ free) W fun e w' => e = .returned (.tuple #[]) ∧ Inv (k + 1) w')
    (hn : ∀ k, k < 8 → t k = none → ∀ W, Inv k W → Inv (k + 1) W) (hg : ∀ k W, Inv k W → TabAt W b self t) (w : World) (h0 : Inv 0 w) :
    Calls Tryz.prog 88 #[.pointer (some ⟨b, 0, none⟩), .func (.func K) #[] free] w fun e w' => e = .returned (.tuple #[]) ∧ Inv 8 w' := by
  have hld := (hg 0 w h0).loadKnown
  have hix := fun i hi W => known_index t i hi W
  generalize knowns t = kn at *
  have HS := Lib.hid hs
  have HN := Lib.hid hn
  have HG := Lib.hid hg
  have H0 := Lib.hid h0
  have HIX := Lib.hid hix
  clear hs hn hg h0 hix
  go_enter Tryz.func88, Tryz.ntmps88
  go_wp2_with (refine wpList_loadAgg _ rfl 131 _ rfl 8 (by kernel_rfl) (by kernel_rfl) ⟨b, 1, none⟩ rfl kn hld ?_)
  clear hld
  go_loopg [12] 8 (fun gk s12 wr => ∃ (n : Nat), s12 = .int .i64 n ∧ n ≤ 8 ∧ 8 - n ≤ gk ∧ Hid (Inv n wr))
  case atStart => exact ⟨0, rfl, Nat.zero_le _, Nat.le_refl _, H0.out⟩
  case round =>
    obtain ⟨n, rfl, hi, hgk, HI⟩ := hrel
    by_cases hlt : n < 8
    · have hltz : (n : Int) < 8 := by omega
      have hix := HIX.out n hlt
      cases ht : t n with
      | none =>
        have HI1 := Lib.hid (HN.out n hlt ht wr HI.out)
        rw [ht] at hix
        simp only [Option.isSome_none] at hix
        clear HI ht
        go_wp2_with fail
        go_roundg (8 - (n + 1))
        case measure => omega
        case rel => exact ⟨n + 1, by go_num, by omega, Nat.le_refl _, HI1.out⟩
      | some wd =>
        obtain ⟨k0, k1, k2⟩ := (HG.out n wr HI.out).word hlt ht
        have HST := Lib.hid (HS.out n hlt wd ht wr HI.out)
        rw [ht] at hix
        simp only [Option.isSome_some] at hix
        clear HI ht
        go_wp2_with fail
        refine HST.out.mono ?_
        rintro e w1 ⟨rfl, hI⟩
        have HI1 := Lib.hid hI
        clear hI HST hix k0 k1 k2
        go_wp2_with fail
        go_roundg (8 - (n + 1))
        case measure => omega
        case rel => exact ⟨n + 1, by go_num, by omega, Nat.le_refl _, HI1.out⟩
    · have hltz : ¬ (n : Int) < 8 := by omega
      obtain rfl : n = 8 := by omega
      go_wp2_with fail
      go_end0
      exact ⟨rfl, HI.out⟩
theorem infoMember : (Tryz.prog.info? 45).map (fun i => (i.zero, i.size, i.bytes)) = some (some (.agg #[.int .i64 0, .int .i64 0, .int .i64 0]), 3, 24) := by kernel_rfl
/-- what was gathered so far, in the cell of block ob -/
structure GatherAt {α : Type} (enc : α → List Value) (k ty el : Nat) (ob : Nat) (W0 W : World) (v : Value) (l : List α) : Prop where
  lt : ob < W0.heap.size
  obj : W.heap[ob]? = some (.cells #[v] ty)
  own : Owns enc k W0.heap.size el W v l
  grew : W0.grownBy W (some ob)
theorem gather_val {α : Type} {enc : α → List Value} {k ty el ob : Nat} {W0 W : World} {v : Value} {l : List α} (h : GatherAt enc k ty el ob W0 W v l) : ∃ o c, v = .slice o l.length c := slAt_slice h.own.at
set_option maxHeartbeats 8000000 in
theorem allFn_any (ob : Nat) (m : Mb) (W0 W : World) (v : Value) (l : List Mb) (hl : l.length ≤ 100) (h : GatherAt Mb.cells 3 40 45 ob W0 W v l) :
    Calls Tryz.prog 89 #[.agg #[.int .i64 m.node, .int .i64 m.st, .int .i64 m.inc], .pointer (some ⟨ob, 0, none⟩)] W fun e w' => e = .returned (.tuple #[]) ∧ ∃ v', GatherAt Mb.cells 3 40 45 ob W0 w' v' (l ++ [m]) := by
  obtain ⟨oh, ch, rfl⟩ := gather_val h
  have hrow := h.obj
  have hob0 := h.lt
  have hob : ob < W.heap.size := (Array.getElem?_eq_some_iff.1 hrow).1
  have hsz0 := h.grew.size
  have hb0 := (Below.refl W.heap.size W).alloc (Nat.le_refl _) (.cells #[.int .i64 m.node, .int .i64 m.st, .int .i64 m.inc] 132)
  have hown := h.own.below hb0 (Nat.le_refl _)
  have HGW := Lib.hid h.grew
  have HOWN := Lib.hid hown
  have HROW := Lib.hid hrow
  have c0 : W.cell? ⟨ob, 0, none⟩ = some (.slice oh l.length ch) := cell_of_row W ob 0 _ _ _ hrow
  have z0 : W.frozen? ⟨ob, 0, none⟩ = false := by unfold World.frozen?; rw [hrow]; simp
  clear h hb0 hown hrow
  go_enter Tryz.func89, Tryz.ntmps89
  go_wp2_with (at_builtin; refine wpList_app Mb.cells 3 Mb.cells_len (by decide) Mb.cells_one _ rfl _ _ 40 rfl W0.heap.size 45 _ 24 Tryz.underlying40 infoMember rfl _ l rfl ?h1 _ [m] rfl ?h2 ?h3 ?h4 ?h5 ?_)
  case h1 => exact HOWN.out.below ((Below.refl _ _).alloc (Nat.le_refl _) _) (Nat.le_refl _)
  case h2 =>
    have := slAt_new (enc := Mb.cells) (W.alloc (.cells #[.int .i64 m.node, .int .i64 m.st, .int .i64 m.inc] 132)) #[.int .i64 m.node, .int .i64 m.st, .int .i64 m.inc] 45 1 1 (0, 0) [m] rfl rfl (by decide)
    rw [World.size_alloc] at this
    exact this
  case h3 => simp only [List.length_singleton]; omega
  case h4 => simp only [List.length_singleton]; omega
  case h5 => simp; omega
  intro v' w' hown2 hg2 hv2
  obtain ⟨o2, c2, hvv⟩ := slAt_slice hown2.at
  subst hvv
  have hlow : ∀ x, (Value.slice oh l.length ch).ownBlock = some x → W0.heap.size ≤ x := fun x hx => (HOWN.out.lt x hx).1
  have hrow2 : w'.heap[ob]? = some (.cells #[.slice oh l.length ch] 40) := (hg2.block ob (by simp; omega) (fun e => by have := hlow ob e.symm; omega)).trans ((Below.heap_alloc _ _ _ (by simp; omega)).trans ((Below.heap_alloc _ _ _ hob).trans HROW.out))
  have k0 : w'.cell? ⟨ob, 0, none⟩ = some (.slice oh l.length ch) := cell_of_row w' ob 0 _ _ _ hrow2
  have z2 : w'.frozen? ⟨ob, 0, none⟩ = false := by unfold World.frozen?; rw [hrow2]; simp
  have HOWN2 := Lib.hid hown2
  have HGW2 := Lib.hid (gb_then (HGW.out.trans ((World.grownBy_alloc W (.cells #[.int .i64 m.node, .int .i64 m.st, .int .i64 m.inc] 132) (some ob)).trans (World.grownBy_alloc _ (.cells #[.int .i64 m.node, .int .i64 m.st, .int .i64 m.inc] 45) (some ob)))) hg2 (fun x hx => .inl (hlow x hx)))
  have HROW2 := Lib.hid hrow2
  clear hown2 hg2 hv2 hrow2 c0 z0
  generalize hlm : l ++ [m] = lm at *
  generalize lm.length = ln at *
  go_wp2_with fail
  go_end0
  have hob := heap_setCell_same w' ob 0 (.slice o2 ln c2) _ _ _ HROW2.out
  refine ⟨rfl, .slice o2 ln c2, hob0, hob, ?_, gb_then HGW2.out (gb_set w' ob 0 _) fun j hj => .inr hj⟩
  rw [hlm]
  refine HOWN2.out.keep fun b hb => ?_
  have := (HOWN2.out.lt b hb).1
  exact Below.heap_setCell w' ⟨ob, 0, none⟩ _ _ (by show b ≠ ob; omega)
set_option maxHeartbeats 8000000 in
theorem all_any (b : Nat) (self : Int) (t : Tab) (w : World) (h : TabAt w b self t) :
    Calls Tryz.prog 50 #[.pointer (some ⟨b, 0, none⟩)] w fun e w' => ∃ o c, e = .returned (.slice o (allT t).length c) ∧ Owns Mb.cells 3 w.heap.size 45 w' (.slice o (allT t).length c) (allT t) ∧ Below w.heap.size w w' := by
  have eg : ∀ args w, (callFunc 89 args).run Tryz.prog w = .ok (.enter 89 args) w := enters_of Tryz.func89 (by kernel_rfl) rfl
  have hlt := h.lt
  have hob := heap_alloc_new w (.cells #[.slice none 0 0] 40)
  have hb1 := (Below.refl w.heap.size w).alloc (Nat.le_refl _) (.cells #[.slice none 0 0] 40)
  have hwk := memWalk_any 89 #[.pointer (some ⟨w.heap.size, 0, none⟩)] eg b self t (fun k W' => ∃ v, GatherAt Mb.cells 3 40 45 w.heap.size (w.alloc (.cells #[.slice none 0 0] 40)) W' v (wordsTo t k))
    (fun k hk wd hwd W' ⟨v, hI⟩ => (allFn_any w.heap.size ⟨k, wd.st, wd.inc⟩ _ W' v (wordsTo t k) (Nat.le_trans (wordsTo_len t k) (by omega)) hI).mono fun e w2 ⟨h1, v2, h2⟩ => ⟨h1, v2, by unfold wordsTo; rw [hwd]; exact h2⟩)
    (fun k hk hno W' ⟨v, hI⟩ => ⟨v, by unfold wordsTo; rw [hno]; dsimp only; rw [List.append_nil]; exact hI⟩)
    (fun k W' ⟨v, hI⟩ => (h.keep (hb1.block b hlt)).keep (hI.grew.block b (by rw [World.size_alloc]; omega) (fun e => by have := Option.some.inj e; omega)))
    (w.alloc (.cells #[.slice none 0 0] 40)) ⟨.slice none 0 0, by rw [World.size_alloc]; omega, hob, Owns.nil _ _ _ _ _, World.grownBy.refl _ _⟩
  have HWK := Lib.hid hwk
  have HB1 := Lib.hid hb1
  clear hwk hob hb1 h eg
  go_enter Tryz.func50, Tryz.ntmps50
  go_wp2_with fail
  refine HWK.out.mono ?_
  rintro e w4 ⟨rfl, v4, hI⟩
  obtain ⟨o4, c4, rfl⟩ := gather_val hI
  have hrow := hI.obj
  have k0 : w4.cell? ⟨w.heap.size, 0, none⟩ = some (.slice o4 (wordsTo t 8).length c4) := cell_of_row w4 _ 0 _ _ _ hrow
  have z0 : w4.frozen? ⟨w.heap.size, 0, none⟩ = false := by unfold World.frozen?; rw [hrow]; simp
  have HOW := Lib.hid hI.own
  have HB4 := Lib.hid (HB1.out.grown hI.grew HB1.out.size (fun k hk => by cases hk; omega))
  clear hI hrow HWK
  go_wp2_with fail
  refine bodyPost_ret (v := .slice o4 (wordsTo t 8).length c4) (by simp [results, Tryz.results50, go_sem, cell_set, k0]) rfl ⟨o4, c4, rfl, ?_, HB4.out.setCell (p := ⟨w.heap.size, 0, none⟩) (by show w.heap.size ≤ w.heap.size; omega) _⟩
  refine (HOW.out.keep fun b hb => ?_).lower (by rw [World.size_alloc]; omega)
  have := (HOW.out.lt b hb).1
  rw [World.size_alloc] at this
  exact Below.heap_setCell w4 ⟨w.heap.size, 0, none⟩ _ _ (by show b ≠ w.heap.size; omega)
set_option maxHeartbeats 4000000 in
theorem thereW_any (m : Mb) (w : World) : Calls Tryz.prog 95 #[.agg #[.int .i64 m.node, .int .i64 m.st, .int .i64 m.inc]] w fun e w' => e = .returned (.bool (Wd.there ⟨m.st, m.inc⟩)) ∧ Grew w w' := by
  have ht : Wd.there ⟨m.st, m.inc⟩ = decide (m.st = 1 ∨ m.st = 2) := rfl
  rw [ht]
  by_cases h1 : m.st = 1
  · have hb1 : (m.st == 1) = true := by simpa using h1
    rw [decide_eq_true (.inl h1)]
    go_enter Tryz.func95, Tryz.ntmps95
    go_wp2_with fail
    go_ret
    exact ⟨rfl, (Grew.refl _).alloc _⟩
  · have hb1 : (m.st == 1) = false := by simpa using h1
    by_cases h2 : m.st = 2
    · have hb2 : (m.st == 2) = true := by simpa using h2
      rw [decide_eq_true (.inr h2)]
      go_enter Tryz.func95, Tryz.ntmps95
      go_wp2_with fail
      go_ret
      exact ⟨rfl, (Grew.refl _).alloc _⟩
    · have hb2 : (m.st == 2) = false := by simpa using h2
      rw [decide_eq_false (by omega)]
      go_enter Tryz.func95, Tryz.ntmps95
      go_wp2_with fail
      go_ret
      exact ⟨rfl, (Grew.refl _).alloc _⟩
set_option maxHeartbeats 8000000 in
theorem liveFn_any (ob : Nat) (m : Mb) (W0 W : World) (v : Value) (l : List Int) (hl : l.length ≤ 100) (h : GatherAt icells 1 50 3 ob W0 W v l) :
    Calls Tryz.prog 94 #[.agg #[.int .i64 m.node, .int .i64 m.st, .int .i64 m.inc], .pointer (some ⟨ob, 0, none⟩)] W fun e w' => e = .returned (.tuple #[]) ∧ ∃ v', GatherAt icells 1 50 3 ob W0 w' v' (l ++ if Wd.there ⟨m.st, m.inc⟩ = true then [m.node] else []) := by
  obtain ⟨oh, ch, rfl⟩ := gather_val h
  have hrow := h.obj
  have hob0 := h.lt
  have hob : ob < W.heap.size := (Array.getElem?_eq_some_iff.1 hrow).1
  have hsz0 := h.grew.size
  have hth := fun W => thereW_any m W
  obtain ⟨W1, hW1⟩ : ∃ W1, W.alloc (.cells #[.int .i64 m.node, .int .i64 m.st, .int .i64 m.inc] 132) = W1 := ⟨_, rfl⟩
  have hb0 : Below W.heap.size W W1 := by rw [← hW1]; exact (Below.refl W.heap.size W).alloc (Nat.le_refl _) _
  have hg0 : W.grownBy W1 (some ob) := by rw [← hW1]; exact World.grownBy_alloc W _ (some ob)
  have hr1 : W1.heap[W.heap.size]? = some (.cells #[.int .i64 m.node, .int .i64 m.st, .int .i64 m.inc] 132) := by rw [← hW1]; exact heap_alloc_new W _
  have q0 : W1.cell? ⟨W.heap.size, 0, none⟩ = some (.int .i64 m.node) := cell_of_row W1 _ 0 _ _ _ hr1
  have q1 : W1.cell? ⟨W.heap.size, 1, none⟩ = some (.int .i64 m.st) := cell_of_row W1 _ 1 _ _ _ hr1
  have q2 : W1.cell? ⟨W.heap.size, 2, none⟩ = some (.int .i64 m.inc) := cell_of_row W1 _ 2 _ _ _ hr1
  have hs1 : W1.heap.size = W.heap.size + 1 := by rw [← hW1]; exact World.size_alloc _ _
  have HW1 := Lib.hid hW1
  have HH := Lib.hid h
  have HTH := Lib.hid hth
  have HB0 := Lib.hid hb0
  have HG0 := Lib.hid hg0
  clear hth h hb0 hg0 hr1 hW1
  cases hthb : Wd.there ⟨m.st, m.inc⟩ with
  | false =>
    simp only [hthb] at HTH
    go_enter Tryz.func94, Tryz.ntmps94
    go_wp2_with fail
    rw [HW1.out]
    go_wp2_with fail
    refine (HTH.out _).mono ?_
    rintro e w3 ⟨rfl, hg3⟩
    have hb3 := hg3.below
    go_wp2_with fail
    go_end0
    have hbt := HB0.out.trans (hb3.mono (by omega))
    refine ⟨rfl, .slice oh l.length ch, hob0, (hbt.block ob hob).trans hrow, ?_, gb_below HH.out.grew hbt (by omega)⟩
    exact HH.out.own.below hbt (Nat.le_refl _)
  | true =>
    simp only [hthb] at HTH
    go_enter Tryz.func94, Tryz.ntmps94
    go_wp2_with fail
    rw [HW1.out]
    go_wp2_with fail
    refine (HTH.out _).mono ?_
    rintro e w3 ⟨rfl, hg3⟩
    have hb3 := hg3.below
    have hbt := HB0.out.trans (hb3.mono (by omega))
    have hrow3 := (hbt.block ob hob).trans hrow
    have hown3 := HH.out.own.below hbt (Nat.le_refl _)
    have c0 : w3.cell? ⟨ob, 0, none⟩ = some (.slice oh l.length ch) := cell_of_row w3 ob 0 _ _ _ hrow3
    have r0 := (hb3.cell (p := ⟨W.heap.size, 0, none⟩) (by show W.heap.size < _; omega)).trans q0
    have HGW := Lib.hid (gb_below HH.out.grew hbt (by omega))
    have HOWN := Lib.hid hown3
    have HROW := Lib.hid hrow3
    have hs3 : W.heap.size + 1 ≤ w3.heap.size := by have := hb3.size; omega
    clear hbt hrow3 hown3 hb3 hg3 q0 q1 q2 HTH HH HB0 HG0
    go_wp2_with (at_builtin; refine wpList_app icells 1 icells_len (by decide) icells_one _ rfl _ _ 50 rfl W0.heap.size 3 _ 8 Tryz.underlying50 infoInt rfl _ l rfl ?h1 _ [m.node] rfl ?h2 ?h3 ?h4 ?h5 ?_)
    case h1 => exact HOWN.out.below ((Below.refl _ _).alloc (Nat.le_refl _) _) (Nat.le_refl _)
    case h2 => exact slAt_new (enc := icells) w3 #[.int .i64 m.node] 3 1 1 (0, 0) [m.node] rfl rfl (by decide)
    case h3 => simp only [List.length_singleton]; omega
    case h4 => simp only [List.length_singleton]; omega
    case h5 => simp; omega
    intro v' w' hown2 hg2 hv2
    obtain ⟨o2, c2, hvv⟩ := slAt_slice hown2.at
    subst hvv
    have hlow : ∀ x, (Value.slice oh l.length ch).ownBlock = some x → W0.heap.size ≤ x := fun x hx => (HOWN.out.lt x hx).1
    have hrow2 : w'.heap[ob]? = some (.cells #[.slice oh l.length ch] 50) := (hg2.block ob (by simp; omega) (fun e => by have := hlow ob e.symm; omega)).trans ((Below.heap_alloc _ _ _ (by omega)).trans HROW.out)
    have k0 : w'.cell? ⟨ob, 0, none⟩ = some (.slice oh l.length ch) := cell_of_row w' ob 0 _ _ _ hrow2
    have z2 : w'.frozen? ⟨ob, 0, none⟩ = false := by unfold World.frozen?; rw [hrow2]; simp
    have HOWN2 := Lib.hid hown2
    have HGW2 := Lib.hid (gb_then (HGW.out.trans (World.grownBy_alloc w3 (.cells #[.int .i64 m.node] 3) (some ob))) hg2 (fun x hx => .inl (hlow x hx)))
    have HROW2 := Lib.hid hrow2
    clear hown2 hg2 hv2 hrow2 c0
    generalize hlm : l ++ [m.node] = lm at *
    generalize lm.length = ln at *
    go_wp2_with fail
    go_end0
    have hob := heap_setCell_same w' ob 0 (.slice o2 ln c2) _ _ _ HROW2.out
    refine ⟨rfl, .slice o2 ln c2, hob0, hob, ?_, gb_then HGW2.out (gb_set w' ob 0 _) fun j hj => .inr hj⟩
    refine HOWN2.out.keep fun b hb => ?_
    have := (HOWN2.out.lt b hb).1
    exact Below.heap_setCell w' ⟨ob, 0, none⟩ _ _ (by show b ≠ ob; omega)
set_option maxHeartbeats 8000000 in
theorem live_any (b : Nat) (self : Int) (t : Tab) (w : World) (h : TabAt w b self t) :
    Calls Tryz.prog 59 #[.pointer (some ⟨b, 0, none⟩)] w fun e w' => ∃ o c, e = .returned (.slice o (liveT t).length c) ∧ Owns icells 1 w.heap.size 3 w' (.slice o (liveT t).length c) (liveT t) ∧ Below w.heap.size w w' := by
  have eg : ∀ args w, (callFunc 94 args).run Tryz.prog w = .ok (.enter 94 args) w := enters_of Tryz.func94 (by kernel_rfl) rfl
  have hlt := h.lt
  have hob := heap_alloc_new w (.cells #[.slice none 0 0] 50)
  have hb1 := (Below.refl w.heap.size w).alloc (Nat.le_refl _) (.cells #[.slice none 0 0] 50)
  have hwk := memWalk_any 94 #[.pointer (some ⟨w.heap.size, 0, none⟩)] eg b self t (fun k W' => ∃ v, GatherAt icells 1 50 3 w.heap.size (w.alloc (.cells #[.slice none 0 0] 50)) W' v (liveTo t k))
    (fun k hk wd hwd W' ⟨v, hI⟩ => (liveFn_any w.heap.size ⟨k, wd.st, wd.inc⟩ _ W' v (liveTo t k) (Nat.le_trans (liveTo_len t k) (by omega)) hI).mono fun e w2 ⟨h1, v2, h2⟩ => ⟨h1, v2, by unfold liveTo; rw [hwd]; exact h2⟩)
    (fun k hk hno W' ⟨v, hI⟩ => ⟨v, by unfold liveTo; rw [hno]; dsimp only; rw [List.append_nil]; exact hI⟩)
    (fun k W' ⟨v, hI⟩ => (h.keep (hb1.block b hlt)).keep (hI.grew.block b (by rw [World.size_alloc]; omega) (fun e => by have := Option.some.inj e; omega)))
    (w.alloc (.cells #[.slice none 0 0] 50)) ⟨.slice none 0 0, by rw [World.size_alloc]; omega, hob, Owns.nil _ _ _ _ _, World.grownBy.refl _ _⟩
  have HWK := Lib.hid hwk
  have HB1 := Lib.hid hb1
  clear hwk hob hb1 h eg
  go_enter Tryz.func59, Tryz.ntmps59
  go_wp2_with fail
  refine HWK.out.mono ?_
  rintro e w4 ⟨rfl, v4, hI⟩
  obtain ⟨o4, c4, rfl⟩ := gather_val hI
  have hrow := hI.obj
  have k0 : w4.cell? ⟨w.heap.size, 0, none⟩ = some (.slice o4 (liveTo t 8).length c4) := cell_of_row w4 _ 0 _ _ _ hrow
  have z0 : w4.frozen? ⟨w.heap.size, 0, none⟩ = false := by unfold World.frozen?; rw [hrow]; simp
  have HOW := Lib.hid hI.own
  have HB4 := Lib.hid (HB1.out.grown hI.grew HB1.out.size (fun k hk => by cases hk; omega))
  clear hI hrow HWK
  go_wp2_with fail
  refine bodyPost_ret (v := .slice o4 (liveTo t 8).length c4) (by simp [results, Tryz.results59, go_sem, cell_set, k0]) rfl ⟨o4, c4, rfl, ?_, HB4.out.setCell (p := ⟨w.heap.size, 0, none⟩) (by show w.heap.size ≤ w.heap.size; omega) _⟩
  refine (HOW.out.keep fun b hb => ?_).lower (by rw [World.size_alloc]; omega)
  have := (HOW.out.lt b hb).1
  rw [World.size_alloc] at this
  exact Below.heap_setCell w4 ⟨w.heap.size, 0, none⟩ _ _ (by show b ≠ w.heap.size; omega)
set_option maxHeartbeats 8000000 in
theorem others_any (b : Nat) (self : Int) (t : Tab) (w : World) (h : TabAt w b self t) :
    Calls Tryz.prog 51 #[.pointer (some ⟨b, 0, none⟩)] w fun e w' => ∃ o c, e = .returned (.slice o (othersT self t).length c) ∧ Owns icells 1 w.heap.size 3 w' (.slice o (othersT self t).length c) (othersT self t) ∧ Below w.heap.size w w' := by
  have hlt := h.lt
  have hlv := live_any b self t w h
  have hll := liveT_len t
  have HT := Lib.hid h
  have HO := Lib.hid (show othersT self t = (liveT t).filter fun n => !decide (n = self) from rfl)
  generalize othersT self t = os at *
  generalize liveT t = lv at *
  have HLV := Lib.hid hlv
  clear hlv h
  go_enter Tryz.func51, Tryz.ntmps51
  go_wp2_with fail
  refine HLV.out.mono ?_
  rintro e w2 ⟨o2, c2, rfl, ho2, hb2⟩
  have HO2 := Lib.hid ho2
  have HB2 := Lib.hid hb2
  clear ho2 hb2 HLV
  go_wp2_with fail
  go_loopg [2, 8] lv.length (fun gk s2 s8 wr => ∃ (i : Nat) (oq : Option Addr) (cq : Nat), s8 = .int .i64 i ∧ s2 = .slice oq ((lv.take i).filter fun n => !decide (n = self)).length cq ∧ i ≤ lv.length ∧ lv.length - i ≤ gk ∧ Hid (Owns icells 1 w2.heap.size 3 wr (.slice oq ((lv.take i).filter fun n => !decide (n = self)).length cq) ((lv.take i).filter fun n => !decide (n = self))) ∧ Hid (Below w2.heap.size w2 wr))
  case atStart => exact ⟨0, none, 0, rfl, rfl, Nat.zero_le _, Nat.le_refl _, Owns.nil _ _ _ _ _, Below.refl _ _⟩
  case round =>
    obtain ⟨i, oq, cq, rfl, rfl, hi, hgk, HQ, HBR⟩ := hrel
    have hsz := HBR.out.size
    by_cases hlt2 : i < lv.length
    · have hltz : (i : Int) < (lv.length : Int) := by omega
      have hsl := HO2.out.at.below icells_len (by decide) HBR.out (Nat.le_refl _)
      obtain ⟨g, off, rfl⟩ := hsl.plain icells_len (by decide) (by intro e; rw [e] at hlt2; exact absurd hlt2 (by simp))
      have c0 := hsl.cell icells_len (i := i) (c := 0) hlt2 (by decide)
      simp only [icells, Nat.mul_one, Nat.add_zero, List.getElem?_cons_zero] at c0
      have hs0 := ((HT.out.keep (HB2.out.block b hlt)).keep (HBR.out.block b (Nat.lt_of_lt_of_le hlt HB2.out.size))).cell 0
      have hself : wr.cell? ⟨b, 0, none⟩ = some (.int .i64 self) := hs0
      have htk : lv.take (i + 1) = lv.take i ++ [lv[i]] := by rw [List.take_add_one, List.getElem?_eq_getElem hlt2]; rfl
      have hfl : ((lv.take i).filter fun n => !decide (n = self)).length ≤ 8 := Nat.le_trans (List.length_filter_le _ _) (by rw [List.length_take]; omega)
      have HTK := Lib.hid htk
      clear hsl hs0 htk
      generalize lv[i] = x at *
      generalize hfq : (lv.take i).filter (fun n => !decide (n = self)) = fq at *
      have HFQ := Lib.hid hfq
      clear hfq
      by_cases hx : x = self
      · have hnx : (lv.take (i + 1)).filter (fun n => !decide (n = self)) = fq := by rw [HTK.out, List.filter_append, HFQ.out]; simp [hx]
        have HNX := Lib.hid hnx
        clear hnx
        go_wp2_with fail
        go_roundg (lv.length - (i + 1))
        case measure => omega
        case rel => exact ⟨i + 1, oq, cq, by go_num, by rw [HNX.out], by omega, Nat.le_refl _, by rw [HNX.out]; exact HQ.out, HBR.out⟩
      · have hnx : (lv.take (i + 1)).filter (fun n => !decide (n = self)) = fq ++ [x] := by rw [HTK.out, List.filter_append, HFQ.out]; simp [hx]
        have HNX := Lib.hid hnx
        clear hnx
        go_wp2_with (at_builtin; refine wpList_app icells 1 icells_len (by decide) icells_one _ rfl _ _ 50 rfl w2.heap.size 3 _ 8 Tryz.underlying50 infoInt rfl _ fq rfl ?h1 _ [x] rfl ?h2 ?h3 ?h4 ?h5 ?_)
        case h1 => exact HQ.out.below ((Below.refl _ _).alloc (Nat.le_refl _) _) (Nat.le_refl _)
        case h2 => exact slAt_new (enc := icells) wr #[.int .i64 x] 3 1 1 (0, 0) [x] rfl rfl (by decide)
        case h3 => simp only [List.length_singleton]; omega
        case h4 => simp only [List.length_singleton]; omega
        case h5 => rw [World.size_alloc]; omega
        intro v' w' hown2 hg2 hv2
        obtain ⟨o5, c5, hvv⟩ := slAt_slice hown2.at
        subst hvv
        have hbw := (HBR.out.alloc hsz (.cells #[.int .i64 x] 3)).grown hg2 (by rw [World.size_alloc]; omega) (fun k hk => (HQ.out.lt k hk).1)
        have HOWN2 := Lib.hid hown2
        have HBW := Lib.hid hbw
        clear hown2 hg2 hv2 hbw
        go_wp2_with fail
        go_roundg (lv.length - (i + 1))
        case measure => omega
        case rel => exact ⟨i + 1, o5, c5, by go_num, by rw [HNX.out], by omega, Nat.le_refl _, by rw [HNX.out]; exact HOWN2.out, HBW.out⟩
    · have hltz : ¬ (i : Int) < (lv.length : Int) := by omega
      obtain rfl : i = lv.length := by omega
      have hq := HQ.out
      rw [List.take_length] at hq
      go_wp2_with fail
      go_ret
      rw [HO.out]
      exact ⟨oq, cq, rfl, hq.lower HB2.out.size, HB2.out.trans (HBR.out.mono HB2.out.size)⟩
end Go.Proofs.YtejihgfigclppaaGreat
