/-
  Rules asked at places: (watch.pair).over walked.
-/
import Derived.Test.YtkdjfoehpioghaaForgot
import Derived.Laws.EntriesVeiled
namespace Go.Proofs.Ytkdjfoehpioghaa
open Go.Shelf Go.RowKit Go.Lib Go.Sort
set_option linter.unusedVariables false
def rcells (r : Int × Nat) : List Value := [.int .i64 r.1, .func (.func r.2) #[] #[]]
theorem rcells_len (r : Int × Nat) : (rcells r).length = 2 := rfl
theorem infoBreak : (Try.prog.info? 48).map (fun i => (i.zero, i.size, i.bytes)) = some (some (.agg #[.int .i64 0, .int .i64 0]), 2, 16) := by kernel_rfl
/-- what is broken at a place; at all places ahead of n -/
def atL (rules : List (Int × Nat)) (p : Int × Nat → Nat → Bool) (i : Nat) : List Dot := (rules.filter fun r => p r i).map fun r => ⟨r.1, (i : Int)⟩
def overL (rules : List (Int × Nat)) (p : Int × Nat → Nat → Bool) (n : Nat) : List Dot := (List.range n).flatMap (atL rules p)
theorem overL_succ (rules : List (Int × Nat)) (p : Int × Nat → Nat → Bool) (n : Nat) : overL rules p (n + 1) = overL rules p n ++ atL rules p n := by
  unfold overL
  rw [List.range_succ, List.flatMap_append]
  simp
theorem atL_snoc (rules : List (Int × Nat)) (p : Int × Nat → Nat → Bool) (i j : Nat) (hj : j < rules.length) : atL (rules.take (j + 1)) p i = atL (rules.take j) p i ++ (if p rules[j] i then [⟨rules[j].1, (i : Int)⟩] else []) := by
  unfold atL
  rw [List.take_succ_eq_append_getElem hj, List.filter_append, List.map_append]
  cases h : p rules[j] i <;> simp [h]
set_option maxHeartbeats 8000000 in
theorem over_any (a b : WV) (ha : a.Ok) (hb : b.Ok) (places : Nat) (hp8 : places ≤ 8) (ro : Option Addr) (cap : Nat) (rules : List (Int × Nat)) (p : Int × Nat → Nat → Bool) (eg : ∀ r ∈ rules, ∀ args w, (callFunc r.2 args).run Try.prog w = .ok (.enter r.2 args) w) (w : World) (hr : SlAt rcells w (.slice ro rules.length cap) rules) (hrl : rules.length ≤ 2)
    (hs : ∀ r ∈ rules, ∀ i, i < places → ∀ W, Below w.heap.size w W → Calls Try.prog r.2 #[.agg (pairArr a b), .int .i64 (i : Int)] W fun e w' => e = .returned (.bool (p r i)) ∧ Below W.heap.size W w') :
    Calls Try.prog 12 #[.agg (pairArr a b), .int .i64 (places : Int), .slice ro rules.length cap] w fun e w' => ∃ o n c, e = .returned (.slice o n c) ∧ Owns Dot.cells 2 w.heap.size 48 w' (.slice o n c) (overL rules p places) ∧ Below w.heap.size w w' := by
  have hb1 := (Below.refl w.heap.size w).alloc (Nat.le_refl _) (.cells (pairArr a b) 53)
  have hr1 : (w.alloc (.cells (pairArr a b) 53)).heap[w.heap.size]? = some (.cells (pairArr a b) 53) := heap_alloc_new w _
  have hz1 : (w.alloc (.cells (pairArr a b) 53)).heap.size = w.heap.size + 1 := World.size_alloc _ _
  have hld := fun (W : World) (hW : W.heap[w.heap.size]? = some (.cells (pairArr a b) 53)) => pair_load ha hb hW
  have HLD := Lib.hid hld
  have HR := Lib.hid hr
  have HS := Lib.hid hs
  have HEG := Lib.hid eg
  have HB1 := Lib.hid hb1
  have HR1 := Lib.hid hr1
  clear hld hr hs eg hb1 hr1 ha hb
  go_enter Try.func12, Try.ntmps12
  go_wp2_with fail
  generalize w.alloc (.cells (pairArr a b) 53) = w1 at *
  go_loopg [6, 11] places (fun gk s6 s11 wr => ∃ (i : Nat) (oq : Option Addr) (cq : Nat) (ds : List Dot), s11 = .int .i64 i ∧ s6 = .slice oq ds.length cq ∧ i ≤ places ∧ places - i ≤ gk ∧ ds.length ≤ 2 * i ∧ Hid (ds = overL rules p i) ∧ Hid (Owns Dot.cells 2 (w.heap.size + 1) 48 wr (.slice oq ds.length cq) ds) ∧ Hid (Below w1.heap.size w1 wr))
  case atStart => exact ⟨0, none, 0, [], rfl, rfl, Nat.zero_le _, Nat.le_refl _, by simp, rfl, Owns.nil _ _ _ _ _, Below.refl _ _⟩
  case round =>
    obtain ⟨i, oq, cq, ds, rfl, rfl, hi, hg, hdl, HD, HO, HB⟩ := hrel
    by_cases hlt : i < places
    · have hltz : (i : Int) < (places : Int) := by omega
      go_wp2_with fail
      go_loopg [6, 16] rules.length (fun gk s6 s16 wr => ∃ (j : Nat) (oq : Option Addr) (cq : Nat) (ds : List Dot), s16 = .int .i64 j ∧ s6 = .slice oq ds.length cq ∧ j ≤ rules.length ∧ rules.length - j ≤ gk ∧ ds.length ≤ 2 * i + j ∧ Hid (ds = overL rules p i ++ atL (rules.take j) p i) ∧ Hid (Owns Dot.cells 2 (w.heap.size + 1) 48 wr (.slice oq ds.length cq) ds) ∧ Hid (Below w1.heap.size w1 wr))
      case atStart => exact ⟨0, oq, cq, ds, rfl, rfl, Nat.zero_le _, Nat.le_refl _, by omega, (by show _ = _; rw [HD.out]; simp [atL]), HO.out, HB.out⟩
      case round =>
        obtain ⟨j, oq, cq, ds, rfl, rfl, hj, hgj, hdl, HD, HO, HB⟩ := hrel
        have hszw := HB.out.size
        by_cases hlt2 : j < rules.length
        · have hltz2 : (j : Int) < (rules.length : Int) := by omega
          have hsl := (HR.out.below rcells_len (by decide) HB1.out (Nat.le_refl _)).below rcells_len (by decide) HB.out (Nat.le_refl _)
          obtain ⟨b2, off2, rfl⟩ := hsl.plain rcells_len (by decide) (by intro e; rw [e] at hlt2; exact absurd hlt2 (by simp))
          have c0 := hsl.cell rcells_len (i := j) (c := 0) hlt2 (by decide)
          have c1 := hsl.cell rcells_len (i := j) (c := 1) hlt2 (by decide)
          simp only [rcells, List.getElem?_cons_zero, List.getElem?_cons_succ] at c0 c1
          rw [show off2 + (j * 2 + 0) = off2 + j * 2 by omega] at c0
          rw [show off2 + (j * 2 + 1) = off2 + j * 2 + 1 by omega] at c1
          have hmem : rules[j] ∈ rules := List.getElem_mem hlt2
          have eg := HEG.out _ hmem
          have hst := fun W hb => HS.out _ hmem i hlt W hb
          have hsn := atL_snoc rules p i j hlt2
          obtain ⟨⟨num, K⟩, hrj⟩ : ∃ r, rules[j] = r := ⟨_, rfl⟩
          rw [hrj] at c0 c1 eg hst hsn
          simp only at c0 c1 eg hst hsn
          have hba := (Below.refl wr.heap.size wr).alloc (Nat.le_refl _) (.cells #[.int .i64 num, .func (.func K) #[] #[]] 58)
          have hza : (wr.alloc (.cells #[.int .i64 num, .func (.func K) #[] #[]] 58)).heap.size = wr.heap.size + 1 := World.size_alloc _ _
          have hra : (wr.alloc (.cells #[.int .i64 num, .func (.func K) #[] #[]] 58)).heap[wr.heap.size]? = some (.cells #[.int .i64 num, .func (.func K) #[] #[]] 58) := heap_alloc_new wr _
          have e0 := cell_of_row _ wr.heap.size 0 _ _ _ hra
          have e1 := cell_of_row _ wr.heap.size 1 _ _ _ hra
          have hbw1 : Below w1.heap.size w1 (wr.alloc (.cells #[.int .i64 num, .func (.func K) #[] #[]] 58)) := HB.out.trans (hba.mono hszw)
          have hld := HLD.out _ ((hbw1.block w.heap.size (by omega)).trans HR1.out)
          have hcall := hst _ (HB1.out.trans (hbw1.mono (by omega)))
          obtain ⟨q, hq⟩ : ∃ q, p (num, K) i = q := ⟨_, rfl⟩
          rw [hq] at hcall hsn
          have HCALL := Lib.hid hcall
          have HLD1 := Lib.hid hld
          have HSN := Lib.hid hsn
          have HBA := Lib.hid hba
          have HBW := Lib.hid hbw1
          have HRA := Lib.hid hra
          clear hsl hmem hst hsn hrj hba hra hbw1 hld hcall hq
          go_wp2_with (refine wpList_loadAgg _ rfl 53 _ rfl 210 (by kernel_rfl) (by kernel_rfl) ⟨w.heap.size, 0, none⟩ rfl (pairArr a b) HLD1.out ?_)
          generalize wr.alloc (.cells #[.int .i64 num, .func (.func K) #[] #[]] 58) = wa at *
          refine HCALL.out.mono ?_
          rintro e w2 ⟨rfl, hb2⟩
          have hz2 := hb2.size
          have HB2 := Lib.hid (HBW.out.trans (hb2.mono (by omega)))
          have HO2 := Lib.hid ((HO.out.below HBA.out (Nat.le_refl _)).below hb2 (Nat.le_refl _))
          have hr2 := (hb2.block wr.heap.size (by omega)).trans HRA.out
          have d0 := cell_of_row _ wr.heap.size 0 _ _ _ hr2
          clear hb2 hr2 HCALL HBA HRA HBW HO HB e0 e1 c0 c1 HLD1 eg
          cases q with
          | false =>
            clear d0
            go_wp2_with fail
            go_roundg (rules.length - (j + 1))
            case measure => omega
            case rel => exact ⟨j + 1, oq, cq, ds, by go_num, rfl, by omega, Nat.le_refl _, by omega, (by show _ = _; rw [HSN.out, HD.out]; simp), HO2.out, HB2.out⟩
          | true =>
            go_wp2_with (at_builtin; go_loud (refine wpList_app Dot.cells 2 Dot.cells_len (by decide) Dot.cells_one _ rfl _ _ 36 rfl (w.heap.size + 1) 48 _ 16 Try.underlying36 infoBreak rfl _ ds rfl ?h1 _ [(⟨num, (i : Int)⟩ : Dot)] rfl ?h2 ?h3 ?h4 ?h5 ?_))
            case h1 => exact HO2.out.below ((Below.refl _ _).alloc (Nat.le_refl _) _) (Nat.le_refl _)
            case h2 => exact slAt_new (enc := Dot.cells) w2 #[.int .i64 num, .int .i64 (i : Int)] 48 1 1 (0, 0) [(⟨num, (i : Int)⟩ : Dot)] rfl rfl (by decide)
            case h3 => simp only [List.length_singleton]; omega
            case h4 => simp only [List.length_singleton]; omega
            case h5 => rw [World.size_alloc]; omega
            intro v' w' hown2 hg2 hv2
            obtain ⟨o', c', hv'⟩ := slAt_slice hown2.at
            subst hv'
            have hge : ∀ k, (Value.slice oq ds.length cq).ownBlock = some k → w1.heap.size ≤ k := fun k hk => by have := (HO2.out.lt k hk).1; omega
            have hb' : Below w1.heap.size w1 w' := (HB2.out.alloc HB2.out.size _).grown hg2 (by rw [World.size_alloc]; omega) (fun k hk => hge k hk)
            have hln : (ds ++ [(⟨num, (i : Int)⟩ : Dot)]).length = ds.length + 1 := by simp
            rw [hln] at hown2 ⊢
            have HOWN2 := Lib.hid hown2
            have HB3 := Lib.hid hb'
            have HLN := Lib.hid hln
            clear hown2 hg2 hv2 hge hb' hln d0
            go_wp2_with fail
            go_roundg (rules.length - (j + 1))
            case measure => omega
            case rel => exact ⟨j + 1, o', c', ds ++ [(⟨num, (i : Int)⟩ : Dot)], by go_num, (by rw [HLN.out]), by omega, Nat.le_refl _, (by rw [HLN.out]; omega), (by show _ = _; rw [HSN.out, HD.out]; simp), (by show Owns _ _ _ _ _ _ _; rw [HLN.out]; exact HOWN2.out), HB3.out⟩
        · have hltz2 : ¬ (j : Int) < (rules.length : Int) := by omega
          obtain rfl : j = rules.length := by omega
          have HD2 : Hid (ds = overL rules p (i + 1)) := by
            show _ = _
            have h1 := HD.out
            rw [List.take_length] at h1
            rw [overL_succ]
            exact h1
          go_wp2_with fail
          go_roundg (places - (i + 1))
          case measure => omega
          case rel => exact ⟨i + 1, oq, cq, ds, by go_num, rfl, by omega, Nat.le_refl _, by omega, HD2.out, HO.out, HB.out⟩
    · have hltz : ¬ (i : Int) < (places : Int) := by omega
      obtain rfl : i = places := by omega
      have HBZ := Lib.hid (HB1.out.trans (HB.out.mono (by omega)))
      go_wp2_with fail
      go_ret
      exact ⟨oq, ds.length, cq, rfl, (by rw [← HD.out]; exact HO.out.lower (by omega)), HBZ.out⟩
end Go.Proofs.Ytkdjfoehpioghaa
