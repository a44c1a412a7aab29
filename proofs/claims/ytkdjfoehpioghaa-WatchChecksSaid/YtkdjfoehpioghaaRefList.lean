/-
  The document's own reckoning of a set of dots: List and Less.
-/
import Derived.Test.YtkdjfoehpioghaaRefHas
namespace Go.Proofs.Ytkdjfoehpioghaa
open Go.Shelf Go.RowKit Go.Lib Go.Sort
set_option linter.unusedVariables false
theorem gridAt_98 (g : Grid) (n q : Nat) (hq : q < 98) : gridAt g (n * 98 + q) = g n q := by
  unfold gridAt
  rw [show (n * 98 + q) / 98 = n by omega, show (n * 98 + q) % 98 = q by omega]
theorem dotAt_98 (n q : Nat) (hq : q < 98) : dotAt (n * 98 + q) = ⟨(n : Int), (q : Int)⟩ := by
  unfold dotAt
  rw [show (n * 98 + q) / 98 = n by omega, show (n * 98 + q) % 98 = q by omega]
theorem row_first {g : Grid} (hg : g.Ok) (n : Nat) : dotsTo g (n * 98 + 1) = dotsTo g (n * 98) := by
  refine dotsTo_no ?_
  have h := gridAt_98 g n 0 (by omega)
  rw [Nat.add_zero] at h
  rw [h]
  cases e : g n 0 with
  | false => rfl
  | true => have := hg n 0 e; omega
theorem row_last {g : Grid} (hg : g.Ok) (n : Nat) : dotsTo g ((n + 1) * 98) = dotsTo g (n * 98 + 97) := by
  rw [show (n + 1) * 98 = n * 98 + 97 + 1 by omega]
  refine dotsTo_no ?_
  rw [gridAt_98 g n 97 (by omega)]
  cases e : g n 97 with
  | false => rfl
  | true => have := hg n 97 e; omega
set_option maxHeartbeats 8000000 in
theorem refList_any (oa : Option Addr) (cap : Nat) (s : DSet) (w : World) (h : SlAt Dot.cells w (.slice oa s.more.length cap) s.more) (hl : s.more.length ≤ 1000000) :
    Calls Try.prog 29 #[.agg #[.int .i64 (s.u 0), .int .i64 (s.u 1), .int .i64 (s.u 2), .int .i64 (s.u 3), .int .i64 (s.u 4), .int .i64 (s.u 5), .int .i64 (s.u 6), .int .i64 (s.u 7), .slice oa s.more.length cap]] w fun e w' => ∃ o n c, e = .returned (.slice o n c) ∧ Owns Dot.cells 2 w.heap.size 77 w' (.slice o n c) (dotsOf s.grid) ∧ Below w.heap.size w w' := by
  have hb1 := (Below.refl w.heap.size w).alloc (Nat.le_refl _) (.cells #[.int .i64 (s.u 0), .int .i64 (s.u 1), .int .i64 (s.u 2), .int .i64 (s.u 3), .int .i64 (s.u 4), .int .i64 (s.u 5), .int .i64 (s.u 6), .int .i64 (s.u 7), .slice oa s.more.length cap] 25)
  have hr1 : (w.alloc (.cells #[.int .i64 (s.u 0), .int .i64 (s.u 1), .int .i64 (s.u 2), .int .i64 (s.u 3), .int .i64 (s.u 4), .int .i64 (s.u 5), .int .i64 (s.u 6), .int .i64 (s.u 7), .slice oa s.more.length cap] 25)).heap[w.heap.size]? = _ := heap_alloc_new w _
  have hz1 : (w.alloc (.cells #[.int .i64 (s.u 0), .int .i64 (s.u 1), .int .i64 (s.u 2), .int .i64 (s.u 3), .int .i64 (s.u 4), .int .i64 (s.u 5), .int .i64 (s.u 6), .int .i64 (s.u 7), .slice oa s.more.length cap] 25)).heap.size = w.heap.size + 1 := World.size_alloc _ _
  have HSL := Lib.hid (h.below Dot.cells_len (by decide) hb1 (Nat.le_refl _))
  have HB1 := Lib.hid hb1
  have HR1 := Lib.hid hr1
  obtain ⟨g, hg⟩ : ∃ g, s.grid = g := ⟨_, rfl⟩
  have hgok : g.Ok := by rw [← hg]; exact s.grid_ok
  have HGR := Lib.hid hg
  have HOK := Lib.hid hgok
  rw [hg]
  clear hb1 hr1 h hg hgok
  go_enter Try.func29, Try.ntmps29
  go_wp2_with fail
  generalize w.alloc (.cells #[.int .i64 (s.u 0), .int .i64 (s.u 1), .int .i64 (s.u 2), .int .i64 (s.u 3), .int .i64 (s.u 4), .int .i64 (s.u 5), .int .i64 (s.u 6), .int .i64 (s.u 7), .slice oa s.more.length cap] 25) = w1 at *
  go_loopg [3, 4] 8 (fun gk s3 s4 wr => ∃ (n : Nat) (oq : Option Addr) (cq : Nat) (ds : List Dot), s4 = .int .i64 n ∧ s3 = .slice oq ds.length cq ∧ n ≤ 8 ∧ 8 - n ≤ gk ∧ ds.length ≤ n * 98 ∧ Hid (ds = dotsTo g (n * 98)) ∧ Hid (Owns Dot.cells 2 (w.heap.size + 1) 77 wr (.slice oq ds.length cq) ds) ∧ Hid (Below w1.heap.size w1 wr))
  case atStart => exact ⟨0, none, 0, [], rfl, rfl, by omega, by omega, by simp, by show _ = _; rw [Nat.zero_mul, dotsTo_zero], Owns.nil _ _ _ _ _, Below.refl _ _⟩
  case round =>
    obtain ⟨n, oq, cq, ds, rfl, rfl, hn, hgk, hdl, HD, HO, HB⟩ := hrel
    by_cases hlt : n < 8
    · have hltz : (n : Int) < 8 := by omega
      have HD1 : Hid (ds = dotsTo g (n * 98 + 1)) := by show _ = _; rw [row_first HOK.out]; exact HD.out
      go_wp2_with fail
      go_loopg [3, 5] 97 (fun gk s3 s5 wr => ∃ (q : Nat) (oq : Option Addr) (cq : Nat) (ds : List Dot), s5 = .int .i64 q ∧ s3 = .slice oq ds.length cq ∧ 1 ≤ q ∧ q ≤ 97 ∧ 97 - q ≤ gk ∧ ds.length ≤ n * 98 + q ∧ Hid (ds = dotsTo g (n * 98 + q)) ∧ Hid (Owns Dot.cells 2 (w.heap.size + 1) 77 wr (.slice oq ds.length cq) ds) ∧ Hid (Below w1.heap.size w1 wr))
      case atStart => exact ⟨1, oq, cq, ds, rfl, rfl, by omega, by omega, by omega, by omega, HD1.out, HO.out, HB.out⟩
      case round =>
        obtain ⟨q, oq, cq, ds, rfl, rfl, hq1, hq2, hgq, hdl, HD, HO, HB⟩ := hrel
        have hszw := HB.out.size
        by_cases hltq : q ≤ 96
        · have hltz2 : (q : Int) ≤ 96 := by omega
          have hmy : May ⟨(n : Int), (q : Int)⟩ := ⟨by show (0 : Int) ≤ (n : Int); omega, by show (n : Int) < 8; omega, by show (1 : Int) ≤ (q : Int); omega, by show (q : Int) ≤ 96; omega⟩
          have hba := (Below.refl wr.heap.size wr).alloc (Nat.le_refl _) (.cells #[.int .i64 (n : Int), .int .i64 (q : Int)] 77)
          have hza : (wr.alloc (.cells #[.int .i64 (n : Int), .int .i64 (q : Int)] 77)).heap.size = wr.heap.size + 1 := World.size_alloc _ _
          have hra : (wr.alloc (.cells #[.int .i64 (n : Int), .int .i64 (q : Int)] 77)).heap[wr.heap.size]? = some (.cells #[.int .i64 (n : Int), .int .i64 (q : Int)] 77) := heap_alloc_new wr _
          have p1 := (hba.block w.heap.size (by omega)).trans ((HB.out.block _ (by omega)).trans HR1.out)
          have sA := fun o => cell_of_row _ w.heap.size o _ _ _ p1
          have hbw1 : Below w1.heap.size w1 (wr.alloc (.cells #[.int .i64 (n : Int), .int .i64 (q : Int)] 77)) := HB.out.trans (hba.mono hszw)
          have hhas := refHas_any oa cap s ⟨(n : Int), (q : Int)⟩ hmy _ (HSL.out.below Dot.cells_len (by decide) hbw1 (Nat.le_refl _)) hl
          simp only [HGR.out, Int.toNat_natCast] at hhas
          have hat := gridAt_98 g n q (by omega)
          have hda := dotAt_98 n q (by omega)
          obtain ⟨c, hc⟩ : ∃ c, g n q = c := ⟨_, rfl⟩
          rw [hc] at hhas hat
          have HHAS := Lib.hid hhas
          have HAT := Lib.hid hat
          have HDA := Lib.hid hda
          have HBA := Lib.hid hba
          have HBW := Lib.hid hbw1
          have HRA := Lib.hid hra
          clear hmy hba p1 hbw1 hhas hat hda hc hra
          go_wp2_with fail
          generalize wr.alloc (.cells #[.int .i64 (n : Int), .int .i64 (q : Int)] 77) = wa at *
          refine HHAS.out.mono ?_
          rintro e w2 ⟨rfl, hb2⟩
          have hz2 := hb2.size
          have HB2 := Lib.hid (HBW.out.trans (hb2.mono (by omega)))
          have HO2 := Lib.hid ((HO.out.below HBA.out (Nat.le_refl _)).below hb2 (Nat.le_refl _))
          have hr2 := (hb2.block wr.heap.size (by omega)).trans HRA.out
          have d0 := cell_of_row _ wr.heap.size 0 _ _ _ hr2
          have d1 := cell_of_row _ wr.heap.size 1 _ _ _ hr2
          clear hb2 hr2 HHAS HBA HRA HBW HO HB sA
          cases c with
          | false =>
            clear d0 d1
            go_wp2_with fail
            go_roundg (97 - (q + 1))
            case measure => omega
            case rel => exact ⟨q + 1, oq, cq, ds, by go_num, rfl, by omega, by omega, Nat.le_refl _, by omega, (by show _ = _; rw [show n * 98 + (q + 1) = n * 98 + q + 1 by omega, dotsTo_no HAT.out]; exact HD.out), HO2.out, HB2.out⟩
          | true =>
            go_wp2_with (at_builtin; go_loud (refine wpList_app Dot.cells 2 Dot.cells_len (by decide) Dot.cells_one _ rfl _ _ 23 rfl (w.heap.size + 1) 77 _ 16 Try.underlying23 infoDot rfl _ ds rfl ?h1 _ [(⟨(n : Int), (q : Int)⟩ : Dot)] rfl ?h2 ?h3 ?h4 ?h5 ?_))
            case h1 => exact HO2.out.below ((Below.refl _ _).alloc (Nat.le_refl _) _) (Nat.le_refl _)
            case h2 => exact slAt_new (enc := Dot.cells) w2 #[.int .i64 (n : Int), .int .i64 (q : Int)] 77 1 1 (0, 0) [(⟨(n : Int), (q : Int)⟩ : Dot)] rfl rfl (by decide)
            case h3 => simp only [List.length_singleton]; omega
            case h4 => simp only [List.length_singleton]; omega
            case h5 => rw [World.size_alloc]; omega
            intro v' w' hown2 hg2 hv2
            obtain ⟨o', c', hv'⟩ := slAt_slice hown2.at
            subst hv'
            have hge : ∀ k, (Value.slice oq ds.length cq).ownBlock = some k → w1.heap.size ≤ k := fun k hk => by have := (HO2.out.lt k hk).1; omega
            have hb' : Below w1.heap.size w1 w' := (HB2.out.alloc HB2.out.size _).grown hg2 (by rw [World.size_alloc]; omega) (fun k hk => hge k hk)
            have hln : (ds ++ [(⟨(n : Int), (q : Int)⟩ : Dot)]).length = ds.length + 1 := by simp
            rw [hln] at hown2 ⊢
            have HOWN2 := Lib.hid hown2
            have HB3 := Lib.hid hb'
            have HLN := Lib.hid hln
            clear hown2 hg2 hv2 hge hb' hln d0 d1
            go_wp2_with fail
            go_roundg (97 - (q + 1))
            case measure => omega
            case rel => exact ⟨q + 1, o', c', ds ++ [(⟨(n : Int), (q : Int)⟩ : Dot)], by go_num, (by rw [HLN.out]), by omega, by omega, Nat.le_refl _, (by rw [HLN.out]; omega), (by show _ = _; rw [show n * 98 + (q + 1) = n * 98 + q + 1 by omega, dotsTo_yes HAT.out, ← HD.out, HDA.out]), (by show Owns _ _ _ _ _ _ _; rw [HLN.out]; exact HOWN2.out), HB3.out⟩
        · have hltz2 : ¬ (q : Int) ≤ 96 := by omega
          obtain rfl : q = 97 := by omega
          have HD2 : Hid (ds = dotsTo g ((n + 1) * 98)) := by show _ = _; rw [row_last HOK.out]; exact HD.out
          go_wp2_with fail
          go_roundg (8 - (n + 1))
          case measure => omega
          case rel => exact ⟨n + 1, oq, cq, ds, by go_num, rfl, by omega, Nat.le_refl _, by omega, HD2.out, HO.out, HB.out⟩
    · have hltz : ¬ (n : Int) < 8 := by omega
      obtain rfl : n = 8 := by omega
      have HB2 := Lib.hid (HB1.out.trans (HB.out.mono (by omega)))
      go_wp2_with fail
      go_ret
      exact ⟨oq, ds.length, cq, rfl, (by
        have h1 : ds = dotsOf g := HD.out
        rw [← h1]
        exact HO.out.lower (by omega)), HB2.out⟩
end Go.Proofs.Ytkdjfoehpioghaa
