/-
  dotset.Add walked: a set with a dot more.
-/
import Derived.Test.YtkdjfoehpioghaaDotClose
namespace Go.Proofs.Ytkdjfoehpioghaa
open Go.Shelf Go.RowKit Go.Lib Go.Sort
set_option linter.unusedVariables false
noncomputable def hasB (s : DSet) (d : Dot) : Bool := s.grid d.node.toNat d.seq.toNat
theorem grid_at_ok {s : DSet} {n q : Nat} (h : s.grid n q = true) : n < 8 ∧ 1 ≤ q ∧ q ≤ 96 := s.grid_ok n q h
/-- what Add leaves -/
def AddPost (s : DSet) (d : Dot) (base : Nat) (w : World) (e : Ending) (w' : World) : Prop :=
  ∃ (hd : Hdr) (t : DSet) (c : Int), e = .returned (.tuple #[.agg (qcells (hd, t)).toArray, .int .i64 c]) ∧ Owns Dot.cells 2 base 77 w' hd.val t.more ∧ Below base w w' ∧
    ((¬ May d ∧ c = 2 ∧ t = DSet.none) ∨ (May d ∧ hasB s d = true ∧ c = 9 ∧ t = DSet.none) ∨ (May d ∧ hasB s d = false ∧ c = 0 ∧ Closes (s.grid.put d.node.toNat d.seq.toNat) t))
theorem orAll_one (s : DSet) : orAll [s] = s.grid := by
  unfold orAll
  funext n q
  simp [Grid.or, Grid.none]
theorem alloc3 (w : World) (o0 o1 o2 : Obj) : (((w.alloc o0).alloc o1).alloc o2).heap[w.heap.size]? = some o0 ∧ (((w.alloc o0).alloc o1).alloc o2).heap[w.heap.size + 1]? = some o1 ∧ (((w.alloc o0).alloc o1).alloc o2).heap[w.heap.size + 1 + 1]? = some o2 ∧
    Below w.heap.size w (((w.alloc o0).alloc o1).alloc o2) ∧ (((w.alloc o0).alloc o1).alloc o2).heap.size = w.heap.size + 3 := by
  have s1 : (w.alloc o0).heap.size = w.heap.size + 1 := World.size_alloc _ _
  have s2 : ((w.alloc o0).alloc o1).heap.size = w.heap.size + 1 + 1 := by rw [World.size_alloc, s1]
  refine ⟨?_, ?_, ?_, (((Below.refl _ _).alloc (Nat.le_refl _) _).alloc (by omega) _).alloc (by omega) _, by rw [World.size_alloc, s2]⟩
  · rw [Below.heap_alloc _ _ _ (by omega), Below.heap_alloc _ _ _ (by omega), heap_alloc_new]
  · rw [Below.heap_alloc _ _ _ (by omega), ← s1, heap_alloc_new]
  · rw [← s2, heap_alloc_new]
set_option maxHeartbeats 8000000 in
theorem add_any (oa : Option Addr) (cap : Nat) (s : DSet) (d : Dot) (w : World) (h : SlAt Dot.cells w (.slice oa s.more.length cap) s.more) (hl : s.more.length ≤ 1000000) :
    Calls Try.prog 53 #[.agg #[.int .i64 (s.u 0), .int .i64 (s.u 1), .int .i64 (s.u 2), .int .i64 (s.u 3), .int .i64 (s.u 4), .int .i64 (s.u 5), .int .i64 (s.u 6), .int .i64 (s.u 7), .slice oa s.more.length cap], .agg #[.int .i64 d.node, .int .i64 d.seq]] w (AddPost s d w.heap.size w) := by
  have hmay := fun W => may_any d W
  have HM := Lib.hid hmay
  have HS := Lib.hid h
  clear hmay h
  have h3 := alloc3 w (.cells #[.int .i64 (s.u 0), .int .i64 (s.u 1), .int .i64 (s.u 2), .int .i64 (s.u 3), .int .i64 (s.u 4), .int .i64 (s.u 5), .int .i64 (s.u 6), .int .i64 (s.u 7), .slice oa s.more.length cap] 38) (.cells #[.int .i64 d.node, .int .i64 d.seq] 77) (.cells #[.int .i64 0, .int .i64 0, .int .i64 0, .int .i64 0, .int .i64 0, .int .i64 0, .int .i64 0, .int .i64 0, .slice none 0 0] 38)
  have H3 := Lib.hid h3
  clear h3
  go_enter Try.func53, Try.ntmps53
  go_wp2_with fail
  obtain ⟨hr0, hr1, hr2, hb0, hsz⟩ := H3.out
  clear H3
  generalize ((w.alloc (.cells #[.int .i64 (s.u 0), .int .i64 (s.u 1), .int .i64 (s.u 2), .int .i64 (s.u 3), .int .i64 (s.u 4), .int .i64 (s.u 5), .int .i64 (s.u 6), .int .i64 (s.u 7), .slice oa s.more.length cap] 38)).alloc (.cells #[.int .i64 d.node, .int .i64 d.seq] 77)).alloc (.cells #[.int .i64 0, .int .i64 0, .int .i64 0, .int .i64 0, .int .i64 0, .int .i64 0, .int .i64 0, .int .i64 0, .slice none 0 0] 38) = w1 at *
  refine (HM.out _).mono ?_
  rintro e w2 ⟨rfl, hg2⟩
  have hb2 := hg2.below
  have hz2 := hb2.size
  have r0 := (hb2.block _ (by omega)).trans hr0
  have r1 := (hb2.block _ (by omega)).trans hr1
  have r2 := (hb2.block _ (by omega)).trans hr2
  have HB2 := Lib.hid (hb0.trans (hb2.mono hb0.size))
  clear hb2 hg2 hr0 hr1 hr2 hb0
  have cA : ∀ o, w2.cell? ⟨w.heap.size + 1 + 1, o, none⟩ = (#[.int .i64 0, .int .i64 0, .int .i64 0, .int .i64 0, .int .i64 0, .int .i64 0, .int .i64 0, .int .i64 0, .slice none 0 0] : Array Value)[o]? := fun o => by unfold World.cell?; rw [r2]; rfl
  have fA : ∀ o, w2.frozen? ⟨w.heap.size + 1 + 1, o, none⟩ = false := fun o => by unfold World.frozen?; rw [r2]; simp
  by_cases hm : May d
  · have hmb : mayB d = true := decide_eq_true hm
    have HMY := Lib.hid hm
    simp only [hmb]
    have sA : ∀ o, w2.cell? ⟨w.heap.size, o, none⟩ = (#[.int .i64 (s.u 0), .int .i64 (s.u 1), .int .i64 (s.u 2), .int .i64 (s.u 3), .int .i64 (s.u 4), .int .i64 (s.u 5), .int .i64 (s.u 6), .int .i64 (s.u 7), .slice oa s.more.length cap] : Array Value)[o]? := fun o => by unfold World.cell?; rw [r0]; rfl
    have hof := of_any (some ⟨w2.heap.size, 0, none⟩) 1 [(⟨oa, s.more.length, cap⟩, s)] (w2.alloc (.cells #[.int .i64 (s.u 0), .int .i64 (s.u 1), .int .i64 (s.u 2), .int .i64 (s.u 3), .int .i64 (s.u 4), .int .i64 (s.u 5), .int .i64 (s.u 6), .int .i64 (s.u 7), .slice oa s.more.length cap] 38))
      ⟨slAt_new (enc := qcells) w2 _ _ 1 1 (0, 0) [(⟨oa, s.more.length, cap⟩, s)] rfl rfl (by decide), fun p hp => by
        obtain rfl : p = (⟨oa, s.more.length, cap⟩, s) := by simpa using hp
        exact ⟨HS.out.below Dot.cells_len (by decide) (HB2.out.alloc HB2.out.size _) (Nat.le_refl _), hl⟩⟩ (by simp)
    have HOF := Lib.hid hof
    clear hmb hm hof cA fA
    go_wp2_with fail
    refine HOF.out.mono ?_
    rintro e w3 ⟨gb, rfl, hgb, hgr, hb3⟩
    simp only [List.map_cons, List.map_nil, orAll_one] at hgr
    have hgb2 : w2.heap.size < gb := by rw [World.size_alloc] at hgb; omega
    have hb23 : Below w2.heap.size w2 w3 := ((Below.refl _ _).alloc (Nat.le_refl _) _).trans (hb3.mono (by simp))
    have hz3 := hb23.size
    have q1 := (hb23.block _ (by omega)).trans r1
    have q2 := (hb23.block _ (by omega)).trans r2
    have HB3 := Lib.hid (HB2.out.trans (hb23.mono HB2.out.size))
    have HMB := Lib.hid HMY.out
    have hm := HMY.out
    unfold May at hm
    have gc := hgr.cell d.node.toNat d.seq.toNat (by omega) (by omega)
    have d0 : w3.cell? ⟨w.heap.size + 1, 0, none⟩ = some (.int .i64 d.node) := cell_of_row w3 _ 0 _ _ _ q1
    have d1 : w3.cell? ⟨w.heap.size + 1, 1, none⟩ = some (.int .i64 d.seq) := cell_of_row w3 _ 1 _ _ _ q1
    have HGR := Lib.hid hgr
    clear sA HOF hgr hb3 hb23 r0 r1 r2 hgb
    obtain ⟨hm1, hm2, hm3, hm4⟩ := hm
    cases hh : s.grid d.node.toNat d.seq.toNat with
    | true =>
      rw [hh] at gc
      have HH := Lib.hid hh
      have cA : ∀ o, w3.cell? ⟨w.heap.size + 1 + 1, o, none⟩ = (#[.int .i64 0, .int .i64 0, .int .i64 0, .int .i64 0, .int .i64 0, .int .i64 0, .int .i64 0, .int .i64 0, .slice none 0 0] : Array Value)[o]? := fun o => by unfold World.cell?; rw [q2]; rfl
      have fA : ∀ o, w3.frozen? ⟨w.heap.size + 1 + 1, o, none⟩ = false := fun o => by unfold World.frozen?; rw [q2]; simp
      clear q1 q2 hh
      go_wp2_with fail
      go_quiet (fail)
      go_wp2_with fail
      refine bodyPost_ret (v := .tuple #[.agg #[.int .i64 0, .int .i64 0, .int .i64 0, .int .i64 0, .int .i64 0, .int .i64 0, .int .i64 0, .int .i64 0, .slice none 0 0], .int .i64 9]) (by simp [results, Try.results53, go_sem, cell_set, cA]) rfl ⟨⟨none, 0, 0⟩, DSet.none, 9, rfl, Owns.nil _ _ _ _ _, ?_, .inr (.inl ⟨HMB.out, HH.out, rfl, rfl⟩)⟩
      have hb := HB3.out
      clear cA fA d0 d1 gc
      go_grown
      exact below_drewN' hb nq
    | false =>
      rw [hh] at gc
      have HH := Lib.hid hh
      have hpt := fun W (hW : GridAt W gb s.grid) => put_any gb s.grid d W hW hm1 hm2 (by omega) (by omega)
      have HPT := Lib.hid hpt
      have HQ1 := Lib.hid q1
      have HQ2 := Lib.hid q2
      clear hh hpt q1 q2
      go_wp2_with fail
      go_quiet (fail)
      go_wp2_with fail
      refine (HPT.out (w3.drewN nq) HGR.out).mono ?_
      rintro e w4 ⟨rfl, hgr4, hgw4⟩
      have hgok : (s.grid.put d.node.toNat d.seq.toNat).Ok := s.grid_ok.put (by omega) (by omega) (by omega)
      have hz4 := hgw4.size
      have q24 := (hgw4.block _ (by show _ < w3.heap.size; omega) (fun e => by have := Option.some.inj e; omega)).trans HQ2.out
      have HB4 := Lib.hid ((below_drewN' HB3.out nq).grown hgw4 (HB3.out.size) (fun k hk => by cases hk; omega))
      have hcl := close_any gb _ hgok w4 hgr4
      have HCL := Lib.hid hcl
      clear hcl hgr4 hgw4 hgok gc d0 d1 HPT HQ1 HQ2 HGR
      go_wp2_with fail
      refine HCL.out.mono ?_
      rintro e w5 ⟨⟨o5, n5, c5⟩, ⟨u5, m5⟩, rfl, hcs, hown, hb5⟩
      have q25 := (hb5.block _ (by simp at hz4; omega)).trans q24
      have cA : ∀ o, w5.cell? ⟨w.heap.size + 1 + 1, o, none⟩ = (#[.int .i64 0, .int .i64 0, .int .i64 0, .int .i64 0, .int .i64 0, .int .i64 0, .int .i64 0, .int .i64 0, .slice none 0 0] : Array Value)[o]? := fun o => by unfold World.cell?; rw [q25]; rfl
      have fA : ∀ o, w5.frozen? ⟨w.heap.size + 1 + 1, o, none⟩ = false := fun o => by unfold World.frozen?; rw [q25]; simp
      have HB5 := Lib.hid (HB4.out.trans (hb5.mono HB4.out.size))
      have HCS := Lib.hid hcs
      have HOW := Lib.hid hown
      have hz4' : w3.heap.size ≤ w4.heap.size := hz4
      clear q24 q25 hb5 hcs hown HCL
      simp only [qcells, Hdr.val]
      go_wp2_with fail
      refine bodyPost_ret (v := .tuple #[.agg #[.int .i64 (u5 0), .int .i64 (u5 1), .int .i64 (u5 2), .int .i64 (u5 3), .int .i64 (u5 4), .int .i64 (u5 5), .int .i64 (u5 6), .int .i64 (u5 7), .slice o5 n5 c5], .int .i64 0]) (by simp [results, Try.results53, go_sem, cell_set, cA]) rfl ⟨⟨o5, n5, c5⟩, ⟨u5, m5⟩, 0, rfl, ?_, ?_, .inr (.inr ⟨HMB.out, HH.out, rfl, HCS.out⟩)⟩
      · refine (HOW.out.keep fun b hb => ?_).lower (by omega)
        have hbb := (HOW.out.lt b hb).1
        have key : ∀ (W : World) (o : Nat) (u : Value), (W.setCell ⟨w.heap.size + 1 + 1, o, none⟩ u).heap[b]? = W.heap[b]? := fun W o u => Below.heap_setCell _ _ _ _ (by show b ≠ w.heap.size + 1 + 1; omega)
        simp only [key]
      · have hb := HB5.out
        clear cA fA
        go_grown
  · have hmb : mayB d = false := decide_eq_false hm
    have HNM := Lib.hid hm
    simp only [hmb]
    clear hm hmb r0 r1 r2 hz2
    go_wp2_with fail
    refine bodyPost_ret (v := .tuple #[.agg #[.int .i64 0, .int .i64 0, .int .i64 0, .int .i64 0, .int .i64 0, .int .i64 0, .int .i64 0, .int .i64 0, .slice none 0 0], .int .i64 2]) (by simp [results, Try.results53, go_sem, cell_set, cA]) rfl ⟨⟨none, 0, 0⟩, DSet.none, 2, rfl, Owns.nil _ _ _ _ _, ?_, .inl ⟨HNM.out, rfl, rfl⟩⟩
    have hb := HB2.out
    clear cA fA
    go_grown
end Go.Proofs.Ytkdjfoehpioghaa
