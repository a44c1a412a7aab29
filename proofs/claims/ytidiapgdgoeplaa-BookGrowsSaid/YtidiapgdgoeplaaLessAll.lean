/-
  dotset.Less walked where the other set has all: slices.IndexFunc and slices.DeleteFunc at dots that are all struck.
-/
import Derived.Test.YtidiapgdgoeplaaDotList
import Derived.Test.YtidiapgdgoeplaaBookOwn
namespace Go.Proofs.Ytidiapgdgoeplaa
open Go.Shelf Go.RowKit Go.Lib Go.Sort
set_option linter.unusedVariables false
theorem list2_any' (oa : Option Addr) (cap : Nat) (s : DSet) (w : World) (h : SlAt Dot.cells w (.slice oa s.more.length cap) s.more) (hl : s.more.length ≤ 1000000) :
    Calls Try.prog 21 #[.agg #[.int .i64 (s.u 0), .int .i64 (s.u 1), .int .i64 (s.u 2), .int .i64 (s.u 3), .int .i64 (s.u 4), .int .i64 (s.u 5), .int .i64 (s.u 6), .int .i64 (s.u 7), .slice oa s.more.length cap]] w fun e w' => ∃ oh n c, e = .returned (.slice oh n c) ∧ Owns Dot.cells 2 w.heap.size 28 w' (.slice oh n c) (dotsOf s.grid) ∧ Below w.heap.size w w' := by
  refine (list_any oa cap s w h hl).mono ?_
  rintro e w' ⟨⟨o, n, c⟩, rfl, h1, h2⟩
  exact ⟨o, n, c, rfl, h1, h2⟩
/-- a function value that strikes each of these -/
def Strikes (K : Nat) (free : Array Value) (w : World) (l : List Dot) : Prop := ∀ d ∈ l, ∀ W, Below w.heap.size w W → Calls Try.prog K (#[.agg #[.int .i64 d.node, .int .i64 d.seq]] ++ free) W fun e w' => e = .returned (.bool true) ∧ Below W.heap.size W w'
set_option maxHeartbeats 4000000 in
theorem indexFirst_any (K : Nat) (free : Array Value) (eg : ∀ args w, (callFunc K args).run Try.prog w = .ok (.enter K args) w) (oa : Option Addr) (cap : Nat) (d : Dot) (t : List Dot) (w : World) (h : SlAt Dot.cells w (.slice oa (d :: t).length cap) (d :: t)) (hs : Strikes K free w (d :: t)) :
    Calls Try.prog 52 #[.slice oa (d :: t).length cap, .func (.func K) #[] free] w fun e w' => e = .returned (.int .i64 0) ∧ Below w.heap.size w w' := by
  obtain ⟨b, off, rfl⟩ := h.plain Dot.cells_len (by decide) (by simp)
  have c0 := h.cell Dot.cells_len (i := 0) (c := 0) (by simp) (by decide)
  have c1 := h.cell Dot.cells_len (i := 0) (c := 1) (by simp) (by decide)
  simp only [Dot.cells, List.getElem?_cons_zero, List.getElem?_cons_succ, List.getElem_cons_zero] at c0 c1
  rw [show off + (0 * 2 + 0) = off by omega] at c0
  rw [show off + (0 * 2 + 1) = off + 1 by omega] at c1
  have hst := hs d (by simp)
  have hw : ∀ W, Below w.heap.size w W → W.cell? ⟨b, off, none⟩ = some (.int .i64 d.node) ∧ W.cell? ⟨b, off + 1, none⟩ = some (.int .i64 d.seq) := fun W hb => by
    have hlt : b < w.heap.size := h.lt Dot.cells_len (by decide) (by simp) b rfl
    have hbl := hb.block b hlt
    unfold World.cell? at c0 c1 ⊢
    rw [hbl]
    exact ⟨c0, c1⟩
  have HST := Lib.hid hst
  have HW := Lib.hid hw
  obtain ⟨n, hn⟩ : ∃ n, (d :: t).length = n := ⟨_, rfl⟩
  have hn0 : 0 < n := by rw [← hn]; simp
  have hnz : (0 : Int) < (n : Int) := by omega
  rw [hn]
  clear hst hs h hn c0 c1 hw
  go_enter Try.func52, Try.ntmps52
  go_wp2_with fail
  go_loopg [5, 8] 1 (fun gk s5 s8 wr => s8 = .int .i64 0 ∧ Hid (Below w.heap.size w wr))
  case atStart => exact ⟨rfl, Below.refl _ _⟩
  case round =>
    obtain ⟨rfl, HB0⟩ := hrel
    obtain ⟨c0, c1⟩ := HW.out wr HB0.out
    have hst := HST.out wr HB0.out
    have HS1 := Lib.hid hst
    clear hst HST HW
    go_wp2_with fail
    refine HS1.out.mono ?_
    rintro e w1 ⟨rfl, hb⟩
    have HB := Lib.hid (HB0.out.trans (hb.mono HB0.out.size))
    clear hb HS1
    go_wp2_with fail
    go_ret
    exact ⟨rfl, HB.out⟩
theorem run_clear2 (w : World) (ty : TypeId) (b o n c : Nat) (hn : 0 < n) (hc : ∀ j, j < n * 2 → (w.cell? ⟨b, o + j, none⟩).isSome = true) (hf : ∀ j, j < n * 2 → w.frozen? ⟨b, o + j, none⟩ = false) :
    ∃ w', (Builtin.clear_ #[31] ty #[.slice (some ⟨b, o, none⟩) n c]).run Try.prog w = .ok (.tuple #[]) w' ∧ w.grownBy w' (some b) := by
  have hv : ∀ w, (zeroValue 28).run Try.prog w = .ok (.agg #[.int .i64 0, .int .i64 0]) w := Try.zeroValue28
  obtain ⟨vs, hvs⟩ : ∃ vs, (Builtin.zeroCells (Value.cells (.agg #[.int .i64 0, .int .i64 0])) n).toList = vs := ⟨_, rfl⟩
  have hl : vs.length = n * 2 := by rw [← hvs]; simp [Builtin.zeroCells, Value.cells]
  have h1 : ∀ v ∈ vs, v.oneCell' = true := by
    intro v hv
    rw [← hvs] at hv
    simp [Builtin.zeroCells, Value.cells] at hv
    obtain ⟨j, hj, rfl⟩ := hv
    have : j % 2 = 0 ∨ j % 2 = 1 := by omega
    rcases this with h | h <;> simp [h, Value.oneCell']
  have hst := run_storeCells_cells (P := Try.prog) b o vs 0 w (by simpa [hl] using hc) (by simpa [hl] using hf) h1
  simp only [Nat.add_zero] at hst
  obtain ⟨m, rfl⟩ : ∃ m, n = m + 1 := ⟨n - 1, by omega⟩
  refine ⟨w.setCells b o vs, ?_, ?_⟩
  · simp [Builtin.clear_, hv, hvs, hst]
  · have key : ∀ (vs : List Value) (o : Nat) (x : World), w.grownBy x (some b) → w.grownBy (x.setCells b o vs) (some b) := by
      intro vs
      induction vs with
      | nil => intro o x h; exact h
      | cons v vs ih => intro o x h; exact ih _ _ (grown_set h v)
    exact key vs o w (World.grownBy.refl _ _)
theorem owns_free {α : Type} {enc : α → List Value} {k base e : Nat} {w : World} {g off n cap : Nat} {l : List α} (h : Owns enc k base e w (.slice (some ⟨g, off, none⟩) n cap) l) (o : Nat) : w.frozen? ⟨g, o, none⟩ = false := by
  rcases h.2 with ⟨h, _⟩ | ⟨g', cap', cur, hv, hb, hh, hc, hm, hs, ht⟩
  · cases h
  · simp only [Value.slice.injEq, Option.some.injEq, Addr.mk.injEq] at hv
    obtain ⟨⟨rfl, _, _⟩, _, _⟩ := hv
    simp [World.frozen?, hh]
set_option maxHeartbeats 8000000 in
theorem deleteAll_any (K : Nat) (free : Array Value) (eg : ∀ args w, (callFunc K args).run Try.prog w = .ok (.enter K args) w) (oa : Option Addr) (cap : Nat) (l : List Dot) (w : World) (base : Nat) (hB : base ≤ w.heap.size) (h : Owns Dot.cells 2 base 28 w (.slice oa l.length cap) l) (hl : l.length ≤ 1000000) (hs : Strikes K free w l) :
    Calls Try.prog 39 #[.slice oa l.length cap, .func (.func K) #[] free] w fun e w' => ∃ o c, e = .returned (.slice o 0 c) ∧ Below base w w' := by
  cases l with
  | nil =>
    have hix : Calls Try.prog 52 #[.slice oa 0 cap, .func (.func K) #[] free] w fun e w' => e = .returned (.int .i64 (-1)) ∧ w' = w := by
      clear h hs eg
      go_enter Try.func52, Try.ntmps52
      go_wp2_with fail
      go_loopg [5, 8] 1 (fun gk s5 s8 wr => s8 = .int .i64 0 ∧ Hid (wr = w))
      case atStart => exact ⟨rfl, rfl⟩
      case round =>
        obtain ⟨rfl, HW⟩ := hrel
        go_wp2_with fail
        go_ret
        exact ⟨rfl, HW.out⟩
    have HIX := Lib.hid hix
    clear hix h hs eg
    simp only [List.length_nil]
    go_enter Try.func39, Try.ntmps39
    go_wp2_with fail
    refine HIX.out.mono ?_
    rintro e w1 ⟨rfl, rfl⟩
    go_wp2_with fail
    go_ret
    exact ⟨_, _, rfl, Below.refl _ _⟩
  | cons d t =>
    have hix := indexFirst_any K free eg oa cap d t w h.at hs
    obtain ⟨b, off, rfl⟩ := h.at.plain Dot.cells_len (by decide) (by simp)
    have hbb : base ≤ b ∧ b < w.heap.size := h.lt b rfl
    have hcap : (d :: t).length ≤ cap := by
      obtain ⟨_, _, hv, hc⟩ := h.at.slice_of
      simp only [Value.slice.injEq] at hv
      omega
    have hcell : ∀ W, Below w.heap.size w W → ∀ i (hi : i < (d :: t).length), W.cell? ⟨b, off + i * 2, none⟩ = some (.int .i64 (d :: t)[i].node) ∧ W.cell? ⟨b, off + i * 2 + 1, none⟩ = some (.int .i64 (d :: t)[i].seq) := fun W hb i hi => by
      have hsl := h.at.below Dot.cells_len (by decide) hb (Nat.le_refl _)
      have c0 := hsl.cell Dot.cells_len (i := i) (c := 0) hi (by decide)
      have c1 := hsl.cell Dot.cells_len (i := i) (c := 1) hi (by decide)
      simp only [Dot.cells, List.getElem?_cons_zero, List.getElem?_cons_succ] at c0 c1
      exact ⟨by rw [show off + i * 2 = off + (i * 2 + 0) by omega]; exact c0, by rw [show off + i * 2 + 1 = off + (i * 2 + 1) by omega]; exact c1⟩
    have hfr : ∀ W, Below w.heap.size w W → ∀ o, W.frozen? ⟨b, o, none⟩ = false := fun W hb o => by
      have h1 := h.below hb (Nat.le_refl _)
      exact owns_free h1 o
    have hclr : ∀ W, Below w.heap.size w W → ∀ ty, ∃ w', (Builtin.clear_ #[31] ty #[.slice (some ⟨b, off, none⟩) (d :: t).length cap]).run Try.prog W = .ok (.tuple #[]) w' ∧ W.grownBy w' (some b) := fun W hb ty =>
      run_clear2 W ty b off _ cap (by simp) (fun j hj => by
        have h1 := hcell W hb (j / 2) (by omega)
        have : j % 2 = 0 ∨ j % 2 = 1 := by omega
        rcases this with h2 | h2
        · rw [show off + j = off + j / 2 * 2 by omega, h1.1]; rfl
        · rw [show off + j = off + j / 2 * 2 + 1 by omega, h1.2]; rfl) (fun j _ => hfr W hb _)
    obtain ⟨n, hn⟩ : ∃ n, (d :: t).length = n := ⟨_, rfl⟩
    have hn0 : 0 < n := by rw [← hn]; simp
    have HIX := Lib.hid hix
    have HC := Lib.hid hcell
    have HS := Lib.hid hs
    have HCL := Lib.hid hclr
    rw [hn] at hcap hl HIX HCL ⊢
    have hc0 : ¬ cap = 0 := by omega
    have HN := Lib.hid hn
    clear hix hcell hs hclr hfr h hn
    go_enter Try.func39, Try.ntmps39
    go_wp2_with fail
    refine HIX.out.mono ?_
    rintro e w1 ⟨rfl, hb1⟩
    have HB1 := Lib.hid hb1
    clear hb1 HIX
    go_wp2_with fail
    go_loopg [5, 6, 7] n (fun gk s5 s6 s7 wr => ∃ (j : Nat), s5 = .int .i64 0 ∧ s6 = .int .i64 j ∧ j ≤ n ∧ n - j ≤ gk ∧ Hid (Below w.heap.size w wr))
    case atStart => exact ⟨1, rfl, rfl, by omega, by omega, HB1.out⟩
    case round =>
      obtain ⟨j, rfl, rfl, hj, hg, HB⟩ := hrel
      by_cases hlt : j < n
      · have hltz : (j : Int) < (n : Int) := by omega
        have hjl : j < (d :: t).length := by rw [HN.out]; exact hlt
        obtain ⟨c0, c1⟩ := HC.out wr HB.out j hjl
        have hmem : (d :: t)[j] ∈ d :: t := List.getElem_mem hjl
        have hst := fun W hb => HS.out _ hmem W hb
        generalize (d :: t)[j] = x at *
        have HST := Lib.hid hst
        clear hst hmem hjl
        go_wp2_with fail
        refine (HST.out _ (HB.out.alloc HB.out.size _)).mono ?_
        rintro e w2 ⟨rfl, hb2⟩
        have HB2 := Lib.hid ((HB.out.alloc HB.out.size (.cells #[.int .i64 x.node, .int .i64 x.seq] 28)).trans (hb2.mono (by have := HB.out.size; rw [World.size_alloc]; omega)))
        clear hb2 HST c0 c1
        go_wp2_with fail
        go_roundg (n - (j + 1))
        case measure => omega
        case rel => exact ⟨j + 1, rfl, by go_num, by omega, Nat.le_refl _, HB2.out⟩
      · have hltz : ¬ (j : Int) < (n : Int) := by omega
        obtain rfl : j = n := by omega
        obtain ⟨w2, hrun, hg2⟩ := HCL.out wr HB.out 0
        have HG2 := Lib.hid hg2
        clear hg2
        go_wp2_with fail
        go_ret
        exact ⟨⟨_, _, rfl⟩, (HB.out.mono (by omega)).grown HG2.out (by have := HB.out.size; omega) (fun k hk => by cases hk; omega)⟩
theorem deleteAll2_any (K : Nat) (free : Array Value) (eg : ∀ args w, (callFunc K args).run Try.prog w = .ok (.enter K args) w) (oa : Option Addr) (n cap : Nat) (l : List Dot) (w : World) (base : Nat) (hB : base ≤ w.heap.size) (h : Owns Dot.cells 2 base 28 w (.slice oa n cap) l) (hl : l.length ≤ 1000000) (hs : Strikes K free w l) :
    Calls Try.prog 39 #[.slice oa n cap, .func (.func K) #[] free] w fun e w' => ∃ o c, e = .returned (.slice o 0 c) ∧ Below base w w' := by
  obtain rfl : n = l.length := by
    obtain ⟨_, _, hv, _⟩ := h.at.slice_of
    simp only [Value.slice.injEq] at hv
    exact hv.2.1
  exact deleteAll_any K free eg oa cap l w base hB h hl hs
set_option maxHeartbeats 4000000 in
theorem lessFn_any (ob gb : Nat) (g : Grid) (d : Dot) (hm : May d) (w : World) (ho : w.heap[ob]? = some (.cells #[.pointer (some ⟨gb, 0, none⟩)] 68)) (hg : GridAt w gb g) :
    Calls Try.prog 40 #[.agg #[.int .i64 d.node, .int .i64 d.seq], .pointer (some ⟨ob, 0, none⟩)] w fun e w' => e = .returned (.bool (g d.node.toNat d.seq.toNat)) ∧ Below w.heap.size w w' := by
  have hb1 := (Below.refl w.heap.size w).alloc (Nat.le_refl _) (.cells #[.int .i64 d.node, .int .i64 d.seq] 28)
  unfold May at hm
  obtain ⟨hm1, hm2, hm3, hm4⟩ := hm
  have hm5 : d.seq < 98 := by omega
  have hm6 : 0 ≤ d.seq := by omega
  have c0 := cell_of_row _ ob 0 _ _ _ ((hb1.block ob (Array.getElem?_eq_some_iff.1 ho).1).trans ho)
  have gc := (hg.below hb1 hg.lt).cell d.node.toNat d.seq.toNat (by omega) (by omega)
  have hr0 : (w.alloc (.cells #[.int .i64 d.node, .int .i64 d.seq] 28)).heap[w.heap.size]? = _ := heap_alloc_new w _
  have d0 := cell_of_row _ w.heap.size 0 _ _ _ hr0
  have d1 := cell_of_row _ w.heap.size 1 _ _ _ hr0
  have HB1 := Lib.hid hb1
  clear hb1 hr0 ho hg
  go_enter Try.func40, Try.ntmps40
  go_wp2_with fail
  go_region_law (fail)
  all_goals
    go_wp2_with fail
    go_ret
    exact ⟨rfl, below_drew HB1.out⟩
set_option maxHeartbeats 8000000 in
theorem lessAll_any (oa ob : Option Addr) (ca cb : Nat) (s t : DSet) (w : World) (h : SlAt Dot.cells w (.slice oa s.more.length ca) s.more) (k : SlAt Dot.cells w (.slice ob t.more.length cb) t.more) (hl : s.more.length ≤ 1000000) (kl : t.more.length ≤ 1000000) (hsub : ∀ d ∈ dotsOf s.grid, t.grid d.node.toNat d.seq.toNat = true) :
    Calls Try.prog 20 #[.agg #[.int .i64 (s.u 0), .int .i64 (s.u 1), .int .i64 (s.u 2), .int .i64 (s.u 3), .int .i64 (s.u 4), .int .i64 (s.u 5), .int .i64 (s.u 6), .int .i64 (s.u 7), .slice oa s.more.length ca], .agg #[.int .i64 (t.u 0), .int .i64 (t.u 1), .int .i64 (t.u 2), .int .i64 (t.u 3), .int .i64 (t.u 4), .int .i64 (t.u 5), .int .i64 (t.u 6), .int .i64 (t.u 7), .slice ob t.more.length cb]] w fun e w' => ∃ o c, e = .returned (.slice o 0 c) ∧ Below w.heap.size w w' := by
  have eg : ∀ args w, (callFunc 40 args).run Try.prog w = .ok (.enter 40 args) w := enters_of Try.func40 (by kernel_rfl) rfl
  obtain ⟨r0, r1, hb2, hs2⟩ := alloc2 w (.cells #[.int .i64 (s.u 0), .int .i64 (s.u 1), .int .i64 (s.u 2), .int .i64 (s.u 3), .int .i64 (s.u 4), .int .i64 (s.u 5), .int .i64 (s.u 6), .int .i64 (s.u 7), .slice oa s.more.length ca] 42) (.cells #[.int .i64 (t.u 0), .int .i64 (t.u 1), .int .i64 (t.u 2), .int .i64 (t.u 3), .int .i64 (t.u 4), .int .i64 (t.u 5), .int .i64 (t.u 6), .int .i64 (t.u 7), .slice ob t.more.length cb] 42)
  have HS2 := Lib.hid (h.below Dot.cells_len (by decide) hb2 (Nat.le_refl _))
  have hof := of_one ob cb t _ (k.below Dot.cells_len (by decide) hb2 (Nat.le_refl _)) kl
  have HOF := Lib.hid hof
  have R0 := Lib.hid r0
  have R1 := Lib.hid r1
  have HB2 := Lib.hid hb2
  have HSUB := Lib.hid hsub
  clear r0 r1 hb2 hof h k hsub
  go_enter Try.func20, Try.ntmps20
  go_wp2_with fail
  generalize ((w.alloc (.cells #[.int .i64 (s.u 0), .int .i64 (s.u 1), .int .i64 (s.u 2), .int .i64 (s.u 3), .int .i64 (s.u 4), .int .i64 (s.u 5), .int .i64 (s.u 6), .int .i64 (s.u 7), .slice oa s.more.length ca] 42)).alloc (.cells #[.int .i64 (t.u 0), .int .i64 (t.u 1), .int .i64 (t.u 2), .int .i64 (t.u 3), .int .i64 (t.u 4), .int .i64 (t.u 5), .int .i64 (t.u 6), .int .i64 (t.u 7), .slice ob t.more.length cb] 42)) = w2 at *
  rw [hs2] at HOF
  refine HOF.out.mono ?_
  rintro e w3 ⟨gb, rfl, hgb, hgr, hb3⟩
  rw [← hs2] at hb3
  have hz3 := hb3.size
  have hb4 := (Below.refl w3.heap.size w3).alloc (Nat.le_refl _) (.cells #[.pointer (some ⟨gb, 0, none⟩)] 68)
  have ho4 : (w3.alloc (.cells #[.pointer (some ⟨gb, 0, none⟩)] 68)).heap[w3.heap.size]? = some (.cells #[.pointer (some ⟨gb, 0, none⟩)] 68) := heap_alloc_new w3 _
  have hz4 : (w3.alloc (.cells #[.pointer (some ⟨gb, 0, none⟩)] 68)).heap.size = w3.heap.size + 1 := World.size_alloc _ _
  have hglt := hgr.lt
  have hg4 := hgr.below hb4 hglt
  have hs4 := (HS2.out.below Dot.cells_len (by decide) hb3 (Nat.le_refl _)).below Dot.cells_len (by decide) hb4 (Nat.le_refl _)
  have hli := list2_any' oa ca s _ hs4 hl
  have q4 := (hb4.block w.heap.size (by omega)).trans ((hb3.block _ (by omega)).trans R0.out)
  have sA := fun o => cell_of_row _ w.heap.size o _ _ _ q4
  have HLI := Lib.hid hli
  have HO4 := Lib.hid ho4
  have HG4 := Lib.hid hg4
  have HB4 := Lib.hid (HB2.out.trans ((hb3.trans (hb4.mono hz3)).mono (by omega)))
  clear hgr hb3 hb4 ho4 hg4 hs4 hli q4 HOF R0 R1 HS2
  go_wp2_with fail
  generalize w3.alloc (.cells #[.pointer (some ⟨gb, 0, none⟩)] 68) = w4 at *
  refine HLI.out.mono ?_
  rintro e w5 ⟨o5, n5, c5, rfl, hown5, hb5⟩
  have hz5 := hb5.size
  have hst : Strikes 40 #[.pointer (some ⟨w3.heap.size, 0, none⟩)] w5 (dotsOf s.grid) := fun d hd W hb => by
    have hk : ∀ i, i < w4.heap.size → W.heap[i]? = w4.heap[i]? := fun i hi => (hb.block i (by omega)).trans (hb5.block i hi)
    have h1 := lessFn_any w3.heap.size gb t.grid d ((mem_dotsOf s.grid_ok).1 hd).1 W ((hk _ (by omega)).trans HO4.out) (HG4.out.keep (hk _ (by omega)))
    rw [HSUB.out d hd] at h1
    exact h1
  have hdl := deleteAll2_any 40 #[.pointer (some ⟨w3.heap.size, 0, none⟩)] eg o5 n5 c5 (dotsOf s.grid) w5 w4.heap.size hz5 hown5 (Nat.le_trans (dotsOf_len s.grid_ok) (by decide)) hst
  have HDL := Lib.hid hdl
  have HB5 := Lib.hid (HB4.out.trans (hb5.mono HB4.out.size))
  have HZ := Lib.hid hb5
  clear hst hdl hown5 hb5 HLI
  go_wp2_with fail
  refine HDL.out.mono ?_
  rintro e w6 ⟨o6, c6, rfl, hb6⟩
  have HB6 : Hid (Below w.heap.size w w6) := ⟨hb6.os.trans HB5.out.os, hb6.tape.trans HB5.out.tape, hb6.output.trans HB5.out.output, Nat.le_trans HB5.out.size hb6.size, fun i hi => (hb6.block i (by have := HB4.out.size; omega)).trans (HB5.out.block i hi)⟩
  clear hb6 HDL
  go_wp2_with fail
  go_ret
  exact ⟨o6, c6, rfl, HB6.out⟩
end Go.Proofs.Ytidiapgdgoeplaa
