/-
  dotset.lay and of walked: sets laid open in a grid of one's own.
  dotset.of walked: a new grid in which sets are laid open.
-/
import Derived.Test.YtejihgfigclppaaGreatDotRight
namespace Go.Proofs.YtejihgfigclppaaGreat
open Go.Shelf Go.RowKit Go.Lib Go.Sort
set_option linter.unusedVariables false
theorem below_any {W W' : World} (h : Below W.heap.size W W') (row : Option Nat) : W.grownBy W' row := ⟨h.os, h.tape, h.output, h.size, fun i hi _ => h.block i hi⟩
theorem run_index8 (u : Nat → Int) (n : Nat) (hn : n < 8) (w : World) : (Instr.index 37 (.agg #[.int .i64 (u 0), .int .i64 (u 1), .int .i64 (u 2), .int .i64 (u 3), .int .i64 (u 4), .int .i64 (u 5), .int .i64 (u 6), .int .i64 (u 7)]) (.int .i64 n)).run Tryz.prog w = .ok (.int .i64 (u n)) w := by
  have hz : (sizeOf 3).run Tryz.prog w = .ok 1 w := by kernel_rfl
  have ha : (isAgg 3).run Tryz.prog w = .ok false w := by kernel_rfl
  rcases (show n = 0 ∨ n = 1 ∨ n = 2 ∨ n = 3 ∨ n = 4 ∨ n = 5 ∨ n = 6 ∨ n = 7 by omega) with rfl | rfl | rfl | rfl | rfl | rfl | rfl | rfl <;> simp [Instr.index, asIntOf, run_underlying Tryz.underlying37, part, hz, ha, Result.andThen]
/-- a grid with the dots up to numbers of the nodes ahead of n, and up to j of n -/
def upGrid (g : Grid) (u : Nat → Int) (n j : Nat) : Grid := fun m q => g m q || decide (1 ≤ q ∧ ((m < n ∧ (q : Int) ≤ u m) ∨ (m = n ∧ q ≤ j)))
theorem upGrid_zero (g : Grid) (u : Nat → Int) : upGrid g u 0 0 = g := by
  funext m q
  unfold upGrid
  rw [decide_eq_false (by omega), Bool.or_false]
theorem upGrid_put (g : Grid) (u : Nat → Int) (n j : Nat) : (upGrid g u n j).put n (j + 1) = upGrid g u n (j + 1) := by
  funext m q
  unfold upGrid Grid.put
  rw [Bool.or_assoc]
  congr 1
  rw [Bool.eq_iff_iff]
  simp only [Bool.or_eq_true, Bool.and_eq_true, decide_eq_true_eq]
  omega
theorem upGrid_next (g : Grid) (u : Nat → Int) (n : Nat) (h : 0 ≤ u n) : upGrid g u n (u n).toNat = upGrid g u (n + 1) 0 := by
  funext m q
  unfold upGrid
  congr 1
  rw [Bool.eq_iff_iff]
  simp only [decide_eq_true_eq]
  by_cases e : m = n
  · subst e; omega
  · omega
def putDots (g : Grid) (l : List Dot) : Grid := l.foldl (fun g d => g.put d.node.toNat d.seq.toNat) g
theorem putDots_at : ∀ (l : List Dot) (g : Grid) (n q : Nat), putDots g l n q = true ↔ g n q = true ∨ ∃ d ∈ l, d.node.toNat = n ∧ d.seq.toNat = q
  | [], g, n, q => by simp [putDots]
  | d :: l, g, n, q => by
    show putDots (g.put _ _) l n q = true ↔ _
    rw [putDots_at l]
    unfold Grid.put
    simp only [Bool.or_eq_true, Bool.and_eq_true, decide_eq_true_eq, List.mem_cons, exists_eq_or_imp, or_assoc]
    constructor
    · rintro (h | ⟨h, k⟩ | h)
      · exact .inl h
      · exact .inr (.inl ⟨h.symm, k.symm⟩)
      · exact .inr (.inr h)
    · rintro (h | ⟨h, k⟩ | h)
      · exact .inl h
      · exact .inr (.inl ⟨h.symm, k.symm⟩)
      · exact .inr (.inr h)
theorem putDots_take (g : Grid) (l : List Dot) (i : Nat) (hi : i < l.length) : putDots g (l.take (i + 1)) = (putDots g (l.take i)).put l[i].node.toNat l[i].seq.toNat := by
  unfold putDots
  rw [List.take_succ_eq_append_getElem hi, List.foldl_append]
  rfl
theorem lay_grid (g : Grid) {s : DSet} (h : s.Right) : putDots (upGrid g s.u 8 0) s.more = g.or s.grid := by
  funext n q
  rw [Bool.eq_iff_iff, putDots_at]
  unfold upGrid Grid.or
  rw [Bool.or_eq_true, Bool.or_eq_true, DSet.grid_iff, decide_eq_true_eq, or_assoc]
  refine or_congr Iff.rfl ?_
  constructor
  · rintro (⟨h1, h2⟩ | ⟨d, hd, h1, h2⟩)
    · rcases h2 with h2 | h2
      · exact ⟨h, h2.1, h1, .inl h2.2⟩
      · omega
    · have hm := (h.2.2.1 d hd).1
      unfold May at hm
      refine ⟨h, by omega, by omega, .inr ?_⟩
      have : (⟨n, q⟩ : Dot) = d := by cases d; simp only [Dot.mk.injEq] at *; omega
      rw [this]; exact hd
  · rintro ⟨_, h1, h2, h3 | h3⟩
    · exact .inl ⟨h2, .inl ⟨h1, h3⟩⟩
    · exact .inr ⟨_, h3, by simp, by simp⟩
set_option maxHeartbeats 8000000 in
theorem lay_any (b : Nat) (g : Grid) (s : DSet) (oa : Option Addr) (cap : Nat) (w : World) (hg : GridAt w b g) (h : SlAt Dot.cells w (.slice oa s.more.length cap) s.more) (hoa : s.more = [] ∨ (Value.slice oa s.more.length cap).ownBlock ≠ some b) (hl : s.more.length ≤ 1000000) :
    Calls Tryz.prog 137 #[.pointer (some ⟨b, 0, none⟩), .agg #[.int .i64 (s.u 0), .int .i64 (s.u 1), .int .i64 (s.u 2), .int .i64 (s.u 3), .int .i64 (s.u 4), .int .i64 (s.u 5), .int .i64 (s.u 6), .int .i64 (s.u 7), .slice oa s.more.length cap]] w fun e w' => e = .returned (.tuple #[]) ∧ GridAt w' b (g.or s.grid) ∧ w.grownBy w' (some b) := by
  have eg : ∀ args w, (callFunc 131 args).run Tryz.prog w = .ok (.enter 131 args) w := enters_of Tryz.func131 (by kernel_rfl) rfl
  have hb0 := (Below.refl w.heap.size w).alloc (Nat.le_refl _) (.cells (setObj s.u (.slice oa s.more.length cap)) 170)
  have hsl := h.below Dot.cells_len (by decide) hb0 (Nat.le_refl _)
  have hrt := right_any s oa cap _ hsl hl
  have HRT := Lib.hid hrt
  have HROW := Lib.hid (show (w.alloc (.cells (setObj s.u (.slice oa s.more.length cap)) 170)).heap[w.heap.size]? = some (.cells (setObj s.u (.slice oa s.more.length cap)) 170) from heap_alloc_new w _)
  have HSL := Lib.hid h
  have HG := Lib.hid hg
  have HB0 := Lib.hid hb0
  clear hb0 hsl hrt h hg
  unfold setObj at HRT HROW HB0
  by_cases hr : s.Right
  · rw [DSet.rightB_true hr] at HRT
    have HLG := Lib.hid (lay_grid g hr)
    have HU := Lib.hid hr.1
    go_enter Tryz.func137, Tryz.ntmps137
    go_wp2_with fail
    refine HRT.out.mono ?_
    rintro e w1 ⟨rfl, hb1⟩
    have hrow1 := (hb1.block _ (by simp)).trans HROW.out
    have HB1 := Lib.hid (HB0.out.trans (hb1.mono HB0.out.size))
    have c0 := set_up (u := s.u) hrow1 0 (by decide)
    have c1 := set_up (u := s.u) hrow1 1 (by decide)
    have c2 := set_up (u := s.u) hrow1 2 (by decide)
    have c3 := set_up (u := s.u) hrow1 3 (by decide)
    have c4 := set_up (u := s.u) hrow1 4 (by decide)
    have c5 := set_up (u := s.u) hrow1 5 (by decide)
    have c6 := set_up (u := s.u) hrow1 6 (by decide)
    have c7 := set_up (u := s.u) hrow1 7 (by decide)
    have HROW1 := Lib.hid hrow1
    clear hb1 hrow1 HRT HROW HB0
    go_wp2_with fail
    clear c0 c1 c2 c3 c4 c5 c6 c7
    have hidx := fun n (hn : n < 8) => run_index8 s.u n hn
    have HIX := Lib.hid hidx
    clear hidx
    have hsb : w.heap.size < w1.heap.size := (Array.getElem?_eq_some_iff.1 HROW1.out).1
    go_loopg [12] 8 (fun gk s12 wr => ∃ (n : Nat), s12 = .int .i64 n ∧ n ≤ 8 ∧ 8 - n ≤ gk ∧ Hid (GridAt wr b (upGrid g s.u n 0)) ∧ Hid (w1.grownBy wr (some b)))
    case atStart => exact ⟨0, rfl, Nat.zero_le _, Nat.le_refl _, by show GridAt _ _ _; rw [upGrid_zero]; exact HG.out.below HB1.out HG.out.lt, World.grownBy.refl _ _⟩
    case round =>
      obtain ⟨n, rfl, hi, hg, HGR, HGW⟩ := hrel
      by_cases hlt : n < 8
      · have hltz : (n : Int) < 8 := by omega
        have hix := HIX.out n hlt
        have hu := HU.out n hlt
        have hnx := upGrid_next g s.u n hu.1
        obtain ⟨m, hm⟩ : ∃ m : Nat, s.u n = m := ⟨(s.u n).toNat, by omega⟩
        rw [hm] at hix hu hnx
        rw [Int.toNat_natCast] at hnx
        have HNX := Lib.hid hnx
        have hgr := HGR.out
        have hgw := HGW.out
        clear hnx hm HGR HGW
        go_wp2_with fail
        go_loopg [17] m (fun gk s17 wr => ∃ (j : Nat), s17 = .int .i64 j ∧ j ≤ m ∧ m - j ≤ gk ∧ Hid (GridAt wr b (upGrid g s.u n j)) ∧ Hid (w1.grownBy wr (some b)))
        case atStart => exact ⟨0, rfl, Nat.zero_le _, Nat.le_refl _, hgr, hgw⟩
        case round =>
          obtain ⟨j, rfl, hj, hgj, HGR, HGW⟩ := hrel
          clear hgr hgw
          by_cases hjl : j < m
          · have hjz : (j : Int) < (m : Int) := by omega
            have hpt := put_any b (upGrid g s.u n j) ⟨(n : Int), ((j : Int) + 1)⟩ wr HGR.out (by simp) (by show (n : Int) < 8; omega) (by show 0 ≤ (j : Int) + 1; omega) (by show (j : Int) + 1 < 98; omega)
            have e1 : ((n : Int)).toNat = n := Int.toNat_natCast n
            have e2 : ((j : Int) + 1).toNat = j + 1 := by omega
            simp only [e1, e2] at hpt
            rw [upGrid_put] at hpt
            have HPT := Lib.hid hpt
            clear hpt hix e1 e2
            go_wp2_with fail
            refine HPT.out.mono ?_
            rintro e w2 ⟨rfl, hgr, hgw⟩
            have HGR2 := Lib.hid hgr
            have HGW2 := Lib.hid (HGW.out.trans hgw)
            clear hgr hgw HPT HGR HGW
            go_wp2_with fail
            go_roundg (m - (j + 1))
            case measure => omega
            case rel => exact ⟨j + 1, by go_num, by omega, Nat.le_refl _, HGR2.out, HGW2.out⟩
          · have hjz : ¬ (j : Int) < (m : Int) := by omega
            obtain rfl : j = m := by omega
            have hgr := HGR.out
            have HNE := HNX.out
            rw [HNE] at hgr
            have HGR2 := Lib.hid hgr
            clear hix hgr HNE
            go_wp2_with fail
            go_roundg (8 - (n + 1))
            case measure => omega
            case rel => exact ⟨n + 1, by go_num, by omega, Nat.le_refl _, HGR2.out, HGW.out⟩
      · have hltz : ¬ (n : Int) < 8 := by omega
        obtain rfl : n = 8 := by omega
        have hsbb : w.heap.size ≠ b := fun e => by have := HG.out.lt; omega
        have hrow := (HGW.out.block _ hsb (fun e => hsbb (Option.some.inj e))).trans HROW1.out
        have cm := set_more (u := s.u) hrow
        have hpm : ∀ (i : Nat) (W : World) (hi : i < s.more.length), (GridAt W b (putDots (upGrid g s.u 8 0) (s.more.take i)) ∧ w1.grownBy W (some b)) → Calls Tryz.prog 131 (#[.pointer (some ⟨b, 0, none⟩)].push (.agg #[.int .i64 s.more[i].node, .int .i64 s.more[i].seq]) ++ #[]) W fun e w' => e = .returned (.tuple #[]) ∧ GridAt w' b (putDots (upGrid g s.u 8 0) (s.more.take (i + 1))) ∧ w1.grownBy w' (some b) := fun i W hi hI => by
          have hmy := (hr.2.2.1 _ (List.getElem_mem hi)).1
          unfold May at hmy
          refine (put_any b _ s.more[i] W hI.1 hmy.1 hmy.2.1 (by omega) (by omega)).mono ?_
          rintro e w' ⟨rfl, h2, h3⟩
          exact ⟨rfl, by rw [putDots_take _ _ _ hi]; exact h2, hI.2.trans h3⟩
        have hea := each_any 131 #[.pointer (some ⟨b, 0, none⟩)] #[] eg oa cap s.more (fun i W => GridAt W b (putDots (upGrid g s.u 8 0) (s.more.take i)) ∧ w1.grownBy W (some b))
          ⟨fun i hi W hI => hpm i W hi hI, fun i W W' hI hb => ⟨hI.1.below hb hI.1.lt, hI.2.trans (below_any hb _)⟩⟩
          (fun i W hI => (HSL.out.below Dot.cells_len (by decide) HB1.out (Nat.le_refl _)).grown Dot.cells_len (by decide) hI.2 hoa) hl wr ⟨HGR.out, HGW.out⟩
        rw [List.take_length, HLG.out] at hea
        have HEA := Lib.hid hea
        clear hpm hea hrow
        go_wp2_with fail
        refine HEA.out.mono ?_
        rintro e w2 ⟨rfl, hgr, hgw⟩
        have HGR2 := Lib.hid hgr
        have HGW2 := Lib.hid ((below_any HB1.out _).trans hgw)
        clear hgr hgw
        go_wp2_with fail
        go_end0
        exact ⟨rfl, HGR2.out, HGW2.out⟩
  · rw [DSet.rightB_false hr] at HRT
    have hgn : g.or s.grid = g := by rw [DSet.grid_wrong hr]; funext n q; simp [Grid.or, Grid.none]
    rw [hgn]
    go_enter Tryz.func137, Tryz.ntmps137
    go_wp2_with fail
    refine HRT.out.mono ?_
    rintro e w1 ⟨rfl, hb1⟩
    have HB1 := Lib.hid (HB0.out.trans (hb1.mono HB0.out.size))
    clear hb1
    go_wp2_with fail
    refine bodyPost_ret (v := .tuple #[]) (by simp [results, Tryz.results137, go_sem]) rfl ⟨rfl, HG.out.below HB1.out HG.out.lt, below_any HB1.out _⟩
end Go.Proofs.YtejihgfigclppaaGreat
namespace Go.Proofs.YtejihgfigclppaaGreat
open Go.Shelf Go.RowKit Go.Lib Go.Sort
set_option linter.unusedVariables false
/-- a set with its slice's header -/
abbrev PSet := Hdr × DSet
def qcells (p : PSet) : List Value := [.int .i64 (p.2.u 0), .int .i64 (p.2.u 1), .int .i64 (p.2.u 2), .int .i64 (p.2.u 3), .int .i64 (p.2.u 4), .int .i64 (p.2.u 5), .int .i64 (p.2.u 6), .int .i64 (p.2.u 7), p.1.val]
theorem qcells_len (p : PSet) : (qcells p).length = 9 := rfl
noncomputable def orAll (l : List DSet) : Grid := l.foldl (fun g s => g.or s.grid) Grid.none
theorem zero784 : Tryz.zeroCells198 = gridCells Grid.none := by kernel_rfl
/-- v reads as the sets ps -/
def SetsAt (w : World) (v : Value) (ps : List PSet) : Prop := SlAt qcells w v ps ∧ ∀ p ∈ ps, SlAt Dot.cells w p.1.val p.2.more ∧ p.2.more.length ≤ 1000000
theorem SlAt.set9 {w : World} {b off n cap : Nat} {ps : List PSet} (h : SlAt qcells w (.slice (some ⟨b, off, none⟩) n cap) ps) (i : Nat) (hi : i < ps.length) (c : Nat) (hc : c < 9) : w.cell? ⟨b, off + i * 9 + c, none⟩ = (qcells ps[i])[c]? := by
  rw [← h.cell qcells_len hi hc]
  congr 2
  omega
theorem orAll_take (l : List DSet) (i : Nat) (hi : i < l.length) : orAll (l.take (i + 1)) = (orAll (l.take i)).or l[i].grid := by
  unfold orAll
  rw [List.take_succ_eq_append_getElem hi, List.foldl_append]
  rfl
set_option maxHeartbeats 8000000 in
theorem of_any (oa : Option Addr) (cap : Nat) (ps : List PSet) (w : World) (h : SetsAt w (.slice oa ps.length cap) ps) (hl : ps.length ≤ 1000) :
    Calls Tryz.prog 130 #[.slice oa ps.length cap] w fun e w' => ∃ b, e = .returned (.pointer (some ⟨b, 0, none⟩)) ∧ w.heap.size ≤ b ∧ GridAt w' b (orAll (ps.map (·.2))) ∧ Below w.heap.size w w' := by
  have HS := Lib.hid h
  clear h
  go_enter Tryz.func130, Tryz.ntmps130
  go_wp2_with fail
  have hg0 : GridAt (w.alloc (.cells Tryz.zeroCells198 198)) w.heap.size Grid.none := by
    unfold GridAt
    rw [← zero784]
    exact heap_alloc_new w _
  have hb0 := (Below.refl w.heap.size w).alloc (Nat.le_refl _) (.cells Tryz.zeroCells198 198)
  have hlt0 : w.heap.size < (w.alloc (.cells Tryz.zeroCells198 198)).heap.size := by simp
  generalize Tryz.zeroCells198 = zc at *
  generalize w.alloc (.cells zc 198) = w1 at *
  have HG0 := Lib.hid hg0
  have HB0 := Lib.hid hb0
  clear hg0 hb0
  go_loopg [10] ps.length (fun gk s10 wr => ∃ (i : Nat), s10 = .int .i64 i ∧ i ≤ ps.length ∧ ps.length - i ≤ gk ∧ Hid (GridAt wr w.heap.size (orAll ((ps.map (·.2)).take i))) ∧ Hid (Below w.heap.size w wr) ∧ w1.heap.size ≤ wr.heap.size)
  case atStart => exact ⟨0, rfl, Nat.zero_le _, Nat.le_refl _, HG0.out, HB0.out, Nat.le_refl _⟩
  case round =>
    obtain ⟨i, rfl, hi, hg, HGR, HB, hsz⟩ := hrel
    by_cases hlt : i < ps.length
    · have hltz : (i : Int) < (ps.length : Int) := by omega
      have hsl := HS.out.1.below qcells_len (by decide) HB.out (Nat.le_refl _)
      obtain ⟨b, off, rfl⟩ := hsl.plain qcells_len (by decide) (by intro e; rw [e] at hlt; exact absurd hlt (by simp))
      have c0 := hsl.set9 i hlt 0 (by decide)
      have c1 := hsl.set9 i hlt 1 (by decide)
      have c2 := hsl.set9 i hlt 2 (by decide)
      have c3 := hsl.set9 i hlt 3 (by decide)
      have c4 := hsl.set9 i hlt 4 (by decide)
      have c5 := hsl.set9 i hlt 5 (by decide)
      have c6 := hsl.set9 i hlt 6 (by decide)
      have c7 := hsl.set9 i hlt 7 (by decide)
      have c8 := hsl.set9 i hlt 8 (by decide)
      obtain ⟨hrem, hrl⟩ := HS.out.2 _ (List.getElem_mem hlt)
      have htk := orAll_take (ps.map (·.2)) i (by rw [List.length_map]; exact hlt)
      rw [List.getElem_map] at htk
      generalize ps[i] = p at *
      obtain ⟨⟨ra, rn, rc⟩, s⟩ := p
      obtain ⟨ra', rc', hv, _⟩ := hrem.slice_of
      simp only [Hdr.val, Value.slice.injEq] at hv
      obtain ⟨rfl, rfl, rfl⟩ := hv
      simp only [Hdr.val] at hrem
      have hno : s.more = [] ∨ (Value.slice ra s.more.length rc).ownBlock ≠ some w.heap.size := by
        by_cases he : s.more = []
        · exact .inl he
        · exact .inr fun e => absurd (hrem.lt Dot.cells_len (by decide) he _ e) (by omega)
      simp only [qcells, Hdr.val, List.getElem?_cons_zero, List.getElem?_cons_succ, Nat.add_zero] at c0 c1 c2 c3 c4 c5 c6 c7 c8
      have HREM := Lib.hid hrem
      have HNO := Lib.hid hno
      have HTK := Lib.hid htk
      have hly := fun W (hb : Below wr.heap.size wr W) => lay_any w.heap.size _ s ra rc W (HGR.out.below hb HGR.out.lt) (hrem.below Dot.cells_len (by decide) (HB.out.trans (hb.mono HB.out.size)) (Nat.le_refl _)) hno hrl
      rw [← htk] at hly
      have HLY := Lib.hid hly
      clear hsl hrem hno htk hly
      have hbl := (Below.refl wr.heap.size wr).alloc (Nat.le_refl _) (.cells #[.int .i64 (s.u 0), .int .i64 (s.u 1), .int .i64 (s.u 2), .int .i64 (s.u 3), .int .i64 (s.u 4), .int .i64 (s.u 5), .int .i64 (s.u 6), .int .i64 (s.u 7), .slice ra s.more.length rc] 170)
      have HBL := Lib.hid hbl
      clear hbl
      go_wp2_with fail
      refine (HLY.out _ HBL.out).mono ?_
      rintro e w2 ⟨rfl, hgr, hgw⟩
      have HGR2 := Lib.hid hgr
      have HB2 := Lib.hid ((HB.out.trans (HBL.out.mono HB.out.size)).grown hgw (Nat.le_trans HB.out.size HBL.out.size) (fun k hk => by cases hk; exact Nat.le_refl _))
      have hsz2 : w1.heap.size ≤ w2.heap.size := Nat.le_trans hsz (Nat.le_trans HBL.out.size hgw.size)
      clear hgr hgw c0 c1 c2 c3 c4 c5 c6 c7 c8 HLY HGR HB HBL
      go_wp2_with fail
      go_roundg (ps.length - (i + 1))
      case measure => omega
      case rel => exact ⟨i + 1, by go_num, by omega, Nat.le_refl _, HGR2.out, HB2.out, hsz2⟩
    · have hltz : ¬ (i : Int) < (ps.length : Int) := by omega
      obtain rfl : i = ps.length := by omega
      have hgr := HGR.out
      rw [show (ps.map (·.2)).take ps.length = ps.map (·.2) from by rw [← List.length_map (f := (·.2)), List.take_length]] at hgr
      have HGR2 := Lib.hid hgr
      clear hgr HGR
      go_wp2_with fail
      go_ret
      exact ⟨_, rfl, Nat.le_refl _, HGR2.out, HB.out⟩
end Go.Proofs.YtejihgfigclppaaGreat
