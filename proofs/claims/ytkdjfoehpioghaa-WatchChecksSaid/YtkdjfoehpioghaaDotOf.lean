/-
  dotset.of walked: a new grid in which sets are laid open.
-/
import Derived.Test.YtkdjfoehpioghaaDotLay
namespace Go.Proofs.Ytkdjfoehpioghaa
open Go.Shelf Go.RowKit Go.Lib Go.Sort
set_option linter.unusedVariables false
/-- a set with its slice's header -/
abbrev PSet := Hdr × DSet
def qcells (p : PSet) : List Value := [.int .i64 (p.2.u 0), .int .i64 (p.2.u 1), .int .i64 (p.2.u 2), .int .i64 (p.2.u 3), .int .i64 (p.2.u 4), .int .i64 (p.2.u 5), .int .i64 (p.2.u 6), .int .i64 (p.2.u 7), p.1.val]
theorem qcells_len (p : PSet) : (qcells p).length = 9 := rfl
noncomputable def orAll (l : List DSet) : Grid := l.foldl (fun g s => g.or s.grid) Grid.none
theorem zero784 : Try.zeroCells136 = gridCells Grid.none := by kernel_rfl
/-- v reads as the sets ps -/
def SetsAt (w : World) (v : Value) (ps : List PSet) : Prop := SlAt qcells w v ps ∧ ∀ p ∈ ps, SlAt Dot.cells w p.1.val p.2.more ∧ p.2.more.length ≤ 1000000
theorem SlAt.set9 {w : World} {b off n cap : Nat} {ps : List PSet} (h : SlAt qcells w (.slice (some ⟨b, off, none⟩) n cap) ps) (i : Nat) (hi : i < ps.length) (c : Nat) (hc : c < 9) : w.cell? ⟨b, off + i * 9 + c, none⟩ = (qcells ps[i])[c]? := by
  rw [← h.cell qcells_len hi hc]
  congr 2
  omega
theorem orAll_take (l : List DSet) (i : Nat) (hi : i < l.length) : orAll (l.take (i + 1)) = (orAll (l.take i)).or l[i].grid := by
  unfold orAll
  rw [List.take_succ_eq_append_getElem hi, List.foldl_append]
  rfl
set_option maxHeartbeats 8000000 in
theorem of_any (oa : Option Addr) (cap : Nat) (ps : List PSet) (w : World) (h : SetsAt w (.slice oa ps.length cap) ps) (hl : ps.length ≤ 1000) :
    Calls Try.prog 37 #[.slice oa ps.length cap] w fun e w' => ∃ b, e = .returned (.pointer (some ⟨b, 0, none⟩)) ∧ w.heap.size ≤ b ∧ GridAt w' b (orAll (ps.map (·.2))) ∧ Below w.heap.size w w' := by
  have HS := Lib.hid h
  clear h
  go_enter Try.func37, Try.ntmps37
  go_wp2_with fail
  have hg0 : GridAt (w.alloc (.cells Try.zeroCells136 136)) w.heap.size Grid.none := by
    unfold GridAt
    rw [← zero784]
    exact heap_alloc_new w _
  have hb0 := (Below.refl w.heap.size w).alloc (Nat.le_refl _) (.cells Try.zeroCells136 136)
  have hlt0 : w.heap.size < (w.alloc (.cells Try.zeroCells136 136)).heap.size := by simp
  generalize Try.zeroCells136 = zc at *
  generalize w.alloc (.cells zc 136) = w1 at *
  have HG0 := Lib.hid hg0
  have HB0 := Lib.hid hb0
  clear hg0 hb0
  go_loopg [10] ps.length (fun gk s10 wr => ∃ (i : Nat), s10 = .int .i64 i ∧ i ≤ ps.length ∧ ps.length - i ≤ gk ∧ Hid (GridAt wr w.heap.size (orAll ((ps.map (·.2)).take i))) ∧ Hid (Below w.heap.size w wr) ∧ w1.heap.size ≤ wr.heap.size)
  case atStart => exact ⟨0, rfl, Nat.zero_le _, Nat.le_refl _, HG0.out, HB0.out, Nat.le_refl _⟩
  case round =>
    obtain ⟨i, rfl, hi, hg, HGR, HB, hsz⟩ := hrel
    by_cases hlt : i < ps.length
    · have hltz : (i : Int) < (ps.length : Int) := by omega
      have hsl := HS.out.1.below qcells_len (by decide) HB.out (Nat.le_refl _)
      obtain ⟨b, off, rfl⟩ := hsl.plain qcells_len (by decide) (by intro e; rw [e] at hlt; exact absurd hlt (by simp))
      have c0 := hsl.set9 i hlt 0 (by decide)
      have c1 := hsl.set9 i hlt 1 (by decide)
      have c2 := hsl.set9 i hlt 2 (by decide)
      have c3 := hsl.set9 i hlt 3 (by decide)
      have c4 := hsl.set9 i hlt 4 (by decide)
      have c5 := hsl.set9 i hlt 5 (by decide)
      have c6 := hsl.set9 i hlt 6 (by decide)
      have c7 := hsl.set9 i hlt 7 (by decide)
      have c8 := hsl.set9 i hlt 8 (by decide)
      obtain ⟨hrem, hrl⟩ := HS.out.2 _ (List.getElem_mem hlt)
      have htk := orAll_take (ps.map (·.2)) i (by rw [List.length_map]; exact hlt)
      rw [List.getElem_map] at htk
      generalize ps[i] = p at *
      obtain ⟨⟨ra, rn, rc⟩, s⟩ := p
      obtain ⟨ra', rc', hv, _⟩ := hrem.slice_of
      simp only [Hdr.val, Value.slice.injEq] at hv
      obtain ⟨rfl, rfl, rfl⟩ := hv
      simp only [Hdr.val] at hrem
      have hno : s.more = [] ∨ (Value.slice ra s.more.length rc).ownBlock ≠ some w.heap.size := by
        by_cases he : s.more = []
        · exact .inl he
        · exact .inr fun e => absurd (hrem.lt Dot.cells_len (by decide) he _ e) (by omega)
      simp only [qcells, Hdr.val, List.getElem?_cons_zero, List.getElem?_cons_succ, Nat.add_zero] at c0 c1 c2 c3 c4 c5 c6 c7 c8
      have HREM := Lib.hid hrem
      have HNO := Lib.hid hno
      have HTK := Lib.hid htk
      have hly := fun W (hb : Below wr.heap.size wr W) => lay_any w.heap.size _ s ra rc W (HGR.out.below hb HGR.out.lt) (hrem.below Dot.cells_len (by decide) (HB.out.trans (hb.mono HB.out.size)) (Nat.le_refl _)) hno hrl
      rw [← htk] at hly
      have HLY := Lib.hid hly
      clear hsl hrem hno htk hly
      have hbl := (Below.refl wr.heap.size wr).alloc (Nat.le_refl _) (.cells #[.int .i64 (s.u 0), .int .i64 (s.u 1), .int .i64 (s.u 2), .int .i64 (s.u 3), .int .i64 (s.u 4), .int .i64 (s.u 5), .int .i64 (s.u 6), .int .i64 (s.u 7), .slice ra s.more.length rc] 38)
      have HBL := Lib.hid hbl
      clear hbl
      go_wp2_with fail
      refine (HLY.out _ HBL.out).mono ?_
      rintro e w2 ⟨rfl, hgr, hgw⟩
      have HGR2 := Lib.hid hgr
      have HB2 := Lib.hid ((HB.out.trans (HBL.out.mono HB.out.size)).grown hgw (Nat.le_trans HB.out.size HBL.out.size) (fun k hk => by cases hk; exact Nat.le_refl _))
      have hsz2 : w1.heap.size ≤ w2.heap.size := Nat.le_trans hsz (Nat.le_trans HBL.out.size hgw.size)
      clear hgr hgw c0 c1 c2 c3 c4 c5 c6 c7 c8 HLY HGR HB HBL
      go_wp2_with fail
      go_roundg (ps.length - (i + 1))
      case measure => omega
      case rel => exact ⟨i + 1, by go_num, by omega, Nat.le_refl _, HGR2.out, HB2.out, hsz2⟩
    · have hltz : ¬ (i : Int) < (ps.length : Int) := by omega
      obtain rfl : i = ps.length := by omega
      have hgr := HGR.out
      rw [show (ps.map (·.2)).take ps.length = ps.map (·.2) from by rw [← List.length_map (f := (·.2)), List.take_length]] at hgr
      have HGR2 := Lib.hid hgr
      clear hgr HGR
      go_wp2_with fail
      go_ret
      exact ⟨_, rfl, Nat.le_refl _, HGR2.out, HB.out⟩
end Go.Proofs.Ytkdjfoehpioghaa
