/-
  A book's each and own walked.
-/
import Derived.Test.YtidiapgdgoeplaaBookMem
import Derived.Test.YtidiapgdgoeplaaAcc
namespace Go.Proofs.Ytidiapgdgoeplaa
open Go.Shelf Go.RowKit Go.Lib Go.Sort
set_option linter.unusedVariables false
set_option maxHeartbeats 4000000 in
theorem beach_any (K : Nat) (pre free : Array Value) (eg : ∀ args w, (callFunc K args).run Try.prog w = .ok (.enter K args) w) (oa : Option Addr) (cap : Nat) (ds : List Dot) (Inv : Nat → World → Prop) (hs : Steps K pre free ds Inv)
    (hr : ∀ i W, Inv i W → SlAt Dot.cells W (.slice oa ds.length cap) ds) (hl : ds.length ≤ 1000000) (w : World) (h0 : Inv 0 w) :
    Calls Try.prog 25 #[.slice oa ds.length cap, .func (.func K) pre free] w fun e w' => e = .returned (.tuple #[]) ∧ Inv ds.length w' := by
  have HS := Lib.hid hs
  have HR := Lib.hid hr
  have H0 := Lib.hid h0
  clear hs hr h0
  go_enter Try.func25, Try.ntmps25
  go_wp2_with fail
  go_loopg [8] ds.length (fun gk s8 wr => ∃ (i : Nat), s8 = .int .i64 i ∧ i ≤ ds.length ∧ ds.length - i ≤ gk ∧ Hid (Inv i wr))
  case atStart => exact ⟨0, rfl, Nat.zero_le _, Nat.le_refl _, H0.out⟩
  case round =>
    obtain ⟨i, rfl, hi, hg, HI⟩ := hrel
    by_cases hlt : i < ds.length
    · have hltz : (i : Int) < (ds.length : Int) := by omega
      have hsl := HR.out i wr HI.out
      obtain ⟨b, off, rfl⟩ := hsl.plain Dot.cells_len (by decide) (by intro e; rw [e] at hlt; exact absurd hlt (by simp))
      have c0 := hsl.cell Dot.cells_len (i := i) (c := 0) hlt (by decide)
      have c1 := hsl.cell Dot.cells_len (i := i) (c := 1) hlt (by decide)
      have hst := fun W (hb : Below wr.heap.size wr W) => HS.out.1 i hlt W (HS.out.2 i wr W HI.out hb)
      simp only [Dot.cells, List.getElem?_cons_zero, List.getElem?_cons_succ] at c0 c1
      have e0 : off + (i * 2 + 0) = off + i * 2 := by omega
      have e1 : off + (i * 2 + 1) = off + i * 2 + 1 := by omega
      rw [e0] at c0
      rw [e1] at c1
      generalize ds[i] = d at *
      have HST := Lib.hid hst
      clear hsl hst e0 e1
      go_wp2_with fail
      refine (HST.out _ ((Below.refl _ _).alloc (Nat.le_refl _) _)).mono ?_
      rintro e w1 ⟨rfl, hI⟩
      have HI1 := Lib.hid hI
      clear hI c0 c1 HST HI
      go_wp2_with fail
      go_roundg (ds.length - (i + 1))
      case measure => omega
      case rel => exact ⟨i + 1, by go_num, by omega, Nat.le_refl _, HI1.out⟩
    · have hltz : ¬ (i : Int) < (ds.length : Int) := by omega
      obtain rfl : i = ds.length := by omega
      go_wp2_with fail
      go_end0
      exact ⟨rfl, HI.out⟩

theorem alloc2 (w : World) (o0 o1 : Obj) : ((w.alloc o0).alloc o1).heap[w.heap.size]? = some o0 ∧ ((w.alloc o0).alloc o1).heap[w.heap.size + 1]? = some o1 ∧ Below w.heap.size w ((w.alloc o0).alloc o1) ∧ ((w.alloc o0).alloc o1).heap.size = w.heap.size + 2 := by
  have s1 : (w.alloc o0).heap.size = w.heap.size + 1 := World.size_alloc _ _
  refine ⟨?_, ?_, ((Below.refl _ _).alloc (Nat.le_refl _) _).alloc (by omega) _, by rw [World.size_alloc, s1]⟩
  · rw [Below.heap_alloc _ _ _ (by omega), heap_alloc_new]
  · rw [← s1, heap_alloc_new]
set_option maxHeartbeats 4000000 in
theorem own_any (hd : Hdr) (ev : Ev) (w : World) (h : SlAt Dot.cells w hd.val ev.rem) (hl : ev.rem.length ≤ 1000000) :
    Calls Try.prog 26 #[.agg #[.int .i64 ev.dot.node, .int .i64 ev.dot.seq, .int .i64 ev.time, .int .i64 ev.kind, .int .i64 ev.work, .int .i64 ev.value, .int .i64 ev.pol.mn, .int .i64 ev.pol.mx, .int .i64 ev.pol.goal, .int .i64 ev.pol.slack, .int .i64 ev.pol.up, .int .i64 ev.pol.down, .int .i64 ev.pol.cool, hd.val]] w fun e w' => ∃ hd' : Hdr, e = .returned (.agg #[.int .i64 ev.dot.node, .int .i64 ev.dot.seq, .int .i64 ev.time, .int .i64 ev.kind, .int .i64 ev.work, .int .i64 ev.value, .int .i64 ev.pol.mn, .int .i64 ev.pol.mx, .int .i64 ev.pol.goal, .int .i64 ev.pol.slack, .int .i64 ev.pol.up, .int .i64 ev.pol.down, .int .i64 ev.pol.cool, hd'.val]) ∧ Owns Dot.cells 2 w.heap.size 28 w' hd'.val ev.rem ∧ Below w.heap.size w w' := by
  obtain ⟨ra, rn, rc⟩ := hd
  simp only [Hdr.val] at h ⊢
  obtain ⟨hr0, hr1, hb2, hsz⟩ := alloc2 w (.cells #[.int .i64 ev.dot.node, .int .i64 ev.dot.seq, .int .i64 ev.time, .int .i64 ev.kind, .int .i64 ev.work, .int .i64 ev.value, .int .i64 ev.pol.mn, .int .i64 ev.pol.mx, .int .i64 ev.pol.goal, .int .i64 ev.pol.slack, .int .i64 ev.pol.up, .int .i64 ev.pol.down, .int .i64 ev.pol.cool, .slice ra rn rc] 33) (.cells #[.int .i64 0, .int .i64 0, .int .i64 0, .int .i64 0, .int .i64 0, .int .i64 0, .int .i64 0, .int .i64 0, .int .i64 0, .int .i64 0, .int .i64 0, .int .i64 0, .int .i64 0, .slice none 0 0] 33)
  have hcl := cloneDot_any (.slice ra rn rc) ev.rem _ (h.below Dot.cells_len (by decide) hb2 (Nat.le_refl _)) hl
  have HCL := Lib.hid hcl
  have HR0 := Lib.hid hr0
  have HR1 := Lib.hid hr1
  have HB2 := Lib.hid hb2
  clear hr0 hr1 hb2 hcl h
  go_enter Try.func26, Try.ntmps26
  go_wp2_with fail
  generalize ((w.alloc (.cells #[.int .i64 ev.dot.node, .int .i64 ev.dot.seq, .int .i64 ev.time, .int .i64 ev.kind, .int .i64 ev.work, .int .i64 ev.value, .int .i64 ev.pol.mn, .int .i64 ev.pol.mx, .int .i64 ev.pol.goal, .int .i64 ev.pol.slack, .int .i64 ev.pol.up, .int .i64 ev.pol.down, .int .i64 ev.pol.cool, .slice ra rn rc] 33)).alloc (.cells #[.int .i64 0, .int .i64 0, .int .i64 0, .int .i64 0, .int .i64 0, .int .i64 0, .int .i64 0, .int .i64 0, .int .i64 0, .int .i64 0, .int .i64 0, .int .i64 0, .int .i64 0, .slice none 0 0] 33)) = w2 at *
  refine HCL.out.mono ?_
  rintro e w3 ⟨⟨oa, on, oc⟩, rfl, hown, hb3⟩
  have q0 := (hb3.block w.heap.size (by omega)).trans HR0.out
  have q1 := (hb3.block (w.heap.size + 1) (by omega)).trans HR1.out
  have hA : ∀ o, w3.cell? ⟨w.heap.size, o, none⟩ = (#[.int .i64 ev.dot.node, .int .i64 ev.dot.seq, .int .i64 ev.time, .int .i64 ev.kind, .int .i64 ev.work, .int .i64 ev.value, .int .i64 ev.pol.mn, .int .i64 ev.pol.mx, .int .i64 ev.pol.goal, .int .i64 ev.pol.slack, .int .i64 ev.pol.up, .int .i64 ev.pol.down, .int .i64 ev.pol.cool, .slice ra rn rc] : Array Value)[o]? := fun o => by unfold World.cell?; rw [q0]; rfl
  have hB : ∀ o, w3.cell? ⟨w.heap.size + 1, o, none⟩ = (#[.int .i64 0, .int .i64 0, .int .i64 0, .int .i64 0, .int .i64 0, .int .i64 0, .int .i64 0, .int .i64 0, .int .i64 0, .int .i64 0, .int .i64 0, .int .i64 0, .int .i64 0, .slice none 0 0] : Array Value)[o]? := fun o => by unfold World.cell?; rw [q1]; rfl
  have fA : ∀ o, w3.frozen? ⟨w.heap.size, o, none⟩ = false := fun o => by unfold World.frozen?; rw [q0]; simp
  have fB : ∀ o, w3.frozen? ⟨w.heap.size + 1, o, none⟩ = false := fun o => by unfold World.frozen?; rw [q1]; simp
  have HB3 := Lib.hid (HB2.out.trans (hb3.mono (by omega)))
  have HO := Lib.hid hown
  have hz3 := hb3.size
  clear q0 q1 hown hb3 HCL
  simp only [Hdr.val]
  go_wp2_with fail
  refine bodyPost_ret (v := .agg #[.int .i64 ev.dot.node, .int .i64 ev.dot.seq, .int .i64 ev.time, .int .i64 ev.kind, .int .i64 ev.work, .int .i64 ev.value, .int .i64 ev.pol.mn, .int .i64 ev.pol.mx, .int .i64 ev.pol.goal, .int .i64 ev.pol.slack, .int .i64 ev.pol.up, .int .i64 ev.pol.down, .int .i64 ev.pol.cool, .slice oa on oc]) (by simp [results, Try.results26, go_sem, cell_set, hB]) rfl ⟨⟨oa, on, oc⟩, rfl, ?_, ?_⟩
  · refine (HO.out.keep fun g hg2 => ?_).lower (by omega)
    have hgb := (HO.out.lt g hg2).1
    have key0 : ∀ (W : World) (o : Nat) (u : Value), (W.setCell ⟨w.heap.size, o, none⟩ u).heap[g]? = W.heap[g]? := fun W o u => Below.heap_setCell _ _ _ _ (by show g ≠ w.heap.size; omega)
    have key1 : ∀ (W : World) (o : Nat) (u : Value), (W.setCell ⟨w.heap.size + 1, o, none⟩ u).heap[g]? = W.heap[g]? := fun W o u => Below.heap_setCell _ _ _ _ (by show g ≠ w.heap.size + 1; omega)
    simp only [key0, key1]
  · have hb := HB3.out
    clear hA hB fA fB
    go_grown
end Go.Proofs.Ytidiapgdgoeplaa
