/-
  The document's own reckoning of a set of dots: Has, of a dot that may be.
-/
import Derived.Test.YtkdjfoehpioghaaRefRight
namespace Go.Proofs.Ytkdjfoehpioghaa
open Go.Shelf Go.RowKit Go.Lib Go.Sort
set_option linter.unusedVariables false
theorem alloc2' (w : World) (o0 o1 : Obj) : ((w.alloc o0).alloc o1).heap[w.heap.size]? = some o0 ∧ ((w.alloc o0).alloc o1).heap[w.heap.size + 1]? = some o1 ∧ Below w.heap.size w ((w.alloc o0).alloc o1) ∧ ((w.alloc o0).alloc o1).heap.size = w.heap.size + 2 := by
  have s1 : (w.alloc o0).heap.size = w.heap.size + 1 := World.size_alloc _ _
  refine ⟨?_, ?_, ((Below.refl _ _).alloc (Nat.le_refl _) _).alloc (by omega) _, by rw [World.size_alloc, s1]⟩
  · rw [Below.heap_alloc _ _ _ (by omega), heap_alloc_new]
  · rw [← s1, heap_alloc_new]
theorem refGrid {s : DSet} {d : Dot} (hm : May d) : s.grid d.node.toNat d.seq.toNat = true ↔ s.Right ∧ (d.seq ≤ s.u d.node.toNat ∨ d ∈ s.more) := by
  rw [DSet.grid_iff]
  unfold May at hm
  have e : (⟨(d.node.toNat : Int), (d.seq.toNat : Int)⟩ : Dot) = d := by
    cases d
    simp only [Dot.mk.injEq] at *
    omega
  rw [e]
  have e2 : (d.seq.toNat : Int) = d.seq := by omega
  rw [e2]
  constructor
  · rintro ⟨a, _, _, b⟩; exact ⟨a, b⟩
  · rintro ⟨a, b⟩; exact ⟨a, by omega, by omega, b⟩
set_option maxHeartbeats 8000000 in
theorem refHas_any (oa : Option Addr) (cap : Nat) (s : DSet) (d : Dot) (hm : May d) (w : World) (h : SlAt Dot.cells w (.slice oa s.more.length cap) s.more) (hl : s.more.length ≤ 1000000) :
    Calls Try.prog 30 #[.agg #[.int .i64 (s.u 0), .int .i64 (s.u 1), .int .i64 (s.u 2), .int .i64 (s.u 3), .int .i64 (s.u 4), .int .i64 (s.u 5), .int .i64 (s.u 6), .int .i64 (s.u 7), .slice oa s.more.length cap], .agg #[.int .i64 d.node, .int .i64 d.seq]] w fun e w' => e = .returned (.bool (s.grid d.node.toNat d.seq.toNat)) ∧ Below w.heap.size w w' := by
  have hmay := fun W => mayR_any d W
  simp only [show mayB d = true from decide_eq_true hm] at hmay
  obtain ⟨r0, r1, hb2, hs2⟩ := alloc2' w (.cells #[.int .i64 (s.u 0), .int .i64 (s.u 1), .int .i64 (s.u 2), .int .i64 (s.u 3), .int .i64 (s.u 4), .int .i64 (s.u 5), .int .i64 (s.u 6), .int .i64 (s.u 7), .slice oa s.more.length cap] 25) (.cells #[.int .i64 d.node, .int .i64 d.seq] 77)
  have hsl := h.below Dot.cells_len (by decide) hb2 (Nat.le_refl _)
  have hri := refRight_any s oa cap _ hsl hl
  have hgi := refGrid (s := s) hm
  have R0 := Lib.hid r0
  have R1 := Lib.hid r1
  have HB2 := Lib.hid hb2
  have HSL := Lib.hid hsl
  have HM := Lib.hid hmay
  obtain ⟨rb, hrb⟩ : ∃ rb, s.rightB = rb := ⟨_, rfl⟩
  rw [hrb] at hri
  have HRI := Lib.hid hri
  have HRB := Lib.hid hrb
  have HGI := Lib.hid hgi
  obtain ⟨c, hc⟩ : ∃ c, s.grid d.node.toNat d.seq.toNat = c := ⟨_, rfl⟩
  rw [hc] at HGI
  rw [hc]
  clear r0 r1 hb2 hsl h hmay hri hrb hgi hc
  go_enter Try.func30, Try.ntmps30
  go_wp2_with fail
  generalize ((w.alloc (.cells #[.int .i64 (s.u 0), .int .i64 (s.u 1), .int .i64 (s.u 2), .int .i64 (s.u 3), .int .i64 (s.u 4), .int .i64 (s.u 5), .int .i64 (s.u 6), .int .i64 (s.u 7), .slice oa s.more.length cap] 25)).alloc (.cells #[.int .i64 d.node, .int .i64 d.seq] 77)) = w2 at *
  refine HRI.out.mono ?_
  rintro e w3 ⟨rfl, hb3⟩
  have hz3 := hb3.size
  have q0 := (hb3.block w.heap.size (by omega)).trans R0.out
  have q1 := (hb3.block (w.heap.size + 1) (by omega)).trans R1.out
  have a0 := cell_of_row w3 (w.heap.size + 1) 0 _ _ _ q1
  have a1 := cell_of_row w3 (w.heap.size + 1) 1 _ _ _ q1
  have HB3 := Lib.hid (HB2.out.trans (hb3.mono (by omega)))
  have HSL3 := Lib.hid (HSL.out.below Dot.cells_len (by decide) hb3 (Nat.le_refl _))
  have Q0 := Lib.hid q0
  have Q1 := Lib.hid q1
  clear hb3 q0 q1 HRI HB2 HSL R0 R1
  cases rb with
  | false =>
    have hc : c = false := by
      rw [← Bool.not_eq_true]
      exact fun hc => by have := DSet.rightB_true (HGI.out.1 hc).1; rw [HRB.out] at this; cases this
    subst hc
    go_wp2_with fail
    go_ret
    exact ⟨rfl, HB3.out⟩
  | true =>
    have HRT : Hid s.Right := by
      by_cases hr : s.Right
      · exact hr
      · have := DSet.rightB_false hr; rw [HRB.out] at this; cases this
    go_wp2_with fail
    refine (HM.out _).mono ?_
    rintro e w4 ⟨rfl, hg4⟩
    have hb4 := hg4.below
    have hz4 := hb4.size
    have p0 := (hb4.block w.heap.size (by omega)).trans Q0.out
    have p1 := (hb4.block (w.heap.size + 1) (by omega)).trans Q1.out
    have HB4 := Lib.hid (HB3.out.trans (hb4.mono (by omega)))
    have HSL4 := Lib.hid (HSL3.out.below Dot.cells_len (by decide) hb4 (Nat.le_refl _))
    have P0 := Lib.hid p0
    have P1 := Lib.hid p1
    have x0 : w4.drew.cell? ⟨w.heap.size + 1, 0, none⟩ = some (.int .i64 d.node) := cell_of_row w4.drew (w.heap.size + 1) 0 _ _ _ p1
    have x1 : w4.drew.cell? ⟨w.heap.size + 1, 1, none⟩ = some (.int .i64 d.seq) := cell_of_row w4.drew (w.heap.size + 1) 1 _ _ _ p1
    have hmm := hm
    unfold May at hmm
    obtain ⟨h1, h2, h3, h4⟩ := hmm
    have u0 : w4.drew.cell? ⟨w.heap.size, d.node.toNat, none⟩ = some (.int .i64 (s.u d.node.toNat)) := set_up (u := s.u) (W := w4.drew) p0 d.node.toNat (by omega)
    have hnodez : ((d.node.toNat : Nat) : Int) = d.node := Int.toNat_of_nonneg h1
    have hm8 : w4.drew.cell? ⟨w.heap.size, 8, none⟩ = some (.slice oa s.more.length cap) := cell_of_row w4.drew w.heap.size 8 _ _ _ p0
    have HMM := Lib.hid hm
    obtain ⟨ux, hux⟩ : ∃ ux, s.u d.node.toNat = ux := ⟨_, rfl⟩
    rw [hux] at u0 HGI
    clear hb4 hg4 p0 p1 a0 a1 HM HB3 HSL3 Q0 Q1 hm hux
    go_wp2_with fail
    by_cases h5 : d.seq ≤ ux
    · have hc : c = true := HGI.out.2 ⟨HRT.out, .inl h5⟩
      subst hc
      go_region_law (fail)
      all_goals
        go_wp2_with fail
        go_ret
        exact ⟨rfl, below_drew HB4.out⟩
    · have HG2 : Hid (c = true ↔ d ∈ s.more) := by
        show _ ↔ _
        rw [HGI.out]
        exact ⟨fun h => h.2.resolve_left h5, fun h => ⟨HRT.out, .inr h⟩⟩
      have h5n : ¬ d.seq ≤ ux := h5
      clear h5
      go_region_law (fail)
      all_goals
        go_wp2_with fail
        go_loopg [26] s.more.length (fun gk s26 wr => ∃ (i : Nat), s26 = .int .i64 i ∧ i ≤ s.more.length ∧ s.more.length - i ≤ gk ∧ Hid (d ∉ s.more.take i) ∧ Hid (Below w4.heap.size w4 wr))
        case atStart => exact ⟨0, rfl, Nat.zero_le _, Nat.le_refl _, (by show d ∉ _; simp), below_drew (Below.refl _ _)⟩
        case round =>
          obtain ⟨i, rfl, hi, hg, HN, HB⟩ := hrel
          have hszw := HB.out.size
          by_cases hlt : i < s.more.length
          · have hltz : (i : Int) < (s.more.length : Int) := by omega
            have hsl := HSL4.out.below Dot.cells_len (by decide) HB.out (Nat.le_refl _)
            obtain ⟨b, off, rfl⟩ := hsl.plain Dot.cells_len (by decide) (by intro e; rw [e] at hlt; exact absurd hlt (by simp))
            have c0 := hsl.cell Dot.cells_len (i := i) (c := 0) hlt (by decide)
            have c1 := hsl.cell Dot.cells_len (i := i) (c := 1) hlt (by decide)
            simp only [Dot.cells, List.getElem?_cons_zero, List.getElem?_cons_succ] at c0 c1
            rw [show off + (i * 2 + 0) = off + i * 2 by omega] at c0
            rw [show off + (i * 2 + 1) = off + i * 2 + 1 by omega] at c1
            have hba := (Below.refl wr.heap.size wr).alloc (Nat.le_refl _) (.cells #[.int .i64 (s.more[i]).node, .int .i64 (s.more[i]).seq] 77)
            have p1 := (hba.block (w.heap.size + 1) (by omega)).trans ((HB.out.block _ (by omega)).trans P1.out)
            have y0 := cell_of_row _ (w.heap.size + 1) 0 _ _ _ p1
            have y1 := cell_of_row _ (w.heap.size + 1) 1 _ _ _ p1
            have htk : s.more.take (i + 1) = s.more.take i ++ [s.more[i]] := List.take_succ_eq_append_getElem hlt
            have hmem : s.more[i] ∈ s.more := List.getElem_mem hlt
            have HBA := Lib.hid (HB.out.trans (hba.mono hszw))
            generalize s.more[i] = x at *
            have HTK := Lib.hid htk
            have HMEM := Lib.hid hmem
            clear hsl hba p1 htk hmem HB
            by_cases hx : x = d
            · subst hx
              have hc : c = true := HG2.out.2 HMEM.out
              subst hc
              go_wp2_with fail
              go_ret
              exact ⟨rfl, HB4.out.trans (HBA.out.mono (by omega))⟩
            · have HX := Lib.hid hx
              by_cases hse : x.seq = d.seq
              · have hne : ¬ x.node = d.node := fun e1 => hx (by cases x; cases d; simp only [Dot.mk.injEq] at *; exact ⟨e1, hse⟩)
                clear hx hse
                go_wp2_with fail
                go_roundg (s.more.length - (i + 1))
                case measure => omega
                case rel => exact ⟨i + 1, by go_num, by omega, Nat.le_refl _, (by
                  show d ∉ _
                  rw [HTK.out, List.mem_append, List.mem_singleton]
                  rintro (h | h)
                  · exact HN.out h
                  · exact HX.out h.symm), HBA.out⟩
              · clear hx
                go_wp2_with fail
                all_goals
                  go_roundg (s.more.length - (i + 1))
                  case measure => omega
                  case rel => exact ⟨i + 1, by go_num, by omega, Nat.le_refl _, (by
                    show d ∉ _
                    rw [HTK.out, List.mem_append, List.mem_singleton]
                    rintro (h | h)
                    · exact HN.out h
                    · exact HX.out h.symm), HBA.out⟩
          · have hltz : ¬ (i : Int) < (s.more.length : Int) := by omega
            obtain rfl : i = s.more.length := by omega
            have hc : c = false := by
              rw [← Bool.not_eq_true]
              exact fun hc => by have := HG2.out.1 hc; have h9 := HN.out; rw [List.take_length] at h9; exact h9 this
            subst hc
            go_wp2_with fail
            go_ret
            exact ⟨rfl, HB4.out.trans (HB.out.mono (by omega))⟩
end Go.Proofs.Ytkdjfoehpioghaa
