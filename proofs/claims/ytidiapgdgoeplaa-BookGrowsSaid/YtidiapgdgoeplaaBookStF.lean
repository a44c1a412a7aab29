/-
  The function value that Stands walks with.
-/
import Derived.Test.YtidiapgdgoeplaaBookKnown
namespace Go.Proofs.Ytidiapgdgoeplaa
open Go.Shelf Go.RowKit Go.Lib Go.Sort
set_option linter.unusedVariables false
/-- what Stands marks at an event -/
def standsAt (work : Int) (e : Ev) (x : Dot) : Prop := (e.kind ≠ 1 ∧ e.work = work) ∧ (x = e.dot ∨ x ∈ e.rem)
set_option maxHeartbeats 8000000 in
set_option maxRecDepth 8000 in
theorem standsFn_any (wb kb km : Nat) (work : Int) (ds : Dot → Prop) (p : PEv) (W : World) (hp : SlAt Dot.cells W p.1.val p.2.rem) (hl : p.2.rem.length ≤ 1000000) (hpb : p.2.rem = [] ∨ ∀ b, p.1.val.ownBlock = some b → b ≠ km)
    (hwb : W.heap[wb]? = some (.cells #[.int .i64 work] 3)) (hk : MarksAt kb km W ds) (hmay : May p.2.dot) (hmr : ∀ d ∈ p.2.rem, May d) :
    Calls Try.prog 29 #[evVal p, .pointer (some ⟨wb, 0, none⟩), .pointer (some ⟨kb, 0, none⟩)] W fun e w' => e = .returned (.bool true) ∧ MarksAt kb km w' (fun x => ds x ∨ standsAt work p.2 x) ∧ W.grownBy w' (some km) := by
  have eg : ∀ args w, (callFunc 30 args).run Try.prog w = .ok (.enter 30 args) w := enters_of Try.func30 (by kernel_rfl) rfl
  obtain ⟨⟨ra, rn, rc⟩, ev⟩ := p
  simp only at hp hl hmay hmr hpb ⊢
  have hb0 := (Below.refl W.heap.size W).alloc (Nat.le_refl _) (.cells #[.int .i64 ev.dot.node, .int .i64 ev.dot.seq, .int .i64 ev.time, .int .i64 ev.kind, .int .i64 ev.work, .int .i64 ev.value, .int .i64 ev.pol.mn, .int .i64 ev.pol.mx, .int .i64 ev.pol.goal, .int .i64 ev.pol.slack, .int .i64 ev.pol.up, .int .i64 ev.pol.down, .int .i64 ev.pol.cool, .slice ra rn rc] 33)
  have hr0 : (W.alloc (.cells #[.int .i64 ev.dot.node, .int .i64 ev.dot.seq, .int .i64 ev.time, .int .i64 ev.kind, .int .i64 ev.work, .int .i64 ev.value, .int .i64 ev.pol.mn, .int .i64 ev.pol.mx, .int .i64 ev.pol.goal, .int .i64 ev.pol.slack, .int .i64 ev.pol.up, .int .i64 ev.pol.down, .int .i64 ev.pol.cool, .slice ra rn rc] 33)).heap[W.heap.size]? = _ := heap_alloc_new W _
  obtain ⟨a0, a1, a2, a3, a4, a5, a6, a7, a8, a9, a10, a11, a12, a13⟩ := ev_row hr0
  have m0 := cell_of_row _ wb 0 _ _ _ ((hb0.block wb (Array.getElem?_eq_some_iff.1 hwb).1).trans hwb)
  have hk0 := hk.keep (hb0.block kb hk.lt.1) (hb0.block km hk.lt.2)
  have q0 := cell_of_row _ kb 0 _ _ _ hk0.obj
  have hga := World.grownBy_alloc W (.cells #[.int .i64 ev.dot.node, .int .i64 ev.dot.seq, .int .i64 ev.time, .int .i64 ev.kind, .int .i64 ev.work, .int .i64 ev.value, .int .i64 ev.pol.mn, .int .i64 ev.pol.mx, .int .i64 ev.pol.goal, .int .i64 ev.pol.slack, .int .i64 ev.pol.up, .int .i64 ev.pol.down, .int .i64 ev.pol.cool, .slice ra rn rc] 33) (some km)
  have HGA := Lib.hid hga
  have HK0 := Lib.hid hk0
  unfold evVal pcells evCells
  simp only [Hdr.val]
  by_cases hyes : ev.kind ≠ 1 ∧ ev.work = work
  · obtain ⟨hy1, hy2⟩ := hyes
    obtain ⟨E, g1, g2⟩ := hk0.map
    have hlen := entries_len g1 fun p hp => ((g2 p.1 p.2).1 hp).2.1
    obtain ⟨w2, hrun, hm2, hg2⟩ := g1.store Try.underlying53 (by omega) (may_fits hmay) (.bool true)
    have h2 : MarksAt kb km w2 (fun x => ds x ∨ x = ev.dot) := .put hk.ne ((hg2.block kb hk0.lt.1 (fun e => hk.ne (Option.some.inj e))).trans hk0.obj) g2 hmay hm2
    have hr2 := (hg2.block W.heap.size (by simp) (fun e => by have := Option.some.inj e; have := hk.lt.2; omega)).trans hr0
    have hx13 := (ev_row hr2).2.2.2.2.2.2.2.2.2.2.2.2.2
    have hrn : rn = ev.rem.length := by
      obtain ⟨_, _, hv, _⟩ := hp.slice_of
      simp only [Hdr.val, Value.slice.injEq] at hv
      exact hv.2.1
    have hp2 : SlAt Dot.cells w2 (.slice ra rn rc) ev.rem := (hp.below Dot.cells_len (by decide) hb0 (Nat.le_refl _)).keep (by
      by_cases hl0 : ev.rem = []
      · exact .inl hl0
      · refine .inr fun b hb => hg2.block b ?_ (fun e => (hpb.resolve_left hl0) b hb (Option.some.inj e))
        have := hp.lt Dot.cells_len (by decide) hl0 b hb
        simp; omega)
    have hlt2 : ∀ W', w2.grownBy W' (some km) → SlAt Dot.cells W' (.slice ra rn rc) ev.rem := fun W' hg => hp2.keep (by
      by_cases hl0 : ev.rem = []
      · exact .inl hl0
      · exact .inr fun b hb => hg.block b (hp2.lt Dot.cells_len (by decide) hl0 b hb) (fun e => (hpb.resolve_left hl0) b hb (Option.some.inj e)))
    have hea := beach_any 30 #[] #[.pointer (some ⟨kb, 0, none⟩)] eg ra rc ev.rem
      (fun i W => MarksAt kb km W (fun x => (ds x ∨ x = ev.dot) ∨ x ∈ ev.rem.take i) ∧ w2.grownBy W (some km))
      ⟨fun i hi W hI => (standMark_any kb km ev.rem[i] (hmr _ (List.getElem_mem hi)) _ W hI.1).mono (by
        rintro e w' ⟨rfl, h1, h2⟩
        refine ⟨rfl, ?_, hI.2.trans h2⟩
        have : (fun x => (ds x ∨ x = ev.dot) ∨ x ∈ ev.rem.take (i + 1)) = fun x => ((ds x ∨ x = ev.dot) ∨ x ∈ ev.rem.take i) ∨ x = ev.rem[i] := by
          funext x
          rw [List.take_add_one, List.getElem?_eq_getElem hi, Option.toList_some]
          exact propext (by rw [List.mem_append, List.mem_singleton, or_assoc, or_assoc, or_assoc])
        rw [this]
        exact h1), fun i W W' hI hb => ⟨hI.1.keep (hb.block _ hI.1.lt.1) (hb.block _ hI.1.lt.2), hI.2.trans ⟨hb.os, hb.tape, hb.output, hb.size, fun j hj _ => hb.block j hj⟩⟩⟩
      (fun i W hI => by rw [← hrn]; exact hlt2 W hI.2) hl w2 ⟨by simpa using h2, World.grownBy.refl _ _⟩
    rw [List.take_length, ← hrn] at hea
    have hgt := hga.trans hg2
    have heq : (fun x => ds x ∨ standsAt work ev x) = fun x => (ds x ∨ x = ev.dot) ∨ x ∈ ev.rem := by
      funext x
      unfold standsAt
      refine propext ⟨?_, ?_⟩
      · rintro (h | ⟨_, h | h⟩)
        · exact .inl (.inl h)
        · exact .inl (.inr h)
        · exact .inr h
      · rintro ((h | h) | h)
        · exact .inl h
        · exact .inr ⟨⟨hy1, hy2⟩, .inl h⟩
        · exact .inr ⟨⟨hy1, hy2⟩, .inr h⟩
    rw [heq]
    have q2 := cell_of_row _ kb 0 _ _ _ h2.obj
    have HEA := Lib.hid hea
    have HGT := Lib.hid hgt
    have hkf : (ev.kind != 1) = true := by simpa using hy1
    have hwt : (ev.work == work) = true := by simpa using hy2
    unfold dotVal at hrun
    clear hea hgt heq hlt2 hp2 hrn hr2 h2 hm2 hg2 hlen g1 g2 hk0 hga hp hwb hk hr0 hb0 hpb hmr hmay hl hy1 hy2 HK0 HGA
    go_enter Try.func29, Try.ntmps29
    go_wp2_with fail
    refine HEA.out.mono ?_
    rintro e w3 ⟨rfl, h1, h2⟩
    have H1 := Lib.hid h1
    have H2 := Lib.hid h2
    clear h1 h2 HEA
    go_wp2_with fail
    go_ret
    exact ⟨rfl, H1.out, HGT.out.trans H2.out⟩
  · have heq : (fun x => ds x ∨ standsAt work ev x) = ds := by
      funext x
      refine propext ⟨fun h => h.resolve_right fun h2 => hyes h2.1, .inl⟩
    rw [heq]
    by_cases hk1 : ev.kind = 1
    · have hkb : (ev.kind != 1) = false := by simpa using hk1
      clear hk1 hyes
      clear hk0 hga heq hp hwb hk hr0 hb0 hpb hmr hmay hl
      go_enter Try.func29, Try.ntmps29
      go_wp2_with fail
      go_ret
      exact ⟨rfl, HK0.out, HGA.out⟩
    · have hw : (ev.work == work) = false := by simpa using fun h => hyes ⟨hk1, h⟩
      have hkb : (ev.kind != 1) = true := by simpa using hk1
      clear hk1 hyes
      clear hk0 hga heq hp hwb hk hr0 hb0 hpb hmr hmay hl
      go_enter Try.func29, Try.ntmps29
      go_wp2_with fail
      go_ret
      exact ⟨rfl, HK0.out, HGA.out⟩
end Go.Proofs.Ytidiapgdgoeplaa
