/-
  How the structs that WindowTurns and WindowLoads are asked of are opened. No function of the program is entered.
-/
import Derived.Test.YtfbbafmklahmmaaNums
namespace Go.Proofs.Ytfbbafmklahmmaa
open Go.ChangeShapes Go.WideShapes Go.ChangeAt Go.RowKit
set_option linter.unusedVariables false
section
variable {H : Type} {enc : TypeId × Value → H} {w : World} {base : Nat} {spare : Nat → Bool} {held : Bool}
theorem cellsTurned : Try.prog.cellsOf 39 = 4 := by kernel_rfl
theorem open_turned {b0 : Nat} {r : Reach} {v : Value} {d : DataW H} {p : List MemPlace} (hv : Value.okWide Try.prog w r b0 39 v) (h : DataW.Trod enc Try.prog w base spare held 39 v d p) (hw : Within 39 d) :
    ∃ oa cap ps work size turn, v = .agg #[.slice oa ps.length cap, .int .i64 work, .int .i64 size, .int .u8 turn] ∧ EvsAt w (.slice oa ps.length cap) ps ∧ ps.length ≤ 1099511627776 ∧ (∀ p ∈ ps, p.2.fits) ∧ 0 ≤ turn ∧ turn ≤ 255 := by
  obtain ⟨cs, rfl, _⟩ := okWide_struct Try.underlying39 hv
  obtain ⟨fuel, hf0⟩ := h
  obtain ⟨xs, n, _, hxe, hl, hlen, hf⟩ := DataW.trod_struct Try.underlying39 hf0
  rw [cellsTurned] at hl
  obtain ⟨c0, c1, c2, c3, hcs⟩ := list4 hl
  rw [hcs] at hf
  have hx : xs.length = 4 := hlen
  have h0 : DataW.trod enc Try.prog w base spare held n 22 [c0] = xs[0]? := hf 0 _ rfl
  have h1 : DataW.trod enc Try.prog w base spare held n 3 [c1] = xs[1]? := hf 1 _ rfl
  have h2 : DataW.trod enc Try.prog w base spare held n 3 [c2] = xs[2]? := hf 2 _ rfl
  have h3 : DataW.trod enc Try.prog w base spare held n 5 [c3] = xs[3]? := hf 3 _ rfl
  rw [List.getElem?_eq_getElem (by omega)] at h0 h1 h2 h3
  have hw0 : Within 22 xs[0].1 := by
    have hd : d = .agg (xs.map (·.1)) := congrArg Prod.fst hxe
    rw [hd] at hw
    exact within_fld Try.underlying39 hw 0 rfl (by rw [List.getElem?_map, List.getElem?_eq_getElem (by omega)]; rfl)
  obtain ⟨oa, cap, ps, e0, s0, l0, f0⟩ := trod_evs h0 hw0
  obtain ⟨z1, e1, _, w1⟩ := DataW.trod_int Try.underlying3 h1
  obtain ⟨z2, e2, _, w2⟩ := DataW.trod_int Try.underlying3 h2
  obtain ⟨z3, e3, _, w3⟩ := DataW.trod_int Try.underlying5 h3
  simp only [List.cons.injEq, and_true] at e0 e1 e2 e3
  subst e0 e1 e2 e3
  refine ⟨oa, cap, ps, z1, z2, z3, ?_, s0, l0, f0, (u8_of_wf w3).1, (u8_of_wf w3).2⟩
  have : cs = #[.slice oa ps.length cap, .int .i64 z1, .int .i64 z2, .int .u8 z3] := by
    have h5 : cs.toList = [.slice oa ps.length cap, .int .i64 z1, .int .i64 z2, .int .u8 z3] := by simpa [Value.cells] using hcs
    exact Array.toList_inj.1 (by simpa using h5)
  rw [this]
theorem cellsAsked : Try.prog.cellsOf 24 = 4 := by kernel_rfl
theorem open_asked {b0 : Nat} {r : Reach} {v : Value} {d : DataW H} {p : List MemPlace} (hv : Value.okWide Try.prog w r b0 24 v) (h : DataW.Trod enc Try.prog w base spare held 24 v d p) (hw : Within 24 d) :
    ∃ oa cap ps work node size, v = .agg #[.slice oa ps.length cap, .int .i64 work, .int .i64 node, .int .i64 size] ∧ EvsAt w (.slice oa ps.length cap) ps ∧ ps.length ≤ 1099511627776 ∧ (∀ p ∈ ps, p.2.fits) := by
  obtain ⟨cs, rfl, _⟩ := okWide_struct Try.underlying24 hv
  obtain ⟨fuel, hf0⟩ := h
  obtain ⟨xs, n, _, hxe, hl, hlen, hf⟩ := DataW.trod_struct Try.underlying24 hf0
  rw [cellsAsked] at hl
  obtain ⟨c0, c1, c2, c3, hcs⟩ := list4 hl
  rw [hcs] at hf
  have hx : xs.length = 4 := hlen
  have h0 : DataW.trod enc Try.prog w base spare held n 22 [c0] = xs[0]? := hf 0 _ rfl
  have h1 : DataW.trod enc Try.prog w base spare held n 3 [c1] = xs[1]? := hf 1 _ rfl
  have h2 : DataW.trod enc Try.prog w base spare held n 3 [c2] = xs[2]? := hf 2 _ rfl
  have h3 : DataW.trod enc Try.prog w base spare held n 3 [c3] = xs[3]? := hf 3 _ rfl
  rw [List.getElem?_eq_getElem (by omega)] at h0 h1 h2 h3
  have hw0 : Within 22 xs[0].1 := by
    have hd : d = .agg (xs.map (·.1)) := congrArg Prod.fst hxe
    rw [hd] at hw
    exact within_fld Try.underlying24 hw 0 rfl (by rw [List.getElem?_map, List.getElem?_eq_getElem (by omega)]; rfl)
  obtain ⟨oa, cap, ps, e0, s0, l0, f0⟩ := trod_evs h0 hw0
  obtain ⟨z1, e1, _, w1⟩ := DataW.trod_int Try.underlying3 h1
  obtain ⟨z2, e2, _, w2⟩ := DataW.trod_int Try.underlying3 h2
  obtain ⟨z3, e3, _, w3⟩ := DataW.trod_int Try.underlying3 h3
  simp only [List.cons.injEq, and_true] at e0 e1 e2 e3
  subst e0 e1 e2 e3
  refine ⟨oa, cap, ps, z1, z2, z3, ?_, s0, l0, f0⟩
  have : cs = #[.slice oa ps.length cap, .int .i64 z1, .int .i64 z2, .int .i64 z3] := by
    have h5 : cs.toList = [.slice oa ps.length cap, .int .i64 z1, .int .i64 z2, .int .i64 z3] := by simpa [Value.cells] using hcs
    exact Array.toList_inj.1 (by simpa using h5)
  rw [this]
end
end Go.Proofs.Ytfbbafmklahmmaa
