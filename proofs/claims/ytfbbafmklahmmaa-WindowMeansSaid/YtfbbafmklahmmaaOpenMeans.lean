/-
  How the argument of WindowMeans is opened: a struct with a slice of uint16 and three numbers. No function of the program is entered.
-/
import Derived.Test.YtfbbafmklahmmaaOpenEv
import Derived.Test.YtfbbafmklahmmaaLaw10c
namespace Go.Proofs.Ytfbbafmklahmmaa
open Go.ChangeShapes Go.WideShapes Go.ChangeAt Go.RowKit
set_option linter.unusedVariables false
theorem u8_of_wf {n : Int} (h : (Lit.int .u8 n).wf = true) : 0 ≤ n ∧ n ≤ 255 := by
  have hmin : IntKind.u8.min = 0 := rfl
  have hmax : IntKind.u8.max = 255 := rfl
  simp only [Lit.wf, Bool.and_eq_true, decide_eq_true_eq] at h
  exact ⟨by omega, by omega⟩
theorem u16_of_wf {n : Int} (h : (Lit.int .u16 n).wf = true) : 0 ≤ n ∧ n ≤ 65535 := by
  have hmin : IntKind.u16.min = 0 := rfl
  have hmax : IntKind.u16.max = 65535 := rfl
  simp only [Lit.wf, Bool.and_eq_true, decide_eq_true_eq] at h
  exact ⟨by omega, by omega⟩
section
variable {H : Type} {enc : TypeId × Value → H} {w : World} {base : Nat} {spare : Nat → Bool} {held : Bool}
theorem cellsU16 : Try.prog.cellsOf 49 = 1 := by kernel_rfl
theorem cellsU8 : Try.prog.cellsOf 5 = 1 := by kernel_rfl
theorem cellsMeans : Try.prog.cellsOf 51 = 4 := by kernel_rfl
theorem list4 {l : List Value} (h : l.length = 4) : ∃ a b c d, l = [a, b, c, d] := by
  match l, h with
  | [a, b, c, d], _ => exact ⟨a, b, c, d, rfl⟩
theorem open_means {b0 : Nat} {r : Reach} {v : Value} {d : DataW H} {p : List MemPlace} (hv : Value.okWide Try.prog w r b0 51 v) (h : DataW.Trod enc Try.prog w base spare held 51 v d p) (hw : Within 51 d) :
    ∃ oa cap vs size at' more, v = .agg #[.slice oa vs.length cap, .int .u8 size, .int .u8 at', .int .u16 more] ∧ SlAt u16cells w (.slice oa vs.length cap) vs ∧ (∀ v ∈ vs, 0 ≤ v ∧ v ≤ 65535) ∧ 0 ≤ size ∧ size ≤ 255 ∧ 0 ≤ at' ∧ at' ≤ 255 ∧ 0 ≤ more ∧ more ≤ 65535 := by
  obtain ⟨cs, rfl, _⟩ := okWide_struct Try.underlying51 hv
  obtain ⟨fuel, hf0⟩ := h
  obtain ⟨xs, n, _, hxe, hl, hlen, hf⟩ := DataW.trod_struct Try.underlying51 hf0
  rw [cellsMeans] at hl
  obtain ⟨c0, c1, c2, c3, hcs⟩ := list4 hl
  rw [hcs] at hf
  have hx : xs.length = 4 := hlen
  have h0 : DataW.trod enc Try.prog w base spare held n 48 [c0] = xs[0]? := hf 0 _ rfl
  have h1 : DataW.trod enc Try.prog w base spare held n 5 [c1] = xs[1]? := hf 1 _ rfl
  have h2 : DataW.trod enc Try.prog w base spare held n 5 [c2] = xs[2]? := hf 2 _ rfl
  have h3 : DataW.trod enc Try.prog w base spare held n 49 [c3] = xs[3]? := hf 3 _ rfl
  rw [List.getElem?_eq_getElem (by omega)] at h0 h1 h2 h3
  have hw0 : Within 48 xs[0].1 := by
    have hd : d = .agg (xs.map (·.1)) := congrArg Prod.fst hxe
    rw [hd] at hw
    exact within_fld Try.underlying51 hw 0 rfl (by rw [List.getElem?_map, List.getElem?_eq_getElem (by omega)]; rfl)
  obtain ⟨oa, cap, vs, e0, s0, _, f0⟩ := trod_row u16cells 1 u16cells_len (by decide) Try.underlying48 cellsU16 (fun v => 0 ≤ v ∧ v ≤ 65535) (fun n cs x hx _ => by
    obtain ⟨z, rfl, _, hwf⟩ := DataW.trod_int Try.underlying49 hx
    exact ⟨z, rfl, u16_of_wf hwf⟩) h0 hw0
  obtain ⟨z1, e1, _, w1⟩ := DataW.trod_int Try.underlying5 h1
  obtain ⟨z2, e2, _, w2⟩ := DataW.trod_int Try.underlying5 h2
  obtain ⟨z3, e3, _, w3⟩ := DataW.trod_int Try.underlying49 h3
  simp only [List.cons.injEq, and_true] at e0 e1 e2 e3
  subst e0 e1 e2 e3
  refine ⟨oa, cap, vs, z1, z2, z3, ?_, s0, f0, (u8_of_wf w1).1, (u8_of_wf w1).2, (u8_of_wf w2).1, (u8_of_wf w2).2, (u16_of_wf w3).1, (u16_of_wf w3).2⟩
  have : cs = #[.slice oa vs.length cap, .int .u8 z1, .int .u8 z2, .int .u16 z3] := by
    have h5 : cs.toList = [.slice oa vs.length cap, .int .u8 z1, .int .u8 z2, .int .u16 z3] := by simpa [Value.cells] using hcs
    exact Array.toList_inj.1 (by simpa using h5)
  rw [this]
end
end Go.Proofs.Ytfbbafmklahmmaa
