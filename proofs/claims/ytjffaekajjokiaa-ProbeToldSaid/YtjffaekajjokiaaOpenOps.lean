/-
  How an argument that is a list of steps is opened, in this text's own words (OpsAt), with the bounds of the form's reach. No function of the program is entered.
-/
import Derived.Test.YtjffaekajjokiaaOpenInts
import Derived.Test.YtjffaekajjokiaaOps
namespace Go.Proofs.Ytjffaekajjokiaa
open Go.ChangeShapes Go.WideShapes Go.ChangeAt Go.RowKit
set_option linter.unusedVariables false
theorem list3 {l : List Value} (h : l.length = 3) : ∃ a b c, l = [a, b, c] := by
  match l, h with
  | [a, b, c], _ => exact ⟨a, b, c, rfl⟩
section
variable {H : Type} {enc : TypeId × Value → H} {w : World} {base : Nat} {spare : Nat → Bool} {held : Bool}
theorem cellsOp : Try.prog.cellsOf 34 = 3 := by kernel_rfl
theorem bytesOp : Try.prog.bytesOf 34 = 40 := by kernel_rfl
theorem trod_op {fuel : Nat} {cs : List Value} {x : DataW H × List MemPlace} (h : DataW.trod enc Try.prog w base spare held fuel 34 cs = some x) (hw : Within 34 x.1) : ∃ p : PO, cs = ocells p ∧ SlAt icells w p.val p.nodes ∧ p.nodes.length ≤ 17592186044416 ∧ ∀ z ∈ p.nodes, (Lit.int .i64 z).wf = true := by
  obtain ⟨xs, n, _, hxe, hl, hlen, hf⟩ := DataW.trod_struct Try.underlying34 h
  rw [cellsOp] at hl
  obtain ⟨c0, c1, c2, rfl⟩ := list3 hl
  have hx : xs.length = 3 := hlen
  have h0 : DataW.trod enc Try.prog w base spare held n 23 [c0] = xs[0]? := hf 0 _ rfl
  have h1 : DataW.trod enc Try.prog w base spare held n 4 [c1] = xs[1]? := hf 1 _ rfl
  have h2 : DataW.trod enc Try.prog w base spare held n 3 [c2] = xs[2]? := hf 2 _ rfl
  rw [List.getElem?_eq_getElem (by omega)] at h0 h1 h2
  have hw0 : Within 23 xs[0].1 := by
    rw [hxe] at hw
    exact within_fld Try.underlying34 hw 0 rfl (by rw [List.getElem?_map, List.getElem?_eq_getElem (by omega)]; rfl)
  obtain ⟨oa, cap, l, e0, s0, l0, f0⟩ := trod_intsw h0 hw0
  obtain ⟨z1, e1, _⟩ := DataW.trod_bool Try.underlying4 h1
  obtain ⟨z2, e2, _, _⟩ := DataW.trod_int Try.underlying3 h2
  simp only [List.cons.injEq, and_true] at e0 e1 e2
  subst e0 e1 e2
  exact ⟨⟨oa, cap, l, z1, z2⟩, rfl, s0, l0, f0⟩
theorem open_ops {b0 : Nat} {r : Reach} {v : Value} {d : DataW H} {p : List MemPlace} (hv : Value.okWide Try.prog w r b0 31 v) (h : DataW.Trod enc Try.prog w base spare held 31 v d p) (hw : Within 31 d) :
    ∃ oa cap ps, v = .slice oa ps.length cap ∧ OpsAt w (.slice oa ps.length cap) ps ∧ ps.length ≤ 1000000000000000 ∧ (∀ p ∈ ps, p.nodes.length ≤ 17592186044416) ∧ ∀ p ∈ ps, ∀ z ∈ p.nodes, (Lit.int .i64 z).wf = true := by
  obtain ⟨a, len, cap0, rfl⟩ := okWide_slice Try.underlying31 hv
  obtain ⟨fuel, hf⟩ := h
  obtain ⟨oa, cap, l, hcs, hl, hb, hf⟩ := trod_row ocells 3 ocells_len (by decide) Try.underlying31 cellsOp (fun p => SlAt icells w p.val p.nodes ∧ p.nodes.length ≤ 17592186044416 ∧ ∀ z ∈ p.nodes, (Lit.int .i64 z).wf = true) (fun n cs x h hw => trod_op h hw) hf hw
  have e : (Value.slice a len cap0) = .slice oa l.length cap := by simpa [Value.cells] using hcs
  refine ⟨oa, cap, l, e, ⟨hl, fun p hp => (hf p hp).1⟩, ?_, fun p hp => (hf p hp).2.1, fun p hp => (hf p hp).2.2⟩
  rw [bytesOp] at hb
  unfold reachBytes at hb
  omega
end
end Go.Proofs.Ytjffaekajjokiaa
