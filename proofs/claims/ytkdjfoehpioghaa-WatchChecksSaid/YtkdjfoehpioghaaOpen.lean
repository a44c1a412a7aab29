/-
  How an argument that reads as data is opened: a policy, a dot, an event, a slice of dots or of events, in this text's own words (SlAt, EvsAt). No function of the program is entered.
-/
import Derived.Test.YtkdjfoehpioghaaEv
import Derived.Test.YtkdjfoehpioghaaRows
import Derived.ProofKit
import Derived.OpenShut
namespace Go.Proofs.Ytkdjfoehpioghaa
open Go.ChangeShapes Go.WideShapes Go.ChangeAt Go.RowKit
set_option linter.unusedVariables false

theorem ownNone : ownKnob Try.prog.godebug = none := by kernel_rfl
theorem laidOutP : laidOutB Try.prog = true := by kernel_rfl

def I64 (n : Int) : Prop := -9223372036854775808 ≤ n ∧ n ≤ 9223372036854775807
theorem i64_of_wf {n : Int} (h : (Lit.int .i64 n).wf = true) : I64 n := by
  have hmin : IntKind.i64.min = -9223372036854775808 := rfl
  have hmax : IntKind.i64.max = 9223372036854775807 := rfl
  simp only [Lit.wf, Bool.and_eq_true, decide_eq_true_eq] at h
  exact ⟨by omega, by omega⟩

section
variable {H : Type} {enc : TypeId × Value → H} {w : World} {base : Nat} {spare : Nat → Bool} {held : Bool}

/-- a field of a struct -/
theorem fld_at {cs : List Value} {xs : List (DataW H × List MemPlace)} {n i : Nat} {f : Field} (hf : DataW.trod enc Try.prog w base spare held n f.type ((cs.drop f.offset).take ((Try.prog).cellsOf f.type)) = xs[i]?) (t k o : Nat) (ht : f.type = t) (ho : f.offset = o) (hk : (Try.prog).cellsOf t = k) (hi : i < xs.length) :
    ∃ y, DataW.trod enc Try.prog w base spare held n t ((cs.drop o).take k) = some y := by
  subst ht ho hk
  rw [List.getElem?_eq_getElem hi] at hf
  exact ⟨_, hf⟩
theorem cellsInt : (Try.prog).cellsOf 3 = 1 := by kernel_rfl
theorem int_fld {cs : List Value} {xs : List (DataW H × List MemPlace)} {n i : Nat} {f : Field} (hf : DataW.trod enc Try.prog w base spare held n f.type ((cs.drop f.offset).take ((Try.prog).cellsOf f.type)) = xs[i]?) (o : Nat) (ht : f.type = 3) (ho : f.offset = o) (hi : i < xs.length) :
    ∃ z : Int, (cs.drop o).take 1 = [.int .i64 z] ∧ I64 z := by
  obtain ⟨y, hy⟩ := fld_at hf 3 1 o ht ho cellsInt hi
  obtain ⟨z, h1, _, h3⟩ := DataW.trod_int Try.underlying3 hy
  exact ⟨z, h1, i64_of_wf h3⟩

def Pol.fits (p : Pol) : Prop := I64 p.mn ∧ I64 p.mx ∧ I64 p.goal ∧ I64 p.slack ∧ I64 p.up ∧ I64 p.down ∧ I64 p.cool
def Dot.fits (d : Dot) : Prop := I64 d.node ∧ I64 d.seq

theorem cellsPol : Try.prog.cellsOf 208 = 7 := by kernel_rfl
theorem list7 {l : List Value} (h : l.length = 7) : ∃ a b c d e f g, l = [a, b, c, d, e, f, g] := by
  match l, h with
  | [a, b, c, d, e, f, g], _ => exact ⟨a, b, c, d, e, f, g, rfl⟩
set_option maxRecDepth 100000 in
theorem trod_pol {fuel : Nat} {cs : List Value} {x : DataW H × List MemPlace} (h : DataW.trod enc Try.prog w base spare held fuel 208 cs = some x) : ∃ p : Pol, cs = p.cells ∧ p.fits := by
  obtain ⟨xs, n, _, _, hl, hlen, hf⟩ := DataW.trod_struct Try.underlying208 h
  rw [cellsPol] at hl
  obtain ⟨c0, c1, c2, c3, c4, c5, c6, rfl⟩ := list7 hl
  have hx : xs.length = 7 := hlen
  obtain ⟨z0, e0, f0⟩ := int_fld (hf 0 _ rfl) 0 rfl rfl (by omega)
  obtain ⟨z1, e1, f1⟩ := int_fld (hf 1 _ rfl) 1 rfl rfl (by omega)
  obtain ⟨z2, e2, f2⟩ := int_fld (hf 2 _ rfl) 2 rfl rfl (by omega)
  obtain ⟨z3, e3, f3⟩ := int_fld (hf 3 _ rfl) 3 rfl rfl (by omega)
  obtain ⟨z4, e4, f4⟩ := int_fld (hf 4 _ rfl) 4 rfl rfl (by omega)
  obtain ⟨z5, e5, f5⟩ := int_fld (hf 5 _ rfl) 5 rfl rfl (by omega)
  obtain ⟨z6, e6, f6⟩ := int_fld (hf 6 _ rfl) 6 rfl rfl (by omega)
  simp only [List.drop_succ_cons, List.drop_zero, List.take_succ_cons, List.take_zero, List.cons.injEq, and_true] at e0 e1 e2 e3 e4 e5 e6
  subst e0 e1 e2 e3 e4 e5 e6
  exact ⟨⟨z0, z1, z2, z3, z4, z5, z6⟩, rfl, f0, f1, f2, f3, f4, f5, f6⟩
set_option maxRecDepth 100000 in
/-- a policy by value -/
theorem open_pol {b0 : Nat} {r : Reach} {v : Value} {d : DataW H} {p : List MemPlace} (hv : Value.okWide Try.prog w r b0 208 v) (h : DataW.Trod enc Try.prog w base spare held 208 v d p) : ∃ q : Pol, v = .agg #[.int .i64 q.mn, .int .i64 q.mx, .int .i64 q.goal, .int .i64 q.slack, .int .i64 q.up, .int .i64 q.down, .int .i64 q.cool] ∧ q.fits := by
  obtain ⟨cs, rfl, _⟩ := okWide_struct Try.underlying208 hv
  obtain ⟨fuel, hf⟩ := h
  obtain ⟨q, hq, hfit⟩ := trod_pol hf
  refine ⟨q, ?_, hfit⟩
  have : cs = q.cells.toArray := by rw [← hq]; simp [Value.cells]
  rw [this]; rfl
end
end Go.Proofs.Ytkdjfoehpioghaa
