/-
  How an argument that reads as data is opened: a policy, a dot, an event, a slice of dots or of events, in this text's own words (SlAt, EvsAt). No function of the program is entered.
  How the arguments of the statements on detectors are opened: a patience, an errand, a pair. No function of the program is entered.
-/
import Derived.Test.YtejihgfigclppaaGreatMSat
import Derived.Test.YtejihgfigclppaaGreatRows
import Derived.ProofKit
import Derived.OpenShut
import Derived.Test.YtejihgfigclppaaGreatSwimP
namespace Go.Proofs.YtejihgfigclppaaGreat
open Go.ChangeShapes Go.WideShapes Go.ChangeAt Go.RowKit
set_option linter.unusedVariables false

theorem ownNone : ownKnob Tryz.prog.godebug = none := by kernel_rfl
theorem laidOutP : laidOutB Tryz.prog = true := by kernel_rfl

def I64 (n : Int) : Prop := -9223372036854775808 ≤ n ∧ n ≤ 9223372036854775807
theorem i64_of_wf {n : Int} (h : (Lit.int .i64 n).wf = true) : I64 n := by
  have hmin : IntKind.i64.min = -9223372036854775808 := rfl
  have hmax : IntKind.i64.max = 9223372036854775807 := rfl
  simp only [Lit.wf, Bool.and_eq_true, decide_eq_true_eq] at h
  exact ⟨by omega, by omega⟩

section
variable {H : Type} {enc : TypeId × Value → H} {w : World} {base : Nat} {spare : Nat → Bool} {held : Bool}

/-- a field of a struct -/
theorem fld_at {cs : List Value} {xs : List (DataW H × List MemPlace)} {n i : Nat} {f : Field} (hf : DataW.trod enc Tryz.prog w base spare held n f.type ((cs.drop f.offset).take ((Tryz.prog).cellsOf f.type)) = xs[i]?) (t k o : Nat) (ht : f.type = t) (ho : f.offset = o) (hk : (Tryz.prog).cellsOf t = k) (hi : i < xs.length) :
    ∃ y, DataW.trod enc Tryz.prog w base spare held n t ((cs.drop o).take k) = some y := by
  subst ht ho hk
  rw [List.getElem?_eq_getElem hi] at hf
  exact ⟨_, hf⟩
theorem cellsInt : (Tryz.prog).cellsOf 3 = 1 := by kernel_rfl
theorem int_fld {cs : List Value} {xs : List (DataW H × List MemPlace)} {n i : Nat} {f : Field} (hf : DataW.trod enc Tryz.prog w base spare held n f.type ((cs.drop f.offset).take ((Tryz.prog).cellsOf f.type)) = xs[i]?) (o : Nat) (ht : f.type = 3) (ho : f.offset = o) (hi : i < xs.length) :
    ∃ z : Int, (cs.drop o).take 1 = [.int .i64 z] ∧ I64 z := by
  obtain ⟨y, hy⟩ := fld_at hf 3 1 o ht ho cellsInt hi
  obtain ⟨z, h1, _, h3⟩ := DataW.trod_int Tryz.underlying3 hy
  exact ⟨z, h1, i64_of_wf h3⟩

def Pol.fits (p : Pol) : Prop := I64 p.mn ∧ I64 p.mx ∧ I64 p.goal ∧ I64 p.slack ∧ I64 p.up ∧ I64 p.down ∧ I64 p.cool
def Dot.fits (d : Dot) : Prop := I64 d.node ∧ I64 d.seq

theorem cellsPol : Tryz.prog.cellsOf 110 = 7 := by kernel_rfl
theorem list7 {l : List Value} (h : l.length = 7) : ∃ a b c d e f g, l = [a, b, c, d, e, f, g] := by
  match l, h with
  | [a, b, c, d, e, f, g], _ => exact ⟨a, b, c, d, e, f, g, rfl⟩
set_option maxRecDepth 100000 in
theorem trod_pol {fuel : Nat} {cs : List Value} {x : DataW H × List MemPlace} (h : DataW.trod enc Tryz.prog w base spare held fuel 110 cs = some x) : ∃ p : Pol, cs = p.cells ∧ p.fits := by
  obtain ⟨xs, n, _, _, hl, hlen, hf⟩ := DataW.trod_struct Tryz.underlying110 h
  rw [cellsPol] at hl
  obtain ⟨c0, c1, c2, c3, c4, c5, c6, rfl⟩ := list7 hl
  have hx : xs.length = 7 := hlen
  obtain ⟨z0, e0, f0⟩ := int_fld (hf 0 _ rfl) 0 rfl rfl (by omega)
  obtain ⟨z1, e1, f1⟩ := int_fld (hf 1 _ rfl) 1 rfl rfl (by omega)
  obtain ⟨z2, e2, f2⟩ := int_fld (hf 2 _ rfl) 2 rfl rfl (by omega)
  obtain ⟨z3, e3, f3⟩ := int_fld (hf 3 _ rfl) 3 rfl rfl (by omega)
  obtain ⟨z4, e4, f4⟩ := int_fld (hf 4 _ rfl) 4 rfl rfl (by omega)
  obtain ⟨z5, e5, f5⟩ := int_fld (hf 5 _ rfl) 5 rfl rfl (by omega)
  obtain ⟨z6, e6, f6⟩ := int_fld (hf 6 _ rfl) 6 rfl rfl (by omega)
  simp only [List.drop_succ_cons, List.drop_zero, List.take_succ_cons, List.take_zero, List.cons.injEq, and_true] at e0 e1 e2 e3 e4 e5 e6
  subst e0 e1 e2 e3 e4 e5 e6
  exact ⟨⟨z0, z1, z2, z3, z4, z5, z6⟩, rfl, f0, f1, f2, f3, f4, f5, f6⟩
set_option maxRecDepth 100000 in
/-- a policy by value -/
theorem open_pol {b0 : Nat} {r : Reach} {v : Value} {d : DataW H} {p : List MemPlace} (hv : Value.okWide Tryz.prog w r b0 110 v) (h : DataW.Trod enc Tryz.prog w base spare held 110 v d p) : ∃ q : Pol, v = .agg #[.int .i64 q.mn, .int .i64 q.mx, .int .i64 q.goal, .int .i64 q.slack, .int .i64 q.up, .int .i64 q.down, .int .i64 q.cool] ∧ q.fits := by
  obtain ⟨cs, rfl, _⟩ := okWide_struct Tryz.underlying110 hv
  obtain ⟨fuel, hf⟩ := h
  obtain ⟨q, hq, hfit⟩ := trod_pol hf
  refine ⟨q, ?_, hfit⟩
  have : cs = q.cells.toArray := by rw [← hq]; simp [Value.cells]
  rw [this]; rfl
end
end Go.Proofs.YtejihgfigclppaaGreat
namespace Go.Proofs.YtejihgfigclppaaGreat
open Go.ChangeShapes Go.WideShapes Go.ChangeAt Go.RowKit
set_option linter.unusedVariables false
set_option maxRecDepth 100000
theorem u8w {n : Int} (h : (Lit.int .u8 n).wf = true) : 0 ≤ n ∧ n ≤ 255 := by
  have hmin : IntKind.u8.min = 0 := rfl
  have hmax : IntKind.u8.max = 255 := rfl
  simp only [Lit.wf, Bool.and_eq_true, decide_eq_true_eq] at h
  exact ⟨by omega, by omega⟩
theorem u64w {n : Int} (h : (Lit.int .u64 n).wf = true) : 0 ≤ n ∧ n ≤ 18446744073709551615 := by
  have hmin : IntKind.u64.min = 0 := rfl
  have hmax : IntKind.u64.max = 18446744073709551615 := rfl
  simp only [Lit.wf, Bool.and_eq_true, decide_eq_true_eq] at h
  exact ⟨by omega, by omega⟩
theorem lst3 {l : List Value} (h : l.length = 3) : ∃ a b c, l = [a, b, c] := by
  match l, h with
  | [a, b, c], _ => exact ⟨a, b, c, rfl⟩
theorem lst6 {l : List Value} (h : l.length = 6) : ∃ a b c d e f, l = [a, b, c, d, e, f] := by
  match l, h with
  | [a, b, c, d, e, f], _ => exact ⟨a, b, c, d, e, f, rfl⟩
theorem cellsConf20 : Tryz.prog.cellsOf 23 = 3 := by kernel_rfl
section
variable {H : Type} {enc : TypeId × Value → H} {w : World} {base : Nat} {spare : Nat → Bool} {held : Bool}
theorem trod_conf20 {fuel : Nat} {cs : List Value} {x : DataW H × List MemPlace} (h : DataW.trod enc Tryz.prog w base spare held fuel 23 cs = some x) : ∃ c : DConf, cs = [.int .i64 c.tout, .int .i64 c.ind, .int .i64 c.gr] := by
  obtain ⟨xs, n, _, _, hl, hlen, hf⟩ := DataW.trod_struct Tryz.underlying23 h
  rw [cellsConf20] at hl
  obtain ⟨c0, c1, c2, rfl⟩ := lst3 hl
  have hx : xs.length = 3 := hlen
  obtain ⟨z0, e0, _⟩ := int_fld (hf 0 _ rfl) 0 rfl rfl (by omega)
  obtain ⟨z1, e1, _⟩ := int_fld (hf 1 _ rfl) 1 rfl rfl (by omega)
  obtain ⟨z2, e2, _⟩ := int_fld (hf 2 _ rfl) 2 rfl rfl (by omega)
  simp only [List.drop_succ_cons, List.drop_zero, List.take_succ_cons, List.take_zero, List.cons.injEq, and_true] at e0 e1 e2
  subst e0 e1 e2
  exact ⟨⟨z0, z1, z2⟩, rfl⟩
/-- a patience by value -/
theorem open_conf20 {b0 : Nat} {r : Reach} {v : Value} {d : DataW H} {p : List MemPlace} (hv : Value.okWide Tryz.prog w r b0 23 v) (h : DataW.Trod enc Tryz.prog w base spare held 23 v d p) : ∃ c : DConf, v = .agg #[.int .i64 c.tout, .int .i64 c.ind, .int .i64 c.gr] := by
  obtain ⟨cs, rfl, _⟩ := okWide_struct Tryz.underlying23 hv
  obtain ⟨fuel, hf⟩ := h
  obtain ⟨c, hq⟩ := trod_conf20 hf
  refine ⟨c, ?_⟩
  have h5 : cs.toList = [.int .i64 c.tout, .int .i64 c.ind, .int .i64 c.gr] := by simpa [Value.cells] using hq
  have : cs = #[.int .i64 c.tout, .int .i64 c.ind, .int .i64 c.gr] := Array.toList_inj.1 (by simpa using h5)
  rw [this]
theorem cellsErrand : Tryz.prog.cellsOf 54 = 6 := by kernel_rfl
/-- an errand by value -/
theorem open_errand {b0 : Nat} {r : Reach} {v : Value} {d : DataW H} {p : List MemPlace} (hv : Value.okWide Tryz.prog w r b0 54 v) (h : DataW.Trod enc Tryz.prog w base spare held 54 v d p) : ∃ (c : DConf) (seq : Int) (nn fn : Nat), v = .agg #[.int .i64 c.tout, .int .i64 c.ind, .int .i64 c.gr, .int .i64 seq, .int .u8 nn, .int .u8 fn] ∧ nn ≤ 255 ∧ fn ≤ 255 := by
  obtain ⟨cs, rfl, _⟩ := okWide_struct Tryz.underlying54 hv
  obtain ⟨fuel, hf0⟩ := h
  obtain ⟨xs, n, _, hxe, hl, hlen, hf⟩ := DataW.trod_struct Tryz.underlying54 hf0
  rw [cellsErrand] at hl
  obtain ⟨c0, c1, c2, c3, c4, c5, hcs⟩ := lst6 hl
  rw [hcs] at hf
  have hx : xs.length = 4 := hlen
  have h0 : DataW.trod enc Tryz.prog w base spare held n 23 [c0, c1, c2] = xs[0]? := hf 0 _ rfl
  have h1 : DataW.trod enc Tryz.prog w base spare held n 3 [c3] = xs[1]? := hf 1 _ rfl
  have h2 : DataW.trod enc Tryz.prog w base spare held n 5 [c4] = xs[2]? := hf 2 _ rfl
  have h3 : DataW.trod enc Tryz.prog w base spare held n 5 [c5] = xs[3]? := hf 3 _ rfl
  rw [List.getElem?_eq_getElem (by omega)] at h0 h1 h2 h3
  obtain ⟨c, e0⟩ := trod_conf20 h0
  obtain ⟨z1, e1, _, w1⟩ := DataW.trod_int Tryz.underlying3 h1
  obtain ⟨z2, e2, _, w2⟩ := DataW.trod_int Tryz.underlying5 h2
  obtain ⟨z3, e3, _, w3⟩ := DataW.trod_int Tryz.underlying5 h3
  have f2 := u8w w2
  have f3 := u8w w3
  simp only [List.cons.injEq, and_true] at e0 e1 e2 e3
  obtain ⟨rfl, rfl, rfl⟩ := e0
  subst e1 e2 e3
  obtain ⟨n2, rfl⟩ : ∃ n : Nat, z2 = (n : Int) := ⟨z2.toNat, by omega⟩
  obtain ⟨n3, rfl⟩ : ∃ n : Nat, z3 = (n : Int) := ⟨z3.toNat, by omega⟩
  refine ⟨c, z1, n2, n3, ?_, by omega, by omega⟩
  have h5 : cs.toList = [.int .i64 c.tout, .int .i64 c.ind, .int .i64 c.gr, .int .i64 z1, .int .u8 n2, .int .u8 n3] := by simpa [Value.cells] using hcs
  have : cs = #[.int .i64 c.tout, .int .i64 c.ind, .int .i64 c.gr, .int .i64 z1, .int .u8 n2, .int .u8 n3] := Array.toList_inj.1 (by simpa using h5)
  rw [this]
theorem cellsPair : Tryz.prog.cellsOf 26 = 6 := by kernel_rfl
/-- a pair by value -/
theorem open_pair {b0 : Nat} {r : Reach} {v : Value} {d : DataW H} {p : List MemPlace} (hv : Value.okWide Tryz.prog w r b0 26 v) (h : DataW.Trod enc Tryz.prog w base spare held 26 v d p) : ∃ (c : DConf) (sa sb : Int) (n : Nat), v = .agg #[.int .i64 c.tout, .int .i64 c.ind, .int .i64 c.gr, .int .u64 sa, .int .u64 sb, .int .u8 n] ∧ n ≤ 255 := by
  obtain ⟨cs, rfl, _⟩ := okWide_struct Tryz.underlying26 hv
  obtain ⟨fuel, hf0⟩ := h
  obtain ⟨xs, n, _, hxe, hl, hlen, hf⟩ := DataW.trod_struct Tryz.underlying26 hf0
  rw [cellsPair] at hl
  obtain ⟨c0, c1, c2, c3, c4, c5, hcs⟩ := lst6 hl
  rw [hcs] at hf
  have hx : xs.length = 4 := hlen
  have h0 : DataW.trod enc Tryz.prog w base spare held n 23 [c0, c1, c2] = xs[0]? := hf 0 _ rfl
  have h1 : DataW.trod enc Tryz.prog w base spare held n 24 [c3] = xs[1]? := hf 1 _ rfl
  have h2 : DataW.trod enc Tryz.prog w base spare held n 24 [c4] = xs[2]? := hf 2 _ rfl
  have h3 : DataW.trod enc Tryz.prog w base spare held n 5 [c5] = xs[3]? := hf 3 _ rfl
  rw [List.getElem?_eq_getElem (by omega)] at h0 h1 h2 h3
  obtain ⟨c, e0⟩ := trod_conf20 h0
  obtain ⟨z1, e1, _, w1⟩ := DataW.trod_int Tryz.underlying24 h1
  obtain ⟨z2, e2, _, w2⟩ := DataW.trod_int Tryz.underlying24 h2
  obtain ⟨z3, e3, _, w3⟩ := DataW.trod_int Tryz.underlying5 h3
  have f3 := u8w w3
  simp only [List.cons.injEq, and_true] at e0 e1 e2 e3
  obtain ⟨rfl, rfl, rfl⟩ := e0
  subst e1 e2 e3
  obtain ⟨n3, rfl⟩ : ∃ n : Nat, z3 = (n : Int) := ⟨z3.toNat, by omega⟩
  refine ⟨c, z1, z2, n3, ?_, by omega⟩
  have h5 : cs.toList = [.int .i64 c.tout, .int .i64 c.ind, .int .i64 c.gr, .int .u64 z1, .int .u64 z2, .int .u8 n3] := by simpa [Value.cells] using hcs
  have : cs = #[.int .i64 c.tout, .int .i64 c.ind, .int .i64 c.gr, .int .u64 z1, .int .u64 z2, .int .u8 n3] := Array.toList_inj.1 (by simpa using h5)
  rw [this]
end
end Go.Proofs.YtejihgfigclppaaGreat
