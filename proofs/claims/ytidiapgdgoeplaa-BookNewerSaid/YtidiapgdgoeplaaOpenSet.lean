/-
  How the laws' set of dots is opened. No function of the program is entered.
-/
import Derived.Test.YtidiapgdgoeplaaOpenEv
import Derived.Test.YtidiapgdgoeplaaDotP
namespace Go.Proofs.Ytidiapgdgoeplaa
open Go.ChangeShapes Go.WideShapes Go.ChangeAt Go.RowKit
set_option linter.unusedVariables false
section
variable {H : Type} {enc : TypeId × Value → H} {w : World} {base : Nat} {spare : Nat → Bool} {held : Bool}
theorem cellsLSet : Try.prog.cellsOf 46 = 9 := by kernel_rfl
theorem cellsUpto : Try.prog.cellsOf 40 = 8 := by kernel_rfl
theorem list9 {l : List Value} (h : l.length = 9) : ∃ a b c d e f g i j, l = [a, b, c, d, e, f, g, i, j] := by
  obtain ⟨a, b, c, d, e, f, g, h1⟩ := list7 (l := l.take 7) (by rw [List.length_take]; omega)
  obtain ⟨i, j, h2⟩ := list2 (l := l.drop 7) (by rw [List.length_drop]; omega)
  refine ⟨a, b, c, d, e, f, g, i, j, ?_⟩
  rw [← List.take_append_drop 7 l, h1, h2]
  rfl
set_option maxRecDepth 4000 in
theorem open_lset {b0 : Nat} {r : Reach} {v : Value} {d : DataW H} {p : List MemPlace} (hv : Value.okWide Try.prog w r b0 46 v) (h : DataW.Trod enc Try.prog w base spare held 46 v d p) (hw : Within 46 d) :
    ∃ (oa : Option Addr) (cap : Nat) (s : DSet), v = .agg #[.int .i64 (s.u 0), .int .i64 (s.u 1), .int .i64 (s.u 2), .int .i64 (s.u 3), .int .i64 (s.u 4), .int .i64 (s.u 5), .int .i64 (s.u 6), .int .i64 (s.u 7), .slice oa s.more.length cap] ∧ SlAt Dot.cells w (.slice oa s.more.length cap) s.more ∧ s.more.length ≤ 8796093022208 := by
  obtain ⟨cs, rfl, _⟩ := okWide_struct Try.underlying46 hv
  obtain ⟨fuel, hf0⟩ := h
  obtain ⟨xs, n, _, hxe, hl, hlen, hf⟩ := DataW.trod_struct Try.underlying46 hf0
  rw [cellsLSet] at hl
  obtain ⟨c0, c1, c2, c3, c4, c5, c6, c7, c8, hcs⟩ := list9 hl
  rw [hcs] at hf
  have hx : xs.length = 2 := hlen
  have h0 : DataW.trod enc Try.prog w base spare held n 40 [c0, c1, c2, c3, c4, c5, c6, c7] = xs[0]? := hf 0 _ rfl
  have h1 : DataW.trod enc Try.prog w base spare held n 31 [c8] = xs[1]? := hf 1 _ rfl
  rw [List.getElem?_eq_getElem (by omega)] at h0 h1
  have hw1 : Within 31 xs[1].1 := by
    have hd : d = .agg (xs.map (·.1)) := congrArg Prod.fst hxe
    rw [hd] at hw
    exact within_fld Try.underlying46 hw 1 rfl (by rw [List.getElem?_map, List.getElem?_eq_getElem (by omega)]; rfl)
  obtain ⟨ys, m, _, _, _, hyl, hy⟩ := DataW.trod_array Try.underlying40 h0
  rw [cellsInt] at hy
  have key : ∀ i c (hi : i < 8), (([c0, c1, c2, c3, c4, c5, c6, c7] : List Value).drop (i * 1)).take 1 = [c] → ∃ z : Int, c = .int .i64 z := fun i c hi hc => by
    have h2 := hy i hi
    rw [hc, List.getElem?_eq_getElem (by omega)] at h2
    obtain ⟨z, e, _, _⟩ := DataW.trod_int Try.underlying3 h2
    exact ⟨z, by simpa using e⟩
  obtain ⟨z0, rfl⟩ := key 0 c0 (by omega) rfl
  obtain ⟨z1, rfl⟩ := key 1 c1 (by omega) rfl
  obtain ⟨z2, rfl⟩ := key 2 c2 (by omega) rfl
  obtain ⟨z3, rfl⟩ := key 3 c3 (by omega) rfl
  obtain ⟨z4, rfl⟩ := key 4 c4 (by omega) rfl
  obtain ⟨z5, rfl⟩ := key 5 c5 (by omega) rfl
  obtain ⟨z6, rfl⟩ := key 6 c6 (by omega) rfl
  obtain ⟨z7, rfl⟩ := key 7 c7 (by omega) rfl
  obtain ⟨hd, l, e8, s8, l8, _⟩ := trod_dots h1 hw1
  obtain ⟨oa, cap, hsl⟩ := slAt_slice s8
  simp only [List.cons.injEq, and_true] at e8
  subst e8
  refine ⟨oa, cap, ⟨fun i => ([z0, z1, z2, z3, z4, z5, z6, z7] : List Int).getD i 0, l⟩, ?_, by rw [← hsl]; exact s8, l8⟩
  have : cs = #[.int .i64 z0, .int .i64 z1, .int .i64 z2, .int .i64 z3, .int .i64 z4, .int .i64 z5, .int .i64 z6, .int .i64 z7, hd.val] := by
    have h5 : cs.toList = [.int .i64 z0, .int .i64 z1, .int .i64 z2, .int .i64 z3, .int .i64 z4, .int .i64 z5, .int .i64 z6, .int .i64 z7, hd.val] := by simpa [Value.cells] using hcs
    exact Array.toList_inj.1 (by simpa using h5)
  rw [this, hsl]
  rfl
end
end Go.Proofs.Ytidiapgdgoeplaa
