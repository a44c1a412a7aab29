/-
  How a view is opened: of nodes, each with its set of dots. No function of the program is entered.
-/
import Derived.Test.YtkdjfoehpioghaaOpenEv
import Derived.Test.YtkdjfoehpioghaaCheckW
namespace Go.Proofs.Ytkdjfoehpioghaa
open Go.ChangeShapes Go.WideShapes Go.ChangeAt Go.RowKit
set_option linter.unusedVariables false
set_option maxRecDepth 100000
section
variable {H : Type} {enc : TypeId × Value → H} {w : World} {base : Nat} {spare : Nat → Bool} {held : Bool}
theorem within_elem {t e : TypeId} {n : Nat} {parts : List (DataW H)} (hu : Try.prog.underlying t = some (.array n e)) (h : Within t (.agg parts)) : ∀ d ∈ parts, Within e d := by
  unfold Within at h
  simp only [DataW.weights, hu] at h
  exact fun d hd n hn => h n (within_mem hd n hn)
theorem cells8 : Try.prog.cellsOf 22 = 8 := by kernel_rfl
theorem cellsRSet : Try.prog.cellsOf 25 = 9 := by kernel_rfl
theorem cellsRNode : Try.prog.cellsOf 27 = 11 := by kernel_rfl
theorem cellsRNodes : Try.prog.cellsOf 28 = 88 := by kernel_rfl
theorem cellsRView : Try.prog.cellsOf 30 = 105 := by kernel_rfl
/-- pieces of k cells make up the whole -/
theorem pieces {α : Type} (enc' : α → List Value) (k : Nat) : ∀ (n : Nat) (cs : List Value) (l : List α), cs.length = n * k → l.length = n → (∀ i (h : i < l.length), (cs.drop (i * k)).take k = enc' l[i]) → cs = l.flatMap enc'
  | 0, cs, l, hc, hl, _ => by
    rw [Nat.zero_mul] at hc
    obtain rfl := List.eq_nil_of_length_eq_zero hc
    obtain rfl := List.eq_nil_of_length_eq_zero hl
    rfl
  | n + 1, cs, [], _, hl, _ => by cases hl
  | n + 1, cs, x :: l, hc, hl, h => by
    have h0 := h 0 (by simp)
    rw [Nat.zero_mul, List.drop_zero] at h0
    have ih := pieces enc' k n (cs.drop k) l (by rw [List.length_drop, hc, Nat.add_mul]; omega) (by simpa using hl) (fun i hi => by
      have h1 := h (i + 1) (by simpa using hi)
      rw [List.drop_drop, show k + i * k = (i + 1) * k by rw [Nat.add_mul]; omega]
      exact h1)
    rw [List.flatMap_cons, ← ih]
    have h0' : cs.take k = enc' x := h0
    rw [← h0', List.take_append_drop]
theorem trod_int8 {fuel : Nat} {cs : List Value} {x : DataW H × List MemPlace} (h : DataW.trod enc Try.prog w base spare held fuel 22 cs = some x) : ∃ l : List Int, l.length = 8 ∧ cs = l.map (Value.int .i64) ∧ ∀ z ∈ l, I64 z := by
  obtain ⟨ys, m, _, _, hl, hyl, hy⟩ := DataW.trod_array Try.underlying22 h
  rw [cellsInt] at hy
  rw [cells8] at hl
  obtain ⟨l, hll, hq⟩ := pick_all (α := Int) (Q := fun i z => (cs.drop (i * 1)).take 1 = [.int .i64 z] ∧ I64 z) 8 (fun i hi => by
    have h2 := hy i hi
    rw [List.getElem?_eq_getElem (by omega)] at h2
    obtain ⟨z, e, _, hw⟩ := DataW.trod_int Try.underlying3 h2
    exact ⟨z, e, i64_of_wf hw⟩)
  refine ⟨l, hll, ?_, fun z hz => ?_⟩
  · have h3 := pieces (fun z => [Value.int .i64 z]) 1 8 cs l (by rw [hl]) hll (fun i hi => (hq i hi).1)
    rw [h3]
    exact (List.map_eq_flatMap (f := Value.int .i64) (l := l)).symm
  · obtain ⟨i, hi, rfl⟩ := List.mem_iff_getElem.1 hz
    exact (hq i hi).2
theorem list8 {l : List Int} (h : l.length = 8) : ∃ a b c d e f g i, l = [a, b, c, d, e, f, g, i] := by
  match l, h with
  | [a, b, c, d, e, f, g, i], _ => exact ⟨a, b, c, d, e, f, g, i, rfl⟩
theorem trod_rset {fuel : Nat} {cs : List Value} {x : DataW H × List MemPlace} (h : DataW.trod enc Try.prog w base spare held fuel 25 cs = some x) (hw : Within 25 x.1) :
    ∃ (hd : Hdr) (s : DSet), cs = qcells (hd, s) ∧ SlAt Dot.cells w hd.val s.more := by
  obtain ⟨xs, n, _, hxe, hl, hlen, hf⟩ := DataW.trod_struct Try.underlying25 h
  rw [cellsRSet] at hl
  have hx : xs.length = 2 := hlen
  have h0 : DataW.trod enc Try.prog w base spare held n 22 ((cs.drop 0).take 8) = xs[0]? := by
    have := hf 0 _ rfl
    rw [← cells8]
    exact this
  have h1 : DataW.trod enc Try.prog w base spare held n 23 ((cs.drop 8).take 1) = xs[1]? := hf 1 _ rfl
  rw [List.getElem?_eq_getElem (by omega)] at h0 h1
  have hw1 : Within 23 xs[1].1 := by
    rw [hxe] at hw
    exact within_fld Try.underlying25 hw 1 rfl (by rw [List.getElem?_map, List.getElem?_eq_getElem (by omega)]; rfl)
  obtain ⟨l, hll, he, _⟩ := trod_int8 h0
  obtain ⟨hd, ds, e8, s8, _, _⟩ := trod_dots h1 hw1
  obtain ⟨a, b, c, d, e, f, g, i, rfl⟩ := list8 hll
  refine ⟨hd, ⟨fun j => ([a, b, c, d, e, f, g, i] : List Int).getD j 0, ds⟩, ?_, s8⟩
  have hcs : cs = (cs.drop 0).take 8 ++ (cs.drop 8).take 1 := by
    have : (cs.drop 8).take 1 = cs.drop 8 := List.take_of_length_le (by rw [List.length_drop, hl]; decide)
    rw [this, List.drop_zero, List.take_append_drop]
  rw [hcs, he, e8]
  rfl
theorem trod_rnode {fuel : Nat} {cs : List Value} {x : DataW H × List MemPlace} (h : DataW.trod enc Try.prog w base spare held fuel 27 cs = some x) (hw : Within 27 x.1) :
    ∃ n : WN, cs = n.cells ∧ SlAt Dot.cells w n.hd.val n.s.more := by
  obtain ⟨xs, n, _, hxe, hl, hlen, hf⟩ := DataW.trod_struct Try.underlying27 h
  rw [cellsRNode] at hl
  have hx : xs.length = 3 := hlen
  have h0 : DataW.trod enc Try.prog w base spare held n 4 ((cs.drop 0).take 1) = xs[0]? := hf 0 _ rfl
  have h1 : DataW.trod enc Try.prog w base spare held n 3 ((cs.drop 1).take 1) = xs[1]? := hf 1 _ rfl
  have h2 : DataW.trod enc Try.prog w base spare held n 25 ((cs.drop 2).take 9) = xs[2]? := by
    have := hf 2 _ rfl
    rw [← cellsRSet]
    exact this
  rw [List.getElem?_eq_getElem (by omega)] at h0 h1 h2
  have hw2 : Within 25 xs[2].1 := by
    rw [hxe] at hw
    exact within_fld Try.underlying27 hw 2 rfl (by rw [List.getElem?_map, List.getElem?_eq_getElem (by omega)]; rfl)
  obtain ⟨z0, e0, _⟩ := DataW.trod_bool Try.underlying4 h0
  obtain ⟨z1, e1, _, _⟩ := DataW.trod_int Try.underlying3 h1
  obtain ⟨hd, s, e2, s2⟩ := trod_rset h2 hw2
  refine ⟨⟨z0, z1, hd, s⟩, ?_, s2⟩
  have hcs : cs = (cs.drop 0).take 1 ++ ((cs.drop 1).take 1 ++ (cs.drop 2).take 9) := by
    have h9 : (cs.drop 2).take 9 = cs.drop 2 := List.take_of_length_le (by rw [List.length_drop, hl]; decide)
    have h8 : (cs.drop 1).take 1 ++ cs.drop 2 = cs.drop 1 := by
      have := List.take_append_drop 1 (cs.drop 1)
      rw [List.drop_drop] at this
      exact this
    rw [h9, h8, List.drop_zero, List.take_append_drop]
  rw [hcs, e0, e1, e2]
  rfl
theorem trod_rview {fuel : Nat} {cs : List Value} {x : DataW H × List MemPlace} (h : DataW.trod enc Try.prog w base spare held fuel 30 cs = some x) (hw : Within 30 x.1) :
    ∃ v : WV, cs = v.cells ∧ v.Ok ∧ FencesOk v ∧ ∀ n ∈ v.nodes, SlAt Dot.cells w n.hd.val n.s.more := by
  obtain ⟨xs, n, _, hxe, hl, hlen, hf⟩ := DataW.trod_struct Try.underlying30 h
  rw [cellsRView] at hl
  have hx : xs.length = 4 := hlen
  have h0 : DataW.trod enc Try.prog w base spare held n 28 ((cs.drop 0).take 88) = xs[0]? := by
    have := hf 0 _ rfl
    rw [← cellsRNodes]
    exact this
  have h1 : DataW.trod enc Try.prog w base spare held n 22 ((cs.drop 88).take 8) = xs[1]? := by
    have := hf 1 _ rfl
    rw [← cells8]
    exact this
  have h2 : DataW.trod enc Try.prog w base spare held n 22 ((cs.drop 96).take 8) = xs[2]? := by
    have := hf 2 _ rfl
    rw [← cells8]
    exact this
  have h3 : DataW.trod enc Try.prog w base spare held n 3 ((cs.drop 104).take 1) = xs[3]? := hf 3 _ rfl
  rw [List.getElem?_eq_getElem (by omega)] at h0 h1 h2 h3
  have hw0 : Within 28 xs[0].1 := by
    rw [hxe] at hw
    exact within_fld Try.underlying30 hw 0 rfl (by rw [List.getElem?_map, List.getElem?_eq_getElem (by omega)]; rfl)
  obtain ⟨ys, m, _, hye, hnl, hyl, hy⟩ := DataW.trod_array Try.underlying28 h0
  rw [cellsRNodes] at hnl
  rw [cellsRNode] at hy
  have hwn := within_elem Try.underlying28 (by rw [hye] at hw0; exact hw0)
  obtain ⟨l, hll, hq⟩ := pick_all (α := WN) (Q := fun i z => (((cs.drop 0).take 88).drop (i * 11)).take 11 = z.cells ∧ SlAt Dot.cells w z.hd.val z.s.more) 8 (fun i hi => by
    have h4 := hy i hi
    rw [List.getElem?_eq_getElem (by omega)] at h4
    exact trod_rnode h4 (hwn _ (List.mem_map_of_mem (List.getElem_mem _))))
  have hn := pieces WN.cells 11 8 _ l (by rw [hnl]) hll (fun i hi => (hq i hi).1)
  obtain ⟨la, ha1, ha2, _⟩ := trod_int8 h1
  obtain ⟨lf, hf1, hf2, hf3⟩ := trod_int8 h2
  obtain ⟨z, e3, _, _⟩ := DataW.trod_int Try.underlying3 h3
  refine ⟨⟨l, la, lf, z⟩, ?_, ⟨hll, ha1, hf1⟩, fun x hx => hf3 x hx, fun n hn => by
    obtain ⟨i, hi, rfl⟩ := List.mem_iff_getElem.1 hn
    exact (hq i hi).2⟩
  have hcs : cs = (cs.drop 0).take 88 ++ ((cs.drop 88).take 8 ++ ((cs.drop 96).take 8 ++ (cs.drop 104).take 1)) := by
    have p3 : (cs.drop 104).take 1 = cs.drop 104 := List.take_of_length_le (by rw [List.length_drop, hl]; decide)
    have p2 : (cs.drop 96).take 8 ++ cs.drop 104 = cs.drop 96 := by
      have := List.take_append_drop 8 (cs.drop 96)
      rw [List.drop_drop] at this
      exact this
    have p1 : (cs.drop 88).take 8 ++ cs.drop 96 = cs.drop 88 := by
      have := List.take_append_drop 8 (cs.drop 88)
      rw [List.drop_drop] at this
      exact this
    rw [p3, p2, p1, List.drop_zero, List.take_append_drop]
  rw [hcs, hn, ha2, hf2, e3]
  rfl
theorem open_rview {b0 : Nat} {r : Reach} {v : Value} {d : DataW H} {p : List MemPlace} (hv : Value.okWide Try.prog w r b0 30 v) (h : DataW.Trod enc Try.prog w base spare held 30 v d p) (hw : Within 30 d) :
    ∃ q : WV, v = .agg q.cells.toArray ∧ q.Ok ∧ FencesOk q ∧ ∀ n ∈ q.nodes, SlAt Dot.cells w n.hd.val n.s.more := by
  obtain ⟨cs, rfl, _⟩ := okWide_struct Try.underlying30 hv
  obtain ⟨fuel, hf⟩ := h
  obtain ⟨q, hq, h1, h2, h3⟩ := trod_rview hf hw
  refine ⟨q, ?_, h1, h2, h3⟩
  have : cs = q.cells.toArray := by rw [← hq]; simp [Value.cells]
  rw [this]
end
end Go.Proofs.Ytkdjfoehpioghaa
