/-
  A world's view as cells: of nodes, of workloads; two of them side by side.
-/
import Derived.Test.YtkdjfoehpioghaaRefLess
namespace Go.Proofs.Ytkdjfoehpioghaa
open Go.Shelf Go.RowKit Go.Lib Go.Sort
set_option linter.unusedVariables false
structure WN where
  runs : Bool
  inc : Int
  hd : Hdr
  s : DSet
def WN.cells (n : WN) : List Value := [.bool n.runs, .int .i64 n.inc, .int .i64 (n.s.u 0), .int .i64 (n.s.u 1), .int .i64 (n.s.u 2), .int .i64 (n.s.u 3), .int .i64 (n.s.u 4), .int .i64 (n.s.u 5), .int .i64 (n.s.u 6), .int .i64 (n.s.u 7), n.hd.val]
theorem WN.cells_len (n : WN) : n.cells.length = 11 := rfl
structure WV where
  nodes : List WN
  has : List Int
  fence : List Int
  flight : Int
def WV.cells (v : WV) : List Value := v.nodes.flatMap WN.cells ++ (v.has.map (Value.int .i64) ++ (v.fence.map (Value.int .i64) ++ [.int .i64 v.flight]))
structure WV.Ok (v : WV) : Prop where
  nodes : v.nodes.length = 8
  has : v.has.length = 8
  fence : v.fence.length = 8
theorem WV.nodes_len {v : WV} (h : v.Ok) : (v.nodes.flatMap WN.cells).length = 88 := by rw [flat_len WN.cells 11 WN.cells_len, h.nodes]
theorem WV.cells_len {v : WV} (h : v.Ok) : v.cells.length = 105 := by
  unfold WV.cells
  rw [List.length_append, List.length_append, List.length_append, WV.nodes_len h, List.length_map, List.length_map, h.has, h.fence]
  rfl
theorem WV.at_node {v : WV} (h : v.Ok) {i k : Nat} (hi : i < 8) (hk : k < 11) : v.cells[i * 11 + k]? = (v.nodes[i]'(by rw [h.nodes]; exact hi)).cells[k]? := by
  unfold WV.cells
  rw [List.getElem?_append_left (by rw [WV.nodes_len h]; omega)]
  exact flat_at WN.cells 11 WN.cells_len v.nodes i k (by rw [h.nodes]; exact hi) hk
theorem WV.at_has {v : WV} (h : v.Ok) {i : Nat} (hi : i < 8) : v.cells[88 + i]? = some (.int .i64 (v.has[i]'(by rw [h.has]; exact hi))) := by
  unfold WV.cells
  rw [List.getElem?_append_right (by rw [WV.nodes_len h]; omega), WV.nodes_len h, List.getElem?_append_left (by rw [List.length_map, h.has]; omega), List.getElem?_map, show 88 + i - 88 = i by omega, List.getElem?_eq_getElem (by rw [h.has]; exact hi)]
  rfl
theorem WV.at_fence {v : WV} (h : v.Ok) {i : Nat} (hi : i < 8) : v.cells[96 + i]? = some (.int .i64 (v.fence[i]'(by rw [h.fence]; exact hi))) := by
  unfold WV.cells
  rw [List.getElem?_append_right (by rw [WV.nodes_len h]; omega), WV.nodes_len h, List.getElem?_append_right (by rw [List.length_map, h.has]; omega), List.length_map, h.has, List.getElem?_append_left (by rw [List.length_map, h.fence]; omega), List.getElem?_map, show 96 + i - 88 - 8 = i by omega, List.getElem?_eq_getElem (by rw [h.fence]; exact hi)]
  rfl
theorem WV.at_flight {v : WV} (h : v.Ok) : v.cells[104]? = some (.int .i64 v.flight) := by
  unfold WV.cells
  rw [List.getElem?_append_right (by rw [WV.nodes_len h]; omega), WV.nodes_len h, List.getElem?_append_right (by rw [List.length_map, h.has]; omega), List.length_map, h.has, List.getElem?_append_right (by rw [List.length_map, h.fence]; omega), List.length_map, h.fence]
  rfl
/-- two views, the cells of a pair -/
def pairArr (a b : WV) : Array Value := (a.cells ++ b.cells).toArray
theorem pair_size {a b : WV} (ha : a.Ok) (hb : b.Ok) : (pairArr a b).size = 210 := by
  unfold pairArr
  rw [List.size_toArray, List.length_append, WV.cells_len ha, WV.cells_len hb]
theorem pair_was {a b : WV} (ha : a.Ok) {j : Nat} (hj : j < 105) : (pairArr a b)[j]? = a.cells[j]? := by
  unfold pairArr
  rw [List.getElem?_toArray, List.getElem?_append_left (by rw [WV.cells_len ha]; exact hj)]
theorem pair_now {a b : WV} (ha : a.Ok) (j : Nat) : (pairArr a b)[105 + j]? = b.cells[j]? := by
  unfold pairArr
  rw [List.getElem?_toArray, List.getElem?_append_right (by rw [WV.cells_len ha]; omega), WV.cells_len ha, show 105 + j - 105 = j by omega]
section
variable {a b : WV}
theorem pair_was_node (ha : a.Ok) {i k : Nat} (hi : i < 8) (hk : k < 11) : (pairArr a b)[i * 11 + k]? = (a.nodes[i]'(by rw [ha.nodes]; exact hi)).cells[k]? := by
  rw [pair_was ha (by omega), WV.at_node ha hi hk]
theorem pair_now_node (ha : a.Ok) (hb : b.Ok) {i k : Nat} (hi : i < 8) (hk : k < 11) : (pairArr a b)[105 + i * 11 + k]? = (b.nodes[i]'(by rw [hb.nodes]; exact hi)).cells[k]? := by
  rw [show 105 + i * 11 + k = 105 + (i * 11 + k) by omega, pair_now ha, WV.at_node hb hi hk]
theorem pair_was_has (ha : a.Ok) {i : Nat} (hi : i < 8) : (pairArr a b)[88 + i]? = some (.int .i64 (a.has[i]'(by rw [ha.has]; exact hi))) := by
  rw [pair_was ha (by omega), WV.at_has ha hi]
theorem pair_now_has (ha : a.Ok) (hb : b.Ok) {i : Nat} (hi : i < 8) : (pairArr a b)[193 + i]? = some (.int .i64 (b.has[i]'(by rw [hb.has]; exact hi))) := by
  rw [show 193 + i = 105 + (88 + i) by omega, pair_now ha, WV.at_has hb hi]
theorem pair_was_fence (ha : a.Ok) {i : Nat} (hi : i < 8) : (pairArr a b)[96 + i]? = some (.int .i64 (a.fence[i]'(by rw [ha.fence]; exact hi))) := by
  rw [pair_was ha (by omega), WV.at_fence ha hi]
theorem pair_now_fence (ha : a.Ok) (hb : b.Ok) {i : Nat} (hi : i < 8) : (pairArr a b)[201 + i]? = some (.int .i64 (b.fence[i]'(by rw [hb.fence]; exact hi))) := by
  rw [show 201 + i = 105 + (96 + i) by omega, pair_now ha, WV.at_fence hb hi]
theorem pair_now_flight (ha : a.Ok) (hb : b.Ok) : (pairArr a b)[209]? = some (.int .i64 b.flight) := by
  rw [show (209 : Nat) = 105 + 104 by omega, pair_now ha, WV.at_flight hb]
end
set_option maxHeartbeats 2000000 in
theorem crowd_any (a b : WV) (ha : a.Ok) (hb : b.Ok) (at_ : Int) (w : World) :
    Calls Try.prog 17 #[.agg (pairArr a b), .int .i64 at_] w fun e w' => e = .returned (.bool (decide (64 < b.flight))) ∧ Below w.heap.size w w' := by
  have c0 := pair_now_flight ha hb
  clear ha hb
  go_enter Try.func17, Try.ntmps17
  go_wp2_with fail
  go_ret
  exact ⟨rfl, (Below.refl _ _).alloc (Nat.le_refl _) _⟩
set_option maxHeartbeats 4000000 in
theorem runs_any (a b : WV) (ha : a.Ok) (hb : b.Ok) (i : Nat) (hi : i < 8) (w : World) :
    Calls Try.prog 27 #[.agg (pairArr a b), .int .i64 i] w fun e w' => e = .returned (.bool ((a.nodes[i]'(by rw [ha.nodes]; exact hi)).runs && (b.nodes[i]'(by rw [hb.nodes]; exact hi)).runs)) ∧ Grew w w' := by
  have c0 := pair_was_node (b := b) ha hi (k := 0) (by omega)
  have c1 := pair_now_node ha hb hi (k := 0) (by omega)
  rw [Nat.add_zero] at c0 c1
  simp only [WN.cells, List.getElem?_cons_zero] at c0 c1
  generalize (a.nodes[i]'(by rw [ha.nodes]; exact hi)).runs = x at *
  generalize (b.nodes[i]'(by rw [hb.nodes]; exact hi)).runs = y at *
  have hiz : (i : Int) < 8 := by omega
  clear ha hb
  cases x with
  | false =>
    go_enter Try.func27, Try.ntmps27
    go_wp2_with fail
    go_ret
    exact ⟨rfl, (Grew.refl _).alloc _⟩
  | true =>
    go_enter Try.func27, Try.ntmps27
    go_wp2_with fail
    go_ret
    exact ⟨rfl, (Grew.refl _).alloc _⟩
end Go.Proofs.Ytkdjfoehpioghaa
