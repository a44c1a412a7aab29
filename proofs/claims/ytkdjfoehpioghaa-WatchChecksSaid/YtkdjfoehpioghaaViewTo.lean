/-
  A view of the law as one of the program: murmurlaw32.to walked.
-/
import Derived.Test.YtkdjfoehpioghaaCheckW
import Derived.Test.YtkdjfoehpioghaaSetTo
import Derived.Test.YtkdjfoehpioghaaCut
namespace Go.Proofs.Ytkdjfoehpioghaa
open Go.Shelf Go.RowKit Go.Lib Go.Sort
set_option linter.unusedVariables false
theorem run_loadVarAgg {P : Program} {t : TypeId} {p : Addr} {n : Nat} {vs : Array Value} {w : World} (hA : (isAgg t).run P w = .ok true w) (hz : (Go.sizeOf t).run P w = .ok n w) (hl : (loadCellsFrom p 0 n #[]).run P w = .ok vs w) : (loadVar t p).run P w = .ok (.agg vs) w := by
  simp only [loadVar, loadCells, Sem.run_bind, Sem.run_pure, Result.andThen_ok, hA, hz, hl, if_true]
theorem run_results_cell {P : Program} {fn : Func} {k : Nat} {t : TypeId} (hf : fn.results = #[.cell k t]) {tmps : Array Value} {p : Addr} (hp : tmps[k]?.getD undef = .pointer (some p)) {w : World} {v : Value} (hl : (loadVar t p).run P w = .ok v w) : (results fn tmps).run P w = .ok v w := by
  unfold results
  rw [hf]
  simp [hp, asAddr, hl]
theorem setAll_left : ∀ (vs : List Value) (a b : List Value) (o : Nat), o + vs.length ≤ a.length → setAll (a ++ b).toArray o vs = ((setAll a.toArray o vs).toList ++ b).toArray
  | [], a, b, o, h => by unfold setAll; rfl
  | v :: vs, a, b, o, h => by
    have h' : o + 1 + vs.length ≤ a.length := by simp only [List.length_cons] at h; omega
    unfold setAll
    rw [List.setIfInBounds_toArray, List.setIfInBounds_toArray, List.set_append_left _ _ (by omega), setAll_left vs (a.set o v) b (o + 1) (by rw [List.length_set]; exact h')]
theorem setAll_right : ∀ (vs : List Value) (a b : List Value) (o : Nat), setAll (a ++ b).toArray (a.length + o) vs = (a ++ (setAll b.toArray o vs).toList).toArray
  | [], a, b, o => by unfold setAll; rfl
  | v :: vs, a, b, o => by
    unfold setAll
    rw [List.setIfInBounds_toArray, List.setIfInBounds_toArray, List.set_append_right _ _ (by omega), show a.length + o - a.length = o by omega, show a.length + o + 1 = a.length + (o + 1) by omega, setAll_right vs a (b.set o v) (o + 1)]
theorem setAll_flat {α : Type} (enc : α → List Value) (k : Nat) (hk : ∀ x, (enc x).length = k) (x : α) : ∀ (l : List α) (i : Nat), i < l.length → setAll (l.flatMap enc).toArray (i * k) (enc x) = ((l.set i x).flatMap enc).toArray
  | [], i, h => absurd h (Nat.not_lt_zero _)
  | y :: l, 0, h => by
    rw [List.flatMap_cons, Nat.zero_mul, setAll_left _ _ _ _ (by rw [hk, hk]; omega), setAll_one (by rw [List.size_toArray, hk, hk]), List.set_cons_zero, List.flatMap_cons]
  | y :: l, i + 1, h => by
    rw [List.flatMap_cons, show (i + 1) * k = (enc y).length + i * k by rw [hk, Nat.add_mul]; omega, setAll_right, setAll_flat enc k hk x l i (by simpa using h), List.set_cons_succ, List.flatMap_cons]
def WV.setNode (v : WV) (i : Nat) (n : WN) : WV := { v with nodes := v.nodes.set i n }
theorem WV.setNode_ok {v : WV} (h : v.Ok) (i : Nat) (n : WN) : (v.setNode i n).Ok := ⟨by show (v.nodes.set i n).length = 8; rw [List.length_set]; exact h.nodes, h.has, h.fence⟩
theorem WV.setNode_cells {v : WV} (h : v.Ok) {i : Nat} (hi : i < 8) (n : WN) : setAll v.cells.toArray (i * 11) n.cells = (v.setNode i n).cells.toArray := by
  unfold WV.cells
  rw [setAll_left _ _ _ _ (by rw [WV.nodes_len h, WN.cells_len]; omega), setAll_flat WN.cells 11 WN.cells_len n v.nodes i (by rw [h.nodes]; exact hi)]
  rfl
def WN.zero : WN := ⟨false, 0, ⟨none, 0, 0⟩, DSet.none⟩
theorem zeroView : Try.zeroCells43 = (WV.cells ⟨List.replicate 8 WN.zero, List.replicate 8 0, List.replicate 8 0, 0⟩).toArray := by kernel_rfl
theorem setAll_mid (A B B' C : List Value) (h : B.length = B'.length) : setAll (A ++ (B ++ C)).toArray A.length B' = (A ++ (B' ++ C)).toArray := by
  have h1 := setAll_right B' A (B ++ C) 0
  rw [Nat.add_zero] at h1
  rw [h1, setAll_left B' B C 0 (by omega), setAll_one (by rw [List.size_toArray]; exact h)]
theorem built_view (has fence : List Int) (flight : Int) (hh : has.length = 8) (hf : fence.length = 8) : (setAll (setAll Try.zeroCells43 88 (has.map (Value.int .i64))) 96 (fence.map (Value.int .i64))).setIfInBounds 104 (.int .i64 flight) = (WV.cells ⟨List.replicate 8 WN.zero, has, fence, flight⟩).toArray := by
  rw [zeroView]
  unfold WV.cells
  dsimp only
  have l0 : ((List.replicate 8 WN.zero).flatMap WN.cells).length = 88 := rfl
  generalize (List.replicate 8 WN.zero).flatMap WN.cells = A at *
  have h1 := setAll_mid A ((List.replicate 8 (0 : Int)).map (Value.int .i64)) (has.map (Value.int .i64)) ((List.replicate 8 (0 : Int)).map (Value.int .i64) ++ [.int .i64 0]) (by rw [List.length_map, List.length_map, hh]; rfl)
  have h2 := setAll_mid (A ++ has.map (Value.int .i64)) ((List.replicate 8 (0 : Int)).map (Value.int .i64)) (fence.map (Value.int .i64)) [.int .i64 0] (by rw [List.length_map, List.length_map, hf]; rfl)
  have h3 := setAll_mid (A ++ (has.map (Value.int .i64) ++ fence.map (Value.int .i64))) [.int .i64 0] [.int .i64 flight] [] rfl
  rw [l0] at h1
  rw [List.length_append, l0, List.length_map, hh, List.append_assoc] at h2
  rw [List.length_append, List.length_append, l0, List.length_map, hh, List.length_map, hf] at h3
  simp only [List.append_assoc, List.append_nil, setAll] at h1 h2 h3
  rw [h1, h2, h3]
/-- the same view, its sets elsewhere -/
def SameV (v v' : WV) : Prop := v'.has = v.has ∧ v'.fence = v.fence ∧ v'.flight = v.flight ∧ v'.nodes.map (fun n => (n.runs, n.inc, n.s)) = v.nodes.map (fun n => (n.runs, n.inc, n.s))
theorem flat_extract {α : Type} (enc : α → List Value) (k : Nat) (hk : ∀ x, (enc x).length = k) (l : List α) (i : Nat) (hi : i < l.length) : (l.flatMap enc).toArray.extract (i * k) (i * k + k) = (enc l[i]).toArray := by
  apply Array.ext_getElem?
  intro j
  by_cases h : j < k
  · have h1 := flat_at enc k hk l i j hi h
    rw [Array.getElem?_extract_of_lt (by
      have h2 := flat_len enc k hk l
      have h3 : i * k + k ≤ l.length * k := by rw [← Nat.succ_mul]; exact Nat.mul_le_mul_right k hi
      rw [List.size_toArray, h2, Nat.min_eq_left h3]
      omega), List.getElem?_toArray]
    rw [← Array.getElem?_eq_getElem, List.getElem?_toArray]
    exact h1
  · rw [Array.getElem?_eq_none (by
      rw [Array.size_extract]
      have := Nat.min_le_left (i * k + k) (l.flatMap enc).toArray.size
      omega), Array.getElem?_eq_none (by rw [List.size_toArray, hk]; omega)]
theorem node_index (l : List WN) (hl : l.length = 8) (i : Nat) (hi : i < 8) (w : World) : (Instr.index 28 (.agg (l.flatMap WN.cells).toArray) (.int .i64 i)).run Try.prog w = .ok (.agg (l[i]'(by rw [hl]; exact hi)).cells.toArray) w := by
  have hz : (sizeOf 27).run Try.prog w = .ok 11 w := by kernel_rfl
  have ha : (isAgg 27).run Try.prog w = .ok true w := by kernel_rfl
  have hx := flat_extract WN.cells 11 WN.cells_len l i (by rw [hl]; exact hi)
  generalize (l.flatMap WN.cells).toArray = c at *
  generalize (l[i]'(by rw [hl]; exact hi)).cells.toArray = d at *
  have hi0 : (0 : Int) ≤ (i : Int) := by omega
  have hi8 : (i : Int) < 8 := by omega
  simp [Instr.index, asIntOf, run_underlying Try.underlying28, part, hz, ha, hx, hi0, Result.andThen]
  omega
/-- the first i nodes are turned -/
structure SomeTo (v V : WV) (i B : Nat) (w : World) : Prop where
  ok : V.Ok
  has : V.has = v.has
  fence : V.fence = v.fence
  flight : V.flight = v.flight
  nth : ∀ j, j < i → ∃ m n : WN, v.nodes[j]? = some m ∧ V.nodes[j]? = some n ∧ (n.runs, n.inc, n.s) = (m.runs, m.inc, m.s) ∧ Owns Dot.cells 2 B 77 w n.hd.val n.s.more
theorem SomeTo.next {v V : WV} {i B : Nat} {w w' : World} {n n' : WN} (h : SomeTo v V i B w) (hn : v.nodes[i]? = some n) (hi : i < 8) (he : (n'.runs, n'.inc, n'.s) = (n.runs, n.inc, n.s)) (ho : Owns Dot.cells 2 B 77 w' n'.hd.val n'.s.more) (hk : ∀ hd l, Owns Dot.cells 2 B 77 w hd l → Owns Dot.cells 2 B 77 w' hd l) : SomeTo v (V.setNode i n') (i + 1) B w' where
  ok := WV.setNode_ok h.ok _ _
  has := h.has
  fence := h.fence
  flight := h.flight
  nth := fun j hj => by
    by_cases e : j = i
    · subst e
      exact ⟨n, n', hn, by show (V.nodes.set j n')[j]? = _; rw [List.getElem?_set_self (by rw [h.ok.nodes]; exact hi)], he, ho⟩
    · obtain ⟨m, k, h1, h2, h3, h4⟩ := h.nth j (by omega)
      exact ⟨m, k, h1, by show (V.nodes.set i n')[j]? = _; rw [List.getElem?_set_ne (fun e' => e e'.symm)]; exact h2, h3, hk _ _ h4⟩
theorem SomeTo.same {v V : WV} {B : Nat} {w : World} (h : SomeTo v V 8 B w) (hv : v.Ok) : SameV v V := by
  refine ⟨h.has, h.fence, h.flight, List.ext_getElem? fun j => ?_⟩
  rw [List.getElem?_map, List.getElem?_map]
  by_cases hj : j < 8
  · obtain ⟨m, n, h1, h2, h3, _⟩ := h.nth j hj
    rw [h1, h2]
    exact congrArg some h3
  · rw [List.getElem?_eq_none (by rw [h.ok.nodes]; omega), List.getElem?_eq_none (by rw [hv.nodes]; omega)]
theorem SomeTo.sets {v V : WV} {B : Nat} {w w0 : World} (h : SomeTo v V 8 B w) (hv : v.Ok) (hs : SetsIn w0 v) : ∀ n ∈ V.nodes, Owns Dot.cells 2 B 77 w n.hd.val n.s.more ∧ n.s.more.length ≤ 1000000 := by
  intro n hn
  obtain ⟨j, hj, he⟩ := List.mem_iff_getElem.1 hn
  obtain ⟨m, k, h1, h2, h3, h4⟩ := h.nth j (by have := h.ok.nodes; omega)
  rw [List.getElem?_eq_getElem hj, he] at h2
  cases h2
  refine ⟨h4, ?_⟩
  simp only [Prod.mk.injEq] at h3
  rw [h3.2.2]
  exact (hs m (List.mem_of_getElem? h1)).2
set_option maxRecDepth 100000 in
set_option maxHeartbeats 8000000 in
theorem to_any (v : WV) (hv : v.Ok) (w : World) (sv : SetsIn w v) :
    Calls Try.prog 9 #[.agg v.cells.toArray] w fun e w' => ∃ v' : WV, e = .returned (.agg v'.cells.toArray) ∧ v'.Ok ∧ SameV v v' ∧ SetsIn w' v' ∧ Below w.heap.size w w' := by
  obtain ⟨r0, r1, hb2, hs2⟩ := alloc2' w (.cells v.cells.toArray 30) (.cells Try.zeroCells43 43)
  have hq := fun (o n : Nat) (l : List Value) (W : World) (hW : W.heap[w.heap.size]? = some (.cells v.cells.toArray 30)) (hl : l.length = n) (hc : ∀ i x, l[i]? = some x → v.cells[o + i]? = some x) => run_loadCellsFrom_list Try.prog W ⟨w.heap.size, o, none⟩ l n hl (fun i x hi => by
    rw [Addr.add_lit, cell_of_row W _ _ _ _ _ hW, List.getElem?_toArray]
    exact hc i x hi)
  have hqh := hq 88 8 (v.has.map (Value.int .i64)) _ r0 (by rw [List.length_map, hv.has]) (fun i x hi => by
    rw [List.getElem?_map] at hi
    by_cases h : i < 8
    · rw [WV.at_has hv h]; rw [List.getElem?_eq_getElem (by rw [hv.has]; exact h)] at hi; exact hi
    · rw [List.getElem?_eq_none (by rw [hv.has]; omega)] at hi; cases hi)
  have hqf := hq 96 8 (v.fence.map (Value.int .i64)) _ r0 (by rw [List.length_map, hv.fence]) (fun i x hi => by
    rw [List.getElem?_map] at hi
    by_cases h : i < 8
    · rw [WV.at_fence hv h]; rw [List.getElem?_eq_getElem (by rw [hv.fence]; exact h)] at hi; exact hi
    · rw [List.getElem?_eq_none (by rw [hv.fence]; omega)] at hi; cases hi)
  have cfl := WV.at_flight hv
  have hf1 := fold_at 88 (v.has.map (Value.int .i64)) Try.zeroCells43 8 (by rw [List.length_map, hv.has])
  have hf2 := fold_at 96 (v.fence.map (Value.int .i64)) (setAll Try.zeroCells43 88 (v.has.map (Value.int .i64))) 8 (by rw [List.length_map, hv.fence])
  have hf3 := built_view v.has v.fence v.flight hv.has hv.fence
  have sH : (v.has.map (Value.int .i64)).toArray.size = 8 := by rw [List.size_toArray, List.length_map]; exact hv.has
  have sF : (v.fence.map (Value.int .i64)).toArray.size = 8 := by rw [List.size_toArray, List.length_map]; exact hv.fence
  have hz0 : (Try.zeroCells43).size = 105 := by rw [zeroView]; rfl
  have hz1 : (setAll Try.zeroCells43 88 (v.has.map (Value.int .i64))).size = 105 := by rw [setAll_size]; exact hz0
  have hz2 : (setAll (setAll Try.zeroCells43 88 (v.has.map (Value.int .i64))) 96 (v.fence.map (Value.int .i64))).size = 105 := by rw [setAll_size]; exact hz1
  have okV0 : (WV.mk (List.replicate 8 WN.zero) v.has v.fence v.flight).Ok := ⟨rfl, hv.has, hv.fence⟩
  have hsn : v.cells.toArray[104]? = some (.int .i64 v.flight) := by rw [List.getElem?_toArray]; exact cfl
  obtain ⟨w3, hst, hr3, hg3⟩ := store_whole (w := ((w.alloc (.cells v.cells.toArray 30)).alloc (.cells Try.zeroCells43 43)).alloc (.cells Try.zeroCells43 43)) (g := w.heap.size + 2) (cur := Try.zeroCells43) (t := 43) (vs := (WV.cells ⟨List.replicate 8 WN.zero, v.has, v.fence, v.flight⟩).toArray.toList) (by rw [← hs2]; exact heap_alloc_new _ _) (by rw [hz0, Array.length_toList, List.size_toArray, WV.cells_len okV0]) (fun x hx => WV.one x (by simpa using hx))
  have hsc : (WV.cells ⟨List.replicate 8 WN.zero, v.has, v.fence, v.flight⟩).toArray.size = 105 := by rw [List.size_toArray]; exact WV.cells_len okV0
  have hr3' : w3.heap[w.heap.size + 2]? = some (.cells (WV.cells ⟨List.replicate 8 WN.zero, v.has, v.fence, v.flight⟩).toArray 43) := by rw [hr3, Array.toArray_toList]
  have hb3 : Below w.heap.size w w3 := (hb2.alloc (by omega) (.cells Try.zeroCells43 43)).grown hg3 (by rw [World.size_alloc]; omega) (fun k hk => by cases hk; omega)
  have hs3 : w.heap.size + 2 < w3.heap.size := (Array.getElem?_eq_some_iff.1 hr3').1
  have hr30 : w3.heap[w.heap.size]? = some (.cells v.cells.toArray 30) := (hg3.block _ (by rw [World.size_alloc]; omega) (fun e => by have := Option.some.inj e; omega)).trans ((Below.heap_alloc _ _ _ (by omega)).trans r0)
  have hr31 : w3.heap[w.heap.size + 1]? = some (.cells Try.zeroCells43 43) := (hg3.block _ (by rw [World.size_alloc]; omega) (fun e => by have := Option.some.inj e; omega)).trans ((Below.heap_alloc _ _ _ (by omega)).trans r1)
  have hqn := hq 0 88 (v.nodes.flatMap WN.cells) w3 hr30 (WV.nodes_len hv) (fun i x hi => by
    rw [Nat.zero_add]
    unfold WV.cells
    exact (List.getElem?_append_left (List.getElem?_eq_some_iff.1 hi).1).trans hi)
  have HQN := Lib.hid hqn
  have HQH := Lib.hid hqh
  have HQF := Lib.hid hqf
  have HR2 := Lib.hid hr3'
  have HR1 := Lib.hid hr31
  have HB3 := Lib.hid hb3
  have SV := Lib.hid sv
  have HV := Lib.hid hv
  clear hq hqh hqf r0 r1 hb2 hg3 hr3 hr3' hr30 hr31 hqn hb3 cfl okV0
  obtain ⟨V0, hV0⟩ : ∃ V0, WV.mk (List.replicate 8 WN.zero) v.has v.fence v.flight = V0 := ⟨_, rfl⟩
  rw [hV0] at hf3 hst HR2 hsc
  generalize hcA : v.cells.toArray = cA at *
  generalize hc0 : V0.cells.toArray = c0 at *
  have HC0 := Lib.hid hc0
  clear hc0
  generalize setAll (setAll Try.zeroCells43 88 (v.has.map (Value.int .i64))) 96 (v.fence.map (Value.int .i64)) = Z2 at *
  generalize setAll Try.zeroCells43 88 (v.has.map (Value.int .i64)) = Z1 at *
  generalize (v.has.map (Value.int .i64)).toArray = aH at *
  generalize (v.fence.map (Value.int .i64)).toArray = aF at *
  generalize hnA : (v.nodes.flatMap WN.cells).toArray = nA at *
  have HCA := Lib.hid hcA
  have HNA := Lib.hid hnA
  have HV0 := Lib.hid hV0
  clear hcA hnA sv hv hV0
  go_enter Try.func9, Try.ntmps9
  go_wp2_with (first | (refine wpList_loadAgg _ rfl 22 _ rfl 8 (by kernel_rfl) (by kernel_rfl) ⟨w.heap.size, 88, none⟩ rfl aH HQH.out ?_) | (refine wpList_loadAgg _ rfl 22 _ rfl 8 (by kernel_rfl) (by kernel_rfl) ⟨w.heap.size, 96, none⟩ rfl aF HQF.out ?_) | (refine wpList_loadAgg _ rfl 28 _ rfl 88 (by kernel_rfl) (by kernel_rfl) ⟨w.heap.size, 0, none⟩ rfl nA HQN.out ?_))
  clear hst hf1 hf2 hf3 hsc HQH HQF sH sF hz1 hz2 hsn
  go_loopg [15] 8 (fun gk s15 wr => ∃ (i : Nat) (V : WV), s15 = .int .i64 i ∧ i ≤ 8 ∧ 8 - i ≤ gk ∧ Hid (SomeTo v V i (w.heap.size + 3) wr) ∧ Hid (wr.heap[w.heap.size + 2]? = some (.cells V.cells.toArray 43)) ∧ Hid (wr.heap[w.heap.size + 1]? = some (.cells Try.zeroCells43 43)) ∧ Hid (Below w.heap.size w wr))
  case atStart => exact ⟨0, V0, rfl, by omega, by omega, (by rw [← HV0.out]; exact ⟨⟨rfl, HV.out.has, HV.out.fence⟩, rfl, rfl, rfl, fun j hj => absurd hj (Nat.not_lt_zero _)⟩), (by rw [HC0.out]; exact HR2.out), HR1.out, HB3.out⟩
  case round =>
    obtain ⟨i, V, rfl, hi, hgk, HST, HR2, HR1, HB⟩ := hrel
    have hsz := HB.out.size
    by_cases hlt : i < 8
    · have hltz : (i : Int) < 8 := by omega
      have hix := fun W => node_index v.nodes HV.out.nodes i hlt W
      obtain ⟨n, hn⟩ : ∃ n, v.nodes[i]'(by rw [HV.out.nodes]; exact hlt) = n := ⟨_, rfl⟩
      simp only [hn, HNA.out] at hix
      have hsn := SV.out n (by rw [← hn]; exact List.getElem_mem _)
      have HN := Lib.hid (hn ▸ List.getElem?_eq_getElem (l := v.nodes) (i := i) (by rw [HV.out.nodes]; exact hlt) : v.nodes[i]? = some n)
      have HSN := Lib.hid hsn
      clear hsn hn
      obtain ⟨rn, inc, ⟨oa, ln, cap⟩, s⟩ := n
      simp only [WN.cells, Hdr.val] at hix
      go_wp2_with fail
      obtain rfl : ln = s.more.length := by
        obtain ⟨_, _, hv, _⟩ := HSN.out.1.slice_of
        simp only [Hdr.val, Value.slice.injEq] at hv
        exact hv.2.1
      have hba := (Below.refl wr.heap.size wr).alloc (Nat.le_refl _) (.cells #[.bool rn, .int .i64 inc, .int .i64 (s.u 0), .int .i64 (s.u 1), .int .i64 (s.u 2), .int .i64 (s.u 3), .int .i64 (s.u 4), .int .i64 (s.u 5), .int .i64 (s.u 6), .int .i64 (s.u 7), .slice oa s.more.length cap] 27)
      have hra : (wr.alloc (.cells #[.bool rn, .int .i64 inc, .int .i64 (s.u 0), .int .i64 (s.u 1), .int .i64 (s.u 2), .int .i64 (s.u 3), .int .i64 (s.u 4), .int .i64 (s.u 5), .int .i64 (s.u 6), .int .i64 (s.u 7), .slice oa s.more.length cap] 27)).heap[wr.heap.size]? = _ := heap_alloc_new wr _
      have hza : (wr.alloc (.cells #[.bool rn, .int .i64 inc, .int .i64 (s.u 0), .int .i64 (s.u 1), .int .i64 (s.u 2), .int .i64 (s.u 3), .int .i64 (s.u 4), .int .i64 (s.u 5), .int .i64 (s.u 6), .int .i64 (s.u 7), .slice oa s.more.length cap] 27)).heap.size = wr.heap.size + 1 := World.size_alloc _ _
      have hlt2 : w.heap.size + 2 < wr.heap.size := (Array.getElem?_eq_some_iff.1 HR2.out).1
      generalize wr.alloc (.cells #[.bool rn, .int .i64 inc, .int .i64 (s.u 0), .int .i64 (s.u 1), .int .i64 (s.u 2), .int .i64 (s.u 3), .int .i64 (s.u 4), .int .i64 (s.u 5), .int .i64 (s.u 6), .int .i64 (s.u 7), .slice oa s.more.length cap] 27) = wa at *
      have hto := setTo_any oa cap s wa.drew (HSN.out.1.below Dot.cells_len (by decide) (below_drew (HB.out.trans (hba.mono hsz))) (Nat.le_refl _)) HSN.out.2
      have HTO := Lib.hid hto
      have d0 : ∀ o, wa.drew.cell? ⟨wr.heap.size, o, none⟩ = _ := fun o => cell_of_row wa.drew wr.heap.size o _ _ _ hra
      have HRA := Lib.hid hra
      have HBA := Lib.hid hba
      obtain ⟨m, hm⟩ : ∃ m, V.nodes[i]'(by rw [HST.out.ok.nodes]; exact hlt) = m := ⟨_, rfl⟩
      have HM := Lib.hid hm
      clear hm
      clear hto hra hba
      refine wp_cutX (fun (x : Hdr) a => ((((((((((a.put (some 19) (.int .i64 i)).put (some 20) (.pointer (some ⟨wr.heap.size, 0, none⟩))).put (some 21) (.bool rn)).put (some 22) (.pointer (some ⟨wr.heap.size, 1, none⟩))).put (some 23) (.int .i64 inc)).put (some 24) (.pointer (some ⟨wr.heap.size, 2, none⟩))).put (some 25) (.agg #[.int .i64 (s.u 0), .int .i64 (s.u 1), .int .i64 (s.u 2), .int .i64 (s.u 3), .int .i64 (s.u 4), .int .i64 (s.u 5), .int .i64 (s.u 6), .int .i64 (s.u 7), .slice oa s.more.length cap])).put (some 26) (.agg #[.int .i64 (s.u 0), .int .i64 (s.u 1), .int .i64 (s.u 2), .int .i64 (s.u 3), .int .i64 (s.u 4), .int .i64 (s.u 5), .int .i64 (s.u 6), .int .i64 (s.u 7), x.val])).put (some 27) (.agg #[.bool rn, .int .i64 inc, .int .i64 (s.u 0), .int .i64 (s.u 1), .int .i64 (s.u 2), .int .i64 (s.u 3), .int .i64 (s.u 4), .int .i64 (s.u 5), .int .i64 (s.u 6), .int .i64 (s.u 7), x.val])).put (some 28) (.pointer (some ⟨w.heap.size + 2, 0, none⟩))).put (some 29) (.pointer (some ⟨w.heap.size + 2, i * 11, none⟩)))
        (fun x w' => w'.heap[w.heap.size + 2]? = some (.cells (V.setNode i ⟨rn, inc, x, s⟩).cells.toArray 43) ∧ Owns Dot.cells 2 wa.heap.size 77 w' x.val s.more ∧ wa.grownBy w' (some (w.heap.size + 2))) ?_ ?_
      next =>
        go_region_law (first
          | (go_simp
             refine HTO.out.mono ?_
             rintro e w5 ⟨⟨o5, n5, c5⟩, rfl, hown5, hb5⟩
             simp only [qcells, Hdr.val]
             have hr5 := (hb5.block wr.heap.size (by show _ < wa.heap.size; omega)).trans HRA.out
             have hr6 := (hb5.block (w.heap.size + 2) (by show _ < wa.heap.size; omega)).trans ((HBA.out.block (w.heap.size + 2) hlt2).trans HR2.out)
             have d5 : ∀ o, w5.cell? ⟨wr.heap.size, o, none⟩ = _ := fun o => cell_of_row w5 wr.heap.size o _ _ _ hr5
             have z5 : ∀ o, w5.frozen? ⟨w.heap.size + 2, o, none⟩ = false := fun o => by unfold World.frozen?; rw [hr6]; simp
             have k5 : ∀ k, k < 11 → w5.cell? ⟨w.heap.size + 2, i * 11 + k, none⟩ = m.cells[k]? := fun k hk => (cell_of_row w5 _ _ _ _ _ hr6).trans (by rw [List.getElem?_toArray, WV.at_node HST.out.ok hlt hk, HM.out])
             have k5_0 := k5 0 (by omega)
             have k5_1 := k5 1 (by omega)
             have k5_2 := k5 2 (by omega)
             have k5_3 := k5 3 (by omega)
             have k5_4 := k5 4 (by omega)
             have k5_5 := k5 5 (by omega)
             have k5_6 := k5 6 (by omega)
             have k5_7 := k5 7 (by omega)
             have k5_8 := k5 8 (by omega)
             have k5_9 := k5 9 (by omega)
             have k5_10 := k5 10 (by omega)
             simp only [WN.cells, List.getElem?_cons_zero, List.getElem?_cons_succ, Nat.add_zero] at k5_0 k5_1 k5_2 k5_3 k5_4 k5_5 k5_6 k5_7 k5_8 k5_9 k5_10
             clear k5
             have HOWN5 := Lib.hid hown5
             have HB5 := Lib.hid hb5
             have HR6 := Lib.hid hr6
             clear hown5 hb5 hr5 hr6 HTO))
        all_goals
          have hgr : w5.grownBy (w5.setCells (w.heap.size + 2) (i * 11) (WN.cells ⟨rn, inc, ⟨o5, n5, c5⟩, s⟩)) (some (w.heap.size + 2)) := grown_setCells _ _ _ (World.grownBy.refl _ _)
          refine ⟨⟨o5, n5, c5⟩, by kernel_rfl, ?_, ?_, ?_⟩
          · have h := heap_setAll (w.heap.size + 2) 43 (WN.cells ⟨rn, inc, ⟨o5, n5, c5⟩, s⟩) (i * 11) w5 _ HR6.out
            rw [WV.setNode_cells HST.out.ok hlt] at h
            exact h
          · exact HOWN5.out.past hgr (by show _ < wa.heap.size; omega)
          · exact grown_setCells (WN.cells ⟨rn, inc, ⟨o5, n5, c5⟩, s⟩) (i * 11) w5 (below_any (W := wa) ((below_drew (Below.refl _ _)).trans HB5.out) _)
      next =>
        rintro ⟨o6, n6, c6⟩ w6 ⟨hr6, hown6, hg6⟩
        simp only [Act.put, List.setIfInBounds_toArray, List.set_cons_succ, List.set_cons_zero]
        have hlt6 : w.heap.size + 1 < wa.heap.size := by omega
        have HR16 := Lib.hid ((hg6.block _ hlt6 (fun e => by have := Option.some.inj e; omega)).trans ((HBA.out.block (w.heap.size + 1) (by omega)).trans HR1.out))
        have HB6 : Hid (Below w.heap.size w w6) := (HB.out.trans (HBA.out.mono hsz)).grown hg6 (by show _ ≤ wa.heap.size; omega) (fun k hk => by cases hk; omega)
        have HST6 : Hid (SomeTo v (V.setNode i ⟨rn, inc, ⟨o6, n6, c6⟩, s⟩) (i + 1) (w.heap.size + 3) w6) := HST.out.next HN.out hlt rfl (hown6.lower (by omega)) (fun hd l h => (h.below HBA.out (Nat.le_refl _)).past hg6 (by omega))
        have HR26 := Lib.hid hr6
        clear hr6 hown6 hg6
        go_wp2_with fail
        go_roundg (8 - (i + 1))
        case measure => omega
        case rel => exact ⟨i + 1, V.setNode i ⟨rn, inc, ⟨o6, n6, c6⟩, s⟩, by go_num, by omega, Nat.le_refl _, HST6.out, HR26.out, HR16.out, HB6.out⟩
    · obtain rfl : i = 8 := by omega
      have okV := HST.out.ok
      have hld : Sem.run Try.prog (loadCellsFrom ⟨w.heap.size + 2, 0, none⟩ 0 105 #[]) wr = .ok V.cells.toArray wr := view_load okV HR2.out
      obtain ⟨w7, hst, hr7, hg7⟩ := store_whole (w := wr) (g := w.heap.size + 1) (cur := Try.zeroCells43) (t := 43) (vs := V.cells.toArray.toList) HR1.out (by rw [hz0, Array.length_toList, List.size_toArray, WV.cells_len okV]) (fun x hx => WV.one x (by simpa using hx))
      have hr7' : w7.heap[w.heap.size + 1]? = some (.cells V.cells.toArray 43) := by rw [hr7, Array.toArray_toList]
      have hld7 : Sem.run Try.prog (loadCellsFrom ⟨w.heap.size + 1, 0, none⟩ 0 105 #[]) w7 = .ok V.cells.toArray w7 := view_load okV hr7'
      have hsc : V.cells.toArray.size = 105 := by rw [List.size_toArray]; exact WV.cells_len okV
      have hsame := HST.out.same HV.out
      have hsets : SetsIn w7 V := fun n hn => by
        obtain ⟨h1, h2⟩ := HST.out.sets HV.out SV.out n hn
        exact ⟨(h1.past hg7 (by omega)).at, h2⟩
      have hb7 : Below w.heap.size w w7 := HB.out.grown hg7 HB.out.size (fun k hk => by cases hk; omega)
      have HLD := Lib.hid hld
      have HLD7 := Lib.hid hld7
      have HS := Lib.hid hsame
      have HSE := Lib.hid hsets
      have HB7 := Lib.hid hb7
      have HOK := Lib.hid okV
      clear hld hr7 hr7' hg7 hsame hsets hb7 hld7 okV HST HR2 HR1
      generalize hcV : V.cells.toArray = cV at *
      have HCV := Lib.hid hcV
      clear hcV
      go_wp2_with (refine wpList_loadAgg _ rfl 43 _ rfl 105 (by kernel_rfl) (by kernel_rfl) ⟨w.heap.size + 2, 0, none⟩ rfl cV HLD.out ?_)
      have hL := run_loadVarAgg (t := 43) (by kernel_rfl) (by kernel_rfl) HLD7.out
      exact bodyPost_ret (v := .agg cV) (run_results_cell rfl rfl hL) rfl ⟨V, by rw [HCV.out], HOK.out, HS.out, HSE.out, HB7.out⟩
end Go.Proofs.Ytkdjfoehpioghaa
