/-
  Are views more than are looked at: murmurlaw32.great at two views.
-/
import Derived.Test.YtkdjfoehpioghaaViewTo
namespace Go.Proofs.Ytkdjfoehpioghaa
open Go.Shelf Go.RowKit Go.Lib Go.Sort
set_option linter.unusedVariables false
def two (a b : WV) : Nat → WV
  | 0 => a
  | _ => b
theorem two_ok {a b : WV} (ha : a.Ok) (hb : b.Ok) (i : Nat) : (two a b i).Ok := by
  cases i with
  | zero => exact ha
  | succ i => exact hb
theorem two_cell {a b : WV} (ha : a.Ok) {i j : Nat} (hi : i < 2) (hj : j < 105) : (pairArr a b)[i * 105 + j]? = (two a b i).cells[j]? := by
  rcases (show i = 0 ∨ i = 1 by omega) with rfl | rfl
  · rw [Nat.zero_mul, Nat.zero_add, pair_was ha hj]; rfl
  · rw [Nat.one_mul, pair_now ha]; rfl
/-- the headers say how long the sets' rows are -/
def HdOk (v : WV) : Prop := ∀ n ∈ v.nodes, n.hd.n = n.s.more.length
def SmallV (v : WV) (k : Nat) : Prop := ∀ j n, j < k → v.nodes[j]? = some n → n.s.more.length ≤ 1000
theorem zeroViewR : (Try.zeroCells30).size = 105 := by kernel_rfl
theorem node_indexS (l : List WN) (hl : l.length = 8) (i : Nat) (hi : i < 8) (n : WN) (hn : l[i]? = some n) (w : World) : (Instr.index 28 (.agg (l.flatMap WN.cells).toArray) (.int .i64 i)).run Try.prog w = .ok (.agg n.cells.toArray) w := by
  have h := node_index l hl i hi w
  rw [List.getElem?_eq_getElem (by rw [hl]; exact hi)] at hn
  rw [Option.some.inj hn] at h
  exact h
set_option maxRecDepth 100000 in
set_option maxHeartbeats 8000000 in
theorem great_any (a b : WV) (ha : a.Ok) (hb : b.Ok) (h1 : HdOk a) (h2 : HdOk b) (blk : Nat) (w : World) (h : w.heap[blk]? = some (.cells (pairArr a b) 30)) :
    Calls Try.prog 5 #[.slice (some ⟨blk, 0, none⟩) 2 2] w fun e w' => ∃ g : Bool, e = .returned (.bool g) ∧ (g = false → SmallV a 8 ∧ SmallV b 8) ∧ Below w.heap.size w w' := by
  have hlt0 := (Array.getElem?_eq_some_iff.1 h).1
  have hhd : ∀ i, HdOk (two a b i) := fun i => by cases i with
    | zero => exact h1
    | succ i => exact h2
  have HHD := Lib.hid hhd
  have HOK := Lib.hid (two_ok ha hb)
  have HA := Lib.hid ha
  have HR := Lib.hid h
  clear h1 h2 hhd ha hb h
  go_enter Try.func5, Try.ntmps5
  go_wp2_with fail
  go_loopg [9] 2 (fun gk s9 wr => ∃ (i : Nat), s9 = .int .i64 i ∧ i ≤ 2 ∧ 2 - i ≤ gk ∧ Hid (∀ j, j < i → SmallV (two a b j) 8) ∧ Hid (Below w.heap.size w wr))
  case atStart => exact ⟨0, rfl, by omega, by omega, fun j hj => absurd hj (Nat.not_lt_zero _), Below.refl _ _⟩
  case round =>
    obtain ⟨i, rfl, hi, hgk, HS, HB⟩ := hrel
    have hsz := HB.out.size
    by_cases hlt : i < 2
    · have hltz : (i : Int) < 2 := by omega
      have hrr := (HB.out.block blk hlt0).trans HR.out
      have okV := HOK.out i
      have hld : Sem.run Try.prog (loadCellsFrom ⟨blk, i * 105, none⟩ 0 105 #[]) wr = .ok (two a b i).cells.toArray wr := run_loadCellsFrom_list Try.prog wr ⟨blk, i * 105, none⟩ (two a b i).cells 105 (WV.cells_len okV) (fun k x hk => by
        rw [Addr.add_lit, cell_of_row wr blk _ _ _ _ hrr, two_cell HA.out hlt (by have := (List.getElem?_eq_some_iff.1 hk).1; rwa [WV.cells_len okV] at this)]
        exact hk)
      obtain ⟨w3, hst, hr3, hg3⟩ := store_whole (w := wr.alloc (.cells Try.zeroCells30 30)) (g := wr.heap.size) (cur := Try.zeroCells30) (t := 30) (vs := (two a b i).cells.toArray.toList) (heap_alloc_new _ _) (by rw [zeroViewR, Array.length_toList, List.size_toArray, WV.cells_len okV]) (fun x hx => WV.one x (by simpa using hx))
      have hr3' : w3.heap[wr.heap.size]? = some (.cells (two a b i).cells.toArray 30) := by rw [hr3, Array.toArray_toList]
      have hsc : (two a b i).cells.toArray.size = 105 := by rw [List.size_toArray]; exact WV.cells_len okV
      have hln : Sem.run Try.prog (loadCellsFrom ⟨wr.heap.size, 0, none⟩ 0 88 #[]) w3 = .ok ((two a b i).nodes.flatMap WN.cells).toArray w3 := run_loadCellsFrom_list Try.prog w3 ⟨wr.heap.size, 0, none⟩ ((two a b i).nodes.flatMap WN.cells) 88 (WV.nodes_len okV) (fun k x hk => by
        rw [Addr.add_lit, cell_of_row w3 _ _ _ _ _ hr3', Nat.zero_add, List.getElem?_toArray]
        unfold WV.cells
        exact (List.getElem?_append_left (List.getElem?_eq_some_iff.1 hk).1).trans hk)
      have hb3 : Below w.heap.size w w3 := (HB.out.alloc hsz _).grown hg3 (by rw [World.size_alloc]; omega) (fun k hk => by cases hk; omega)
      have hix := fun (j : Nat) (hj : j < 8) (n : WN) (hn : (two a b i).nodes[j]? = some n) (W : World) => node_indexS (two a b i).nodes okV.nodes j hj n hn W
      have HLD := Lib.hid hld
      have HLN := Lib.hid hln
      have HB3 := Lib.hid hb3
      have HIX := Lib.hid hix
      have HOKV := Lib.hid okV
      have HDV := Lib.hid (HHD.out i)
      clear hld hr3 hr3' hg3 hrr hln hb3 okV hix
      generalize (two a b i).cells.toArray = cA at *
      generalize ((two a b i).nodes.flatMap WN.cells).toArray = nA at *
      obtain ⟨V, hV⟩ : ∃ V, two a b i = V := ⟨_, rfl⟩
      rw [hV] at HOKV HDV
      simp only [hV] at HIX
      have HVI := Lib.hid hV
      clear hV
      go_wp2_with (first | (refine wpList_loadAgg _ rfl 30 _ rfl 105 (by kernel_rfl) (by kernel_rfl) ⟨blk, i * 105, none⟩ rfl cA HLD.out ?_) | (refine wpList_loadAgg _ rfl 28 _ rfl 88 (by kernel_rfl) (by kernel_rfl) ⟨wr.heap.size, 0, none⟩ rfl nA HLN.out ?_))
      go_loopg [15] 8 (fun gk s15 wq => ∃ (k : Nat), s15 = .int .i64 k ∧ k ≤ 8 ∧ 8 - k ≤ gk ∧ Hid (SmallV V k) ∧ Hid (Below w.heap.size w wq))
      case atStart => exact ⟨0, rfl, by omega, by omega, fun j n hj => absurd hj (Nat.not_lt_zero _), HB3.out⟩
      case round =>
        obtain ⟨k, rfl, hk, hgk, HSV, HBq⟩ := hrel
        by_cases hltk : k < 8
        · have hltkz : (k : Int) < 8 := by omega
          obtain ⟨n, hn⟩ : ∃ n, V.nodes[k]? = some n := ⟨_, List.getElem?_eq_getElem (by rw [HOKV.out.nodes]; exact hltk)⟩
          have hix := HIX.out k hltk n hn
          have hhd := HDV.out n (List.mem_of_getElem? hn)
          have HN := Lib.hid hn
          clear hn
          obtain ⟨rn, inc, ⟨oa, ln, cap⟩, s⟩ := n
          dsimp only at hhd
          subst hhd
          simp only [WN.cells, Hdr.val] at hix
          by_cases hbig : (1000 : Int) < (s.more.length : Int)
          · go_wp2_with fail
            go_ret
            exact ⟨true, rfl, (fun h => nomatch h), HBq.out.alloc HBq.out.size _⟩
          · go_wp2_with fail
            have hbq := HBq.out.alloc HBq.out.size (.cells #[.bool rn, .int .i64 inc, .int .i64 (s.u 0), .int .i64 (s.u 1), .int .i64 (s.u 2), .int .i64 (s.u 3), .int .i64 (s.u 4), .int .i64 (s.u 5), .int .i64 (s.u 6), .int .i64 (s.u 7), .slice oa s.more.length cap] 27)
            go_roundg (8 - (k + 1))
            case measure => omega
            case rel => exact ⟨k + 1, by go_num, by omega, Nat.le_refl _, (fun j n hj hn => by
              by_cases e : j = k
              · rw [e, HN.out] at hn
                rw [← Option.some.inj hn]
                show s.more.length ≤ 1000
                omega
              · exact HSV.out j n (by omega) hn), hbq⟩
        · have hltkz : ¬ (k : Int) < 8 := by omega
          obtain rfl : k = 8 := by omega
          go_wp2_with fail
          go_roundg (2 - (i + 1))
          case measure => omega
          case rel => exact ⟨i + 1, by go_num, by omega, Nat.le_refl _, (fun j hj => by
            by_cases e : j = i
            · rw [e, HVI.out]; exact HSV.out
            · exact HS.out j (by omega)), HBq.out⟩
    · have hltz : ¬ (i : Int) < 2 := by omega
      obtain rfl : i = 2 := by omega
      go_wp2_with fail
      go_ret
      exact Or.inl ⟨rfl, ⟨HS.out 0 (by omega), HS.out 1 (by omega)⟩, HB.out⟩
end Go.Proofs.Ytkdjfoehpioghaa
