/-
  A detector's errands: which is the one, and one struck: slices.IndexFunc and slices.Delete at errands.
  An errand struck: slices.Delete at errands.
-/
import Derived.Test.YtejihgfigclppaaGreatMSwimU
import Derived.Deep.RegionLaw
namespace Go.Proofs.YtejihgfigclppaaGreat
open Go.Shelf Go.RowKit Go.Lib Go.Sort
set_option linter.unusedVariables false
set_option linter.unusedSimpArgs false
def Er.is (q n : Int) (x : Er) : Bool := decide (x.num = q ∧ x.node = n)
theorem run_eql_ask (a b q n : Int) (w : World) : (binOp .eql 130 (.agg #[.int .i64 a, .int .i64 b]) (.agg #[.int .i64 q, .int .i64 n])).run Tryz.prog w = .ok (.bool (decide (a = q ∧ b = n))) w := by
 go_simp
 by_cases h1 : a = q <;> by_cases h2 : b = n <;> simp [h1, h2]
def idxEr (l : List Er) (q n : Int) : Int := match l.findIdx? (Er.is q n) with | some i => (i : Int) | none => -1
theorem idxEr_some {l : List Er} {q n : Int} {i : Nat} (h : l.findIdx? (Er.is q n) = some i) : idxEr l q n = i := by unfold idxEr; rw [h]
theorem idxEr_none {l : List Er} {q n : Int} (h : l.findIdx? (Er.is q n) = none) : idxEr l q n = -1 := by unfold idxEr; rw [h]
set_option maxHeartbeats 4000000 in
theorem ackFn_any (c : Nat) (q n : Int) (x : Er) (W : World) (h0 : W.cell? ⟨c, 0, none⟩ = some (.int .i64 q)) (h1 : W.cell? ⟨c, 1, none⟩ = some (.int .i64 n)) :
  Calls Tryz.prog 81 #[.agg #[.int .i64 x.num, .int .i64 x.node, .int .i64 x.frm, .int .i64 x.seq], .pointer (some ⟨c, 0, none⟩)] W fun e w' => e = .returned (.bool (x.is q n)) ∧ Below W.heap.size W w' := by
 have heq := run_eql_ask x.num x.node q n
 rw [show decide (x.num = q ∧ x.node = n) = x.is q n from rfl] at heq
 generalize x.is q n = r at *
 have hlt : c < W.heap.size := World.block_lt_of_cell? W _ h0
 have hB : Hid (Below W.heap.size W (W.alloc (.cells #[.int .i64 x.num, .int .i64 x.node, .int .i64 x.frm, .int .i64 x.seq] 149))) := (Below.refl _ _).alloc (Nat.le_refl _) _
 go_enter Tryz.func81, Tryz.ntmps81
 go_wp2_with fail
 go_ret
 exact ⟨rfl, hB.out⟩
set_option maxHeartbeats 8000000 in
theorem indexEr_any (c : Nat) (q n : Int) (oa : Option Addr) (cap : Nat) (l : List Er) (w : World) (h : SlAt Er.cells w (.slice oa l.length cap) l) (hl : l.length ≤ 1000) (h0 : w.cell? ⟨c, 0, none⟩ = some (.int .i64 q)) (h1 : w.cell? ⟨c, 1, none⟩ = some (.int .i64 n)) :
  Calls Tryz.prog 80 #[.slice oa l.length cap, .func (.func 81) #[] #[.pointer (some ⟨c, 0, none⟩)]] w fun e w' => e = .returned (.int .i64 (idxEr l q n)) ∧ Below w.heap.size w w' := by
 have HSL := Lib.hid h
 have H0 := Lib.hid h0
 have H1 := Lib.hid h1
 have hcl : c < w.heap.size := World.block_lt_of_cell? w _ h0
 have eg : ∀ args w, (callFunc 81 args).run Tryz.prog w = .ok (.enter 81 args) w := enters_of Tryz.func81 (by kernel_rfl) rfl
 clear h h0 h1
 go_enter Tryz.func80, Tryz.ntmps80
 go_wp2_with fail
 go_loopg [8] l.length (fun gk s8 wr => ∃ (i : Nat), s8 = .int .i64 i ∧ i ≤ l.length ∧ l.length - i ≤ gk ∧ Hid (∀ x ∈ l.take i, x.is q n = false) ∧ Hid (Below w.heap.size w wr))
 case atStart => exact ⟨0, rfl, Nat.zero_le _, Nat.le_refl _, (fun x hx => by simp at hx), Below.refl _ _⟩
 case round =>
  obtain ⟨i, rfl, hi, hg, HP, HB⟩ := hrel
  by_cases hlt : i < l.length
  ·have hltz : (i : Int) < (l.length : Int) := by omega
   have hsl := HSL.out.below Er.cells_len (by decide) HB.out (Nat.le_refl _)
   obtain ⟨b, off, rfl⟩ := hsl.plain Er.cells_len (by decide) (by intro e; rw [e] at hlt; exact absurd hlt (by simp))
   have c0 := hsl.cell Er.cells_len (i := i) (c := 0) hlt (by decide)
   have c1 := hsl.cell Er.cells_len (i := i) (c := 1) hlt (by decide)
   have c2 := hsl.cell Er.cells_len (i := i) (c := 2) hlt (by decide)
   have c3 := hsl.cell Er.cells_len (i := i) (c := 3) hlt (by decide)
   replace c0 : wr.cell? ⟨b, off + i * 4, none⟩ = some (.int .i64 l[i].num) := c0
   replace c1 : wr.cell? ⟨b, off + i * 4 + 1, none⟩ = some (.int .i64 l[i].node) := c1
   replace c2 : wr.cell? ⟨b, off + i * 4 + 2, none⟩ = some (.int .i64 l[i].frm) := c2
   replace c3 : wr.cell? ⟨b, off + i * 4 + 3, none⟩ = some (.int .i64 l[i].seq) := c3
   have hfn := ackFn_any c q n l[i] wr ((HB.out.cell (p := ⟨c, 0, none⟩) hcl).trans H0.out) ((HB.out.cell (p := ⟨c, 1, none⟩) hcl).trans H1.out)
   have hyes : l[i].is q n = true → l.findIdx? (Er.is q n) = some i := fun h => by
    rw [List.findIdx?_eq_some_iff_getElem]
    refine ⟨hlt, h, fun j hj => ?_⟩
    have := HP.out l[j] (List.mem_take_iff_getElem.2 ⟨j, by omega, rfl⟩)
    rw [this]
    decide
   have hno : l[i].is q n = false → ∀ x ∈ l.take (i + 1), x.is q n = false := fun h x hx => by
    rw [List.take_succ_eq_append_getElem hlt, List.mem_append, List.mem_singleton] at hx
    rcases hx with hx | rfl
    ·exact HP.out x hx
    ·exact h
   have HY := Lib.hid hyes
   have HN := Lib.hid hno
   generalize l[i] = x at *
   have HFN := Lib.hid hfn
   clear hsl hyes hno hfn HP
   cases hx : x.is q n with
   | true =>
    rw [hx] at HFN
    have HR := Lib.hid (idxEr_some (HY.out hx))
    clear HY HN hx
    go_wp2_with fail
    refine HFN.out.mono ?_
    rintro e w2 ⟨rfl, hb2⟩
    have HB2 := Lib.hid (HB.out.trans (hb2.mono HB.out.size))
    clear hb2
    go_wp2_with fail
    go_ret
    exact ⟨by rw [HR.out]; rfl, HB2.out⟩
   | false =>
    rw [hx] at HFN
    have HR := Lib.hid (HN.out hx)
    clear HY HN hx
    go_wp2_with fail
    refine HFN.out.mono ?_
    rintro e w2 ⟨rfl, hb2⟩
    have HB2 := Lib.hid (HB.out.trans (hb2.mono HB.out.size))
    clear hb2
    go_wp2_with fail
    go_roundg (l.length - (i + 1))
    case measure => omega
    case rel => exact ⟨i + 1, by go_num, by omega, Nat.le_refl _, HR.out, HB2.out⟩
  ·have hltz : ¬ (i : Int) < (l.length : Int) := by omega
   obtain rfl : i = l.length := by omega
   have hr : l.findIdx? (Er.is q n) = none := by
    rw [List.findIdx?_eq_none_iff]
    have := HP.out
    rwa [List.take_length] at this
   have HR := Lib.hid (idxEr_none hr)
   clear hr
   go_wp2_with fail
   go_ret
   exact ⟨by rw [HR.out]; rfl, HB.out⟩
end Go.Proofs.YtejihgfigclppaaGreat
namespace Go.Proofs.YtejihgfigclppaaGreat
open Go.Shelf Go.RowKit Go.Lib Go.Sort
set_option linter.unusedVariables false
set_option linter.unusedSimpArgs false
theorem infoEr : ∃ i, (Tryz.prog).info? 149 = some i ∧ i.size = 4 := by
 obtain ⟨i, hi⟩ := Option.isSome_iff_exists.1 (show ((Tryz.prog).info? 149).isSome = true by kernel_rfl)
 refine ⟨i, hi, ?_⟩
 have h : ((Tryz.prog).info? 149).map (·.size) = some 4 := by kernel_rfl
 rw [hi] at h
 exact Option.some.inj h
def zerosEr : List Value := [.int .i64 0, .int .i64 0, .int .i64 0, .int .i64 0]
theorem zeroEr (w : World) : (zeroValue 149).run Tryz.prog w = .ok (.agg zerosEr.toArray) w := by kernel_rfl
theorem run_clear_er (w : World) (ty : TypeId) (g o c : Nat) (cur : Array Value) (e : TypeId) (h : w.heap[g]? = some (.cells cur e)) (ho : o + 4 ≤ cur.size) :
  (Builtin.clear_ #[93] ty #[.slice (some ⟨g, o, none⟩) 1 c]).run Tryz.prog w = .ok (.tuple #[]) (w.setCells g o zerosEr) := by
 have hst := run_storeCells_cells (P := Tryz.prog) g o zerosEr 0 w (fun j hj => by
  have hj4 : j < 4 := hj
  rw [cell_of_row w g _ _ _ _ h, Array.getElem?_eq_getElem (by omega)]; rfl) (fun j hj => by unfold World.frozen?; rw [h]; simp) (by intro v hv; simp [zerosEr] at hv; subst hv; rfl)
 simp only [Nat.add_zero] at hst
 have hz : (Builtin.zeroCells (Value.agg #[.int .i64 0, .int .i64 0, .int .i64 0, .int .i64 0]).cells 1).toList = zerosEr := by
  simp [Builtin.zeroCells, Value.cells, zerosEr]
  rw [show List.range 4 = [0, 1, 2, 3] from rfl]
  rfl
 have hv := zeroEr w
 unfold zerosEr at hv
 simp [Builtin.clear_, run_underlying Tryz.underlying93, hv, hz, hst]
theorem strike_row (cur : Array Value) (l : List Er) (cap i : Nat) (hc : cur.size = cap * 4) (hcap : l.length ≤ cap) (ht : cur.toList.take (l.length * 4) = l.flatMap Er.cells) (hi : i < l.length) :
  (setAll (setAll cur (i * 4) ((l.drop (i + 1)).flatMap Er.cells)) ((l.length - 1) * 4) zerosEr).toList.take ((l.length - 1) * 4) = (l.eraseIdx i).flatMap Er.cells := by
 have hlen : ((l.drop (i + 1)).flatMap Er.cells).length = (l.length - (i + 1)) * 4 := by rw [flat_len Er.cells 4 Er.cells_len, List.length_drop]
 have hlen2 : ((l.eraseIdx i).flatMap Er.cells).length = (l.length - 1) * 4 := by rw [flat_len Er.cells 4 Er.cells_len, List.length_eraseIdx_of_lt hi]
 apply List.ext_getElem?
 intro j
 rw [List.getElem?_take]
 by_cases hj : j < (l.length - 1) * 4
 ·rw [if_pos hj, Array.getElem?_toList, setAll_get, if_neg (by omega), setAll_get]
  have he : l.eraseIdx i = l.take i ++ l.drop (i + 1) := List.eraseIdx_eq_take_drop_succ ..
  have hlt : ((l.take i).flatMap Er.cells).length = i * 4 := by rw [flat_len Er.cells 4 Er.cells_len, List.length_take]; omega
  rw [he, List.flatMap_append]
  by_cases h1 : i * 4 ≤ j
  ·rw [if_pos ⟨h1, by rw [hlen]; omega, by omega⟩, List.getElem?_append_right (by omega), hlt]
  ·rw [if_neg (by omega), List.getElem?_append_left (by omega)]
   have h2 : cur[j]? = (l.flatMap Er.cells)[j]? := by
    rw [← ht, List.getElem?_take, if_pos (by omega), Array.getElem?_toList]
   rw [h2]
   have h3 : l.flatMap Er.cells = (l.take i).flatMap Er.cells ++ (l.drop i).flatMap Er.cells := by rw [← List.flatMap_append, List.take_append_drop]
   rw [h3, List.getElem?_append_left (by omega)]
 ·rw [if_neg hj, List.getElem?_eq_none (by omega)]
set_option maxRecDepth 1000000 in
set_option maxHeartbeats 8000000 in
theorem deleteEr_any (g cap i B : Nat) (l : List Er) (w : World) (h : Owns Er.cells 4 B 149 w (.slice (some ⟨g, 0, none⟩) l.length cap) l) (hi : i < l.length) (hl : l.length ≤ 1000) :
  Calls Tryz.prog 82 #[.slice (some ⟨g, 0, none⟩) l.length cap, .int .i64 i, .int .i64 (i + 1 : Nat)] w fun e w' => e = .returned (.slice (some ⟨g, 0, none⟩) (l.length - 1) cap) ∧ Owns Er.cells 4 B 149 w' (.slice (some ⟨g, 0, none⟩) (l.length - 1) cap) (l.eraseIdx i) ∧ w.grownBy w' (some g) := by
 have hp : Tryz.prog.follows .mixedOrders = true := by kernel_rfl
 obtain ⟨i0, hi0, hz4⟩ := infoEr
 have hat := h.at
 obtain ⟨cur, hBg, hh, hcap, hm, hs, ht⟩ : ∃ cur, B ≤ g ∧ w.heap[g]? = some (.cells cur 149 (0, 0)) ∧ l.length ≤ cap ∧ cap ≤ maxLen ∧ cur.size = cap * 4 ∧ cur.toList.take (l.length * 4) = l.flatMap Er.cells := by
  rcases h.2 with ⟨hv, hn⟩ | ⟨g', cap', cur, hv, hb, hh, hc, hm, hs, ht⟩
  ·cases hv
  ·simp only [Value.slice.injEq, Option.some.injEq, Addr.mk.injEq] at hv
   obtain ⟨⟨rfl, _, _⟩, _, rfl⟩ := hv
   exact ⟨cur, hb, hh, hc, hm, hs, ht⟩
 obtain ⟨news, hnews⟩ : ∃ news, news = (l.drop (i + 1)).flatMap Er.cells := ⟨_, rfl⟩
 have hlen : news.length = (l.length - (i + 1)) * 4 := by rw [hnews, flat_len Er.cells 4 Er.cells_len, List.length_drop]
 obtain ⟨A, hA, hsrc⟩ : ∃ A : Addr, (if cap = i + 1 then some (⟨g, 0, none⟩ : Addr) else some ⟨g, (i + 1) * 4, none⟩) = some A ∧ Hid (∀ t u, news[t]? = some u → w.drew.cell? (A.add t) = some u) := by
  by_cases hc : cap = i + 1
  ·refine ⟨⟨g, 0, none⟩, by simp [hc], fun t u hu => ?_⟩
   have := (List.getElem?_eq_some_iff.1 hu).1
   omega
  ·refine ⟨⟨g, (i + 1) * 4, none⟩, by simp [hc], fun t u hu => ?_⟩
   have htl := (List.getElem?_eq_some_iff.1 hu).1
   rw [Addr.add_lit]
   refine (show w.cell? ⟨g, (i + 1) * 4 + t, none⟩ = some u from ?_)
   rw [cell_of_row w g _ _ _ _ hh, ← hu, hnews]
   have e1 : cur[(i + 1) * 4 + t]? = (l.flatMap Er.cells)[(i + 1) * 4 + t]? := by
    rw [← ht, List.getElem?_take, if_pos (by omega), Array.getElem?_toList]
   have h3 : l.flatMap Er.cells = (l.take (i + 1)).flatMap Er.cells ++ (l.drop (i + 1)).flatMap Er.cells := by rw [← List.flatMap_append, List.take_append_drop]
   have h4 : ((l.take (i + 1)).flatMap Er.cells).length = (i + 1) * 4 := by rw [flat_len Er.cells 4 Er.cells_len, List.length_take]; omega
   rw [e1, h3, List.getElem?_append_right (by omega), h4, Nat.add_sub_cancel_left]
 have s1 : Hid (news.length = (l.length - (i + 1)) * 4) := hlen
 have s2 : Hid (∀ u ∈ news, u.oneCell' = true) := by
  intro u hu
  rw [hnews, List.mem_flatMap] at hu
  obtain ⟨x, _, hx⟩ := hu
  simp [Er.cells] at hx
  rcases hx with rfl | rfl | rfl | rfl <;> rfl
 have s3 : Hid (∀ t, t < news.length → (w.drew.cell? ⟨g, 0 + i * 4 + t, none⟩).isSome = true ∧ w.drew.frozen? ⟨g, 0 + i * 4 + t, none⟩ = false) := by
  intro t ht'
  refine ⟨?_, ?_⟩
  ·show (w.cell? _).isSome = true
   rw [cell_of_row w g _ _ _ _ hh, Array.getElem?_eq_getElem (by omega)]
   rfl
  ·show w.frozen? _ = false
   unfold World.frozen?; rw [hh]; simp
 obtain ⟨W1, hW1⟩ : ∃ W1, W1 = w.drew.setCells g (0 + i * 4) news := ⟨_, rfl⟩
 have hW1h : W1.heap[g]? = some (.cells (setAll cur (i * 4) news) 149) := by
  rw [hW1, Nat.zero_add]
  exact heap_setAll g _ news (i * 4) w.drew cur hh
 have hW1g : w.grownBy W1 (some g) := by rw [hW1]; exact gb_then (gb_drew w (some g)) (grown_setCells news _ _ (World.grownBy.refl _ _)) fun j hj => .inr hj
 have hcl := fun ty => run_clear_er W1 ty g ((l.length - 1) * 4) (cap - (l.length - 1)) _ _ hW1h (by rw [setAll_size]; omega)
 have hW2h : (W1.setCells g ((l.length - 1) * 4) zerosEr).heap[g]? = some (.cells (setAll (setAll cur (i * 4) news) ((l.length - 1) * 4) zerosEr) 149) := heap_setAll g _ zerosEr _ W1 _ hW1h
 have hW2g : w.grownBy (W1.setCells g ((l.length - 1) * 4) zerosEr) (some g) := gb_then hW1g (grown_setCells zerosEr _ _ (World.grownBy.refl _ _)) fun j hj => .inr hj
 have hst := strike_row cur l cap i hs hcap ht hi
 rw [← hnews] at hst
 have hown : Owns Er.cells 4 B 149 (W1.setCells g ((l.length - 1) * 4) zerosEr) (.slice (some ⟨g, 0, none⟩) (l.length - 1) cap) (l.eraseIdx i) := by
  have hel : (l.eraseIdx i).length = l.length - 1 := List.length_eraseIdx_of_lt hi
  refine ⟨flat_len Er.cells 4 Er.cells_len _, .inr ⟨g, cap, _, by rw [hel], hBg, hW2h, by rw [hel]; omega, hm, by rw [setAll_size, setAll_size, hs], by rw [hel]; exact hst⟩⟩
 have HOWN := Lib.hid hown
 have HG2 := Lib.hid hW2g
 have hW : Hid (W1 = w.drew.setCells g (0 + i * 4) news) := hW1
 have k1 : ¬ cap = 0 := by omega
 have k2 : i ≤ cap := by omega
 have k3 : i + 1 ≤ cap := by omega
 have k4 : ¬ cap = l.length - 1 := by omega
 have k5 : l.length - 1 ≤ cap := by omega
 have hne : ((i : Int) == ((i + 1 : Nat) : Int)) = false := by simp; omega
 have k6 : i + (l.length - (i + 1)) ≤ cap := by omega
 have k7 : i + (l.length - (i + 1)) = l.length - 1 := by omega
 have k8 : i + 1 ≤ l.length := by omega
 have k9 : i ≤ i + 1 := by omega
 have k10 : ((l.length - 1 : Nat) : Int) ≤ (l.length : Int) := by omega
 clear hW1 hW1h hW1g hW2h hW2g hst hown hnews hlen hh hs ht hat h hm
 generalize hj : i + 1 = j at *
 have HJ := Lib.hid hj
 clear hj
 go_enter Tryz.func82, Tryz.ntmps82
 go_wp2_with fail
 go_region_law_o (go_loud (refine step_append_room rfl (.tmp 22) (.tmp 25) 93 rfl 149 i0 4 Tryz.underlying93 hi0 hz4 g 0 i cap (by simp [Act.eval, Act.put]) A (l.length - j) (cap - j) news (by simp [Act.eval, Act.put]) s1.out hsrc.out s2.out (by omega) s3.out ?_; rw [← hW.out]))
 have k11 : l.length - (l.length - 1) = 1 := by omega
 go_wp2
 go_ret
 exact ⟨rfl, HOWN.out, HG2.out⟩
end Go.Proofs.YtejihgfigclppaaGreat
