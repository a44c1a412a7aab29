/-
  The law RankOne walked: it returns true, and turns nothing that was there.
-/
import Derived.Test.YtlohmmhdfabjiaaLaw12a
namespace Go.Proofs.Ytlohmmhdfabjiaa
open Go.Shelf Go.RowKit Go.Lib Go.Sort
set_option linter.unusedVariables false
/-- a node's place, counted from 1 on; 0 if it is not there -/
def pos (l : List Int) (n : Int) : Int := if n ∈ l then (l.idxOf n : Int) + 1 else 0
theorem pos_snoc {l : List Int} {x : Int} (hx : x ∉ l) (n : Int) : pos (l ++ [x]) n = if n = x then (l.length : Int) + 1 else pos l n := by
  unfold pos
  by_cases h : n = x
  · subst h
    rw [if_pos rfl, if_pos (by simp), List.idxOf_append, if_neg hx]
    simp
  · rw [if_neg h]
    by_cases hl : n ∈ l
    · rw [if_pos (by simp [hl]), if_pos hl, List.idxOf_append, if_pos hl]
    · rw [if_neg (by simp [hl, h]), if_neg hl]
theorem idxOf_ne {a b : Int} (h : a ≠ b) (l : List Int) : (a :: l).idxOf b = l.idxOf b + 1 := by
  have e : (a == b) = false := by simpa using h
  simp [List.idxOf_cons, e]
theorem two_ahead {pr : Int → Bool} {p q : Int} (hp : pr p = true) (hq : pr q = true) (hne : p ≠ q) : ∀ {L : List Int}, L.filter pr = [p, q] → p ∈ L ∧ q ∈ L ∧ L.idxOf p < L.idxOf q
  | [], h => by simp at h
  | a :: t, h => by
    by_cases ha : pr a = true
    · rw [List.filter_cons, if_pos ha, List.cons.injEq] at h
      obtain ⟨rfl, h⟩ := h
      have hqt : q ∈ t := (List.mem_filter.1 (by rw [h]; simp : q ∈ t.filter pr)).1
      refine ⟨by simp, List.mem_cons_of_mem _ hqt, ?_⟩
      rw [List.idxOf_cons_self, idxOf_ne hne]
      omega
    · rw [List.filter_cons, if_neg ha] at h
      obtain ⟨h1, h2, h3⟩ := two_ahead hp hq hne h
      have hap : a ≠ p := fun e => ha (e ▸ hp)
      have haq : a ≠ q := fun e => ha (e ▸ hq)
      refine ⟨List.mem_cons_of_mem _ h1, List.mem_cons_of_mem _ h2, ?_⟩
      rw [idxOf_ne hap, idxOf_ne haq]
      omega
theorem two_shape {wt : Int → Int} {x y : Int} {l2 : List Int} (hx0 : 0 ≤ x) (hx1 : x < 8) (hy0 : 0 ≤ y) (hy1 : y < 8) (hxy : x ≠ y) (h2 : Ranks wt [x, y] l2) : ∃ p q : Nat, l2 = [(p : Int), (q : Int)] ∧ p < 8 ∧ q < 8 := by
  have hm : ∀ z, z ∈ l2 ↔ z = x ∨ z = y := fun z => by
    rw [h2.mem]
    simp only [List.mem_cons, List.not_mem_nil, or_false]
    omega
  have hnd := h2.nodup
  have hlen : l2.length = 2 := by
    have h3 : ([x, y] : List Int).Perm l2 := (List.perm_ext_iff_of_nodup (by simp [hxy]) hnd).2 fun z => by rw [hm]; simp
    exact h3.length_eq.symm
  match l2, hlen with
  | [p, q], _ =>
    have hp := (hm p).1 (by simp)
    have hq := (hm q).1 (by simp)
    obtain ⟨pn, rfl⟩ := Int.eq_ofNat_of_zero_le (a := p) (by omega)
    obtain ⟨qn, rfl⟩ := Int.eq_ofNat_of_zero_le (a := q) (by omega)
    exact ⟨pn, qn, rfl, by omega, by omega⟩
/-- eight numbers in a block -/
structure Places (b : Nat) (W : World) (f : Nat → Int) : Prop where
  heap : ∃ cs : Array Value, W.heap[b]? = some (.cells cs 35) ∧ cs.size = 8 ∧ ∀ n, n < 8 → cs[n]? = some (.int .i64 (f n))
theorem Places.cell {b : Nat} {W : World} {f : Nat → Int} (h : Places b W f) (n : Nat) (hn : n < 8) : W.cell? ⟨b, n, none⟩ = some (.int .i64 (f n)) := by
  obtain ⟨cs, hh, _, hc⟩ := h.heap
  rw [cell_of_row _ b n _ _ _ hh]
  exact hc n hn
theorem Places.frozen {b : Nat} {W : World} {f : Nat → Int} (h : Places b W f) (n : Nat) : W.frozen? ⟨b, n, none⟩ = false := by
  obtain ⟨cs, hh, _, _⟩ := h.heap
  simp [World.frozen?, hh]
theorem Places.set {b : Nat} {W : World} {f g : Nat → Int} (h : Places b W f) (k : Nat) (v : Int) (hk : k < 8) (hg : ∀ n, n < 8 → g n = if n = k then v else f n) : Places b (W.setCell ⟨b, k, none⟩ (.int .i64 v)) g := by
  obtain ⟨cs, hh, hs, hc⟩ := h.heap
  refine ⟨cs.setIfInBounds k (.int .i64 v), heap_setCell_same _ _ _ _ _ _ _ hh, by simpa using hs, fun n hn => ?_⟩
  rw [Array.getElem?_setIfInBounds, hg n hn]
  by_cases hnk : n = k
  · subst hnk
    rw [if_pos rfl, if_pos rfl, if_pos (by omega)]
  · rw [if_neg (fun e => hnk e.symm), if_neg hnk]
    exact hc n hn
theorem Places.below {b B : Nat} {W W' : World} {f : Nat → Int} (h : Places b W f) (hb : Below B W W') (hB : b < B) : Places b W' f := by
  obtain ⟨cs, hh, hs, hc⟩ := h.heap
  exact ⟨cs, (hb.block b hB).trans hh, hs, hc⟩
/-- of two the same one is ahead, whoever else there is -/
theorem one_ahead {wt : Int → Int} {x y : Int} {nodes l2 L : List Int} (hx0 : 0 ≤ x) (hx1 : x < 8) (hy0 : 0 ≤ y) (hy1 : y < 8) (hxy : x ≠ y) (h2 : Ranks wt [x, y] l2) (hL : Ranks wt (x :: y :: nodes) L) :
    ∃ p q : Nat, l2 = [(p : Int), (q : Int)] ∧ p < 8 ∧ q < 8 ∧ 0 < pos L p ∧ pos L p < pos L q := by
  have he : l2 = L.filter fun z => z == x || z == y := h2.eq (hL.gone (fun z => z == x || z == y) (rest := [x, y]) fun z => by
    simp only [List.mem_cons, List.not_mem_nil, or_false, Bool.or_eq_true, beq_iff_eq]
    constructor
    · rintro (h | h)
      · exact ⟨.inl h, .inl h⟩
      · exact ⟨.inr (.inl h), .inr h⟩
    · exact fun h => h.2) rfl
  have hm : ∀ z, z ∈ l2 ↔ z = x ∨ z = y := fun z => by
    rw [h2.mem]
    simp only [List.mem_cons, List.not_mem_nil, or_false]
    omega
  have hnd := h2.nodup
  have hlen : l2.length = 2 := by
    have h3 : ([x, y] : List Int).Perm l2 := (List.perm_ext_iff_of_nodup (by simp [hxy]) hnd).2 fun z => by rw [hm]; simp
    exact h3.length_eq.symm
  match l2, hlen with
  | [p, q], _ =>
    have hp := (hm p).1 (by simp)
    have hq := (hm q).1 (by simp)
    have hpq : p ≠ q := by simpa using hnd
    obtain ⟨h4, h5, h6⟩ := two_ahead (pr := fun z => z == x || z == y) (by simpa using hp) (by simpa using hq) hpq he.symm
    obtain ⟨pn, rfl⟩ := Int.eq_ofNat_of_zero_le (a := p) (by omega)
    obtain ⟨qn, rfl⟩ := Int.eq_ofNat_of_zero_le (a := q) (by omega)
    refine ⟨pn, qn, rfl, by omega, by omega, ?_, ?_⟩
    · unfold pos; rw [if_pos h4]; omega
    · unfold pos; rw [if_pos h4, if_pos h5]; omega
set_option maxRecDepth 100000 in
set_option maxHeartbeats 8000000 in
theorem lawOne (oa : Option Addr) (cap : Nat) (nodes : List Int) (work salt a b : Int) (w : World) (h : SlAt icells w (.slice oa nodes.length cap) nodes) (h0 : 0 ≤ salt) (h1 : salt < 18446744073709551616) (ha0 : 0 ≤ a) (ha1 : a ≤ 255) (hb0 : 0 ≤ b) (hb1 : b ≤ 255) :
    Calls Try.prog 4 #[.agg #[.slice oa nodes.length cap, .int .i64 work, .int .u64 salt, .int .u8 a, .int .u8 b]] w fun e w' => e = .returned (.bool true) ∧ RowKit.Below w.heap.size w w' := by
  have HE := Lib.hid h
  have AL := Lib.hid alive_any
  clear h
  go_enter Try.func4, Try.ntmps4
  go_wp2_with fail
  refine (AL.out _).mono ?_
  rintro e w1 ⟨rfl, hb1⟩
  obtain ⟨hcell, hfr⟩ := bcell hb1
  have hz1 : w.heap.size < w1.heap.size := by have := hb1.size; simp at this; omega
  have hB1 : RowKit.Below w.heap.size w w1 := ((RowKit.Below.refl _ _).alloc (Nat.le_refl _) _).trans (hb1.mono (by simp))
  have HB1 := Lib.hid hB1
  clear hb1 hB1
  go_wp2_with fail
  go_quiet (fail)
  have hB2 : RowKit.Below w.heap.size w (w1.drewN nq) := HB1.out.trans ⟨rfl, rfl, rfl, Nat.le_refl _, fun _ _ => rfl⟩
  clear hcell hfr hz1 HB1
  generalize w1.drewN nq = w2 at *
  have HE2 := Lib.hid (HE.out.below icells_len (by decide) hB2 (Nat.le_refl _))
  have HB2 := Lib.hid hB2
  clear hB2
  have hx0 : 0 ≤ a % 8 := by omega
  have hx1 : a % 8 < 8 := by omega
  have hy0 : 0 ≤ b % 8 := by omega
  have hy1 : b % 8 < 8 := by omega
  generalize hxx : a % 8 = x at *
  generalize hyy : b % 8 = y at *
  by_cases h100 : (100 : Int) < (nodes.length : Int)
  · go_wp2_with fail
    go_ret
    exact ⟨rfl, HB2.out⟩
  have hnl : nodes.length ≤ 100 := by omega
  by_cases hxy : x = y
  · have hxyb : (x == y) = true := by simpa using hxy
    clear hxy
    go_wp2_with fail
    go_ret
    exact ⟨rfl, HB2.out⟩
  have hxyb : (x == y) = false := by simpa using hxy
  have HXY := Lib.hid hxy
  clear hxy
  have ho3 := order_any (some ⟨w2.heap.size, 0, none⟩) 2 [x, y] work salt h0 h1 (w2.alloc (.cells #[.int .i64 x, .int .i64 y] 3)) (slAt_new _ _ _ _ _ _ _ rfl rfl (by simp)) (by simp)
  have HO3 := Lib.hid ho3
  clear ho3
  go_wp2_with fail
  refine HO3.out.mono ?_
  rintro e w3 ⟨o3, c3, l2, rfl, hr3, hs3, hb3⟩
  obtain ⟨pn, qn, rfl, hp8, hq8⟩ := two_shape hx0 hx1 hy0 hy1 HXY.out hr3
  have HB3 := Lib.hid ((HB2.out.trans (((Below.refl _ _).alloc (Nat.le_refl _) (.cells #[.int .i64 x, .int .i64 y] 3)).trans (hb3.mono (by simp)) |>.mono HB2.out.size)))
  have HE3 := Lib.hid ((HE2.out.below icells_len (by decide) ((Below.refl _ _).alloc (Nat.le_refl _) (.cells #[.int .i64 x, .int .i64 y] 3)) (Nat.le_refl _)).below icells_len (by decide) hb3 (Nat.le_refl _))
  have HR3 := Lib.hid hr3
  have HS3 := Lib.hid hs3
  clear hr3 hs3 hb3 HO3 HE2 HB2
  simp only [List.length_cons, List.length_nil, Nat.zero_add, Nat.reduceAdd] at *
  go_wp2_with (at_builtin; go_loud (refine wpList_appD icells 1 icells_len (by decide) icells_one _ rfl _ _ 22 rfl (w3.heap.size + 1) 3 _ 8 Try.underlying22 infoInt rfl _ [x, y] rfl ?h1 _ nodes rfl ?h2 ?h3 ?h4 ?h5 ?_))
  case h1 =>
    have := owns_lit (w3.heap.size + 1) (w3.alloc (.cells #[.int .i64 0, .int .i64 0, .int .i64 0, .int .i64 0, .int .i64 0, .int .i64 0, .int .i64 0, .int .i64 0] 35)) [x, y] (by simp) (by simp)
    rw [World.size_alloc] at this
    exact this
  case h2 => exact HE3.out.below icells_len (by decide) (((Below.refl _ _).alloc (Nat.le_refl _) _).alloc (by simp) _) (Nat.le_refl _)
  case h3 => simp only [List.length_cons, List.length_nil]; omega
  case h4 => simp only [List.length_cons, List.length_nil]; omega
  case h5 => simp
  intro v5 w5 h5 hg5 hv5 hd5
  obtain ⟨o5, c5, rfl⟩ := slAt_slice h5.at
  have hb35 : Below w3.heap.size w3 w5 := (((Below.refl _ _).alloc (Nat.le_refl _) _).alloc (by simp) _).grown hg5 (by simp; omega) fun k hk => by simp [Value.ownBlock] at hk; omega
  have hp5 : Places w3.heap.size w5 (fun n => pos [] n) := by
    have hp0 : Places w3.heap.size (w3.alloc (.cells #[.int .i64 0, .int .i64 0, .int .i64 0, .int .i64 0, .int .i64 0, .int .i64 0, .int .i64 0, .int .i64 0] 35)) (fun n => pos [] n) := by
      refine ⟨_, heap_alloc_new _ _, rfl, fun n hn => ?_⟩
      have : n = 0 ∨ n = 1 ∨ n = 2 ∨ n = 3 ∨ n = 4 ∨ n = 5 ∨ n = 6 ∨ n = 7 := by omega
      rcases this with rfl | rfl | rfl | rfl | rfl | rfl | rfl | rfl <;> rfl
    have hbb : Below (w3.heap.size + 1) (w3.alloc (.cells #[.int .i64 0, .int .i64 0, .int .i64 0, .int .i64 0, .int .i64 0, .int .i64 0, .int .i64 0, .int .i64 0] 35)) w5 := ((Below.refl _ _).alloc (by simp) _).grown hg5 (by simp) fun k hk => by simp [Value.ownBlock] at hk; omega
    exact hp0.below hbb (Nat.lt_succ_self _)
  have hz5 : w3.heap.size < w5.heap.size := by have := hg5.size; simp at this; omega
  have HB5 := Lib.hid hb35
  have HP5 := Lib.hid hp5
  have ho6 := order_own o5 c5 (x :: y :: nodes) work salt h0 h1 w5 h5.at (by simp only [List.length_cons]; omega)
  have HO6 := Lib.hid ho6
  clear h5 hg5 hv5 hd5 hb35 hp5 ho6
  generalize (x :: y :: nodes).length = nn at *
  go_wp2_with fail
  refine HO6.out.mono ?_
  rintro e w6 ⟨o6, c6, L, rfl, hr6, hs6, hb6⟩
  have hL8 := hr6.len
  obtain ⟨p', q', hpq, hp1, hq1, hpos, hlt⟩ := one_ahead hx0 hx1 hy0 hy1 HXY.out HR3.out hr6
  simp only [List.cons.injEq, and_true, Int.ofNat_inj] at hpq
  obtain ⟨rfl, rfl⟩ := hpq
  have hB6 := HB5.out.trans (hb6.mono (Nat.le_of_lt hz5))
  have HB6 := Lib.hid hB6
  have HP6 := Lib.hid (HP5.out.below hb6 hz5)
  have HS6 := Lib.hid (hs6.lower (show w3.heap.size + 1 ≤ _ from hz5))
  have HR6 := Lib.hid hr6
  have HPOS := Lib.hid hpos
  have HLT := Lib.hid hlt
  clear hr6 hs6 hb6 hpos hlt hB6 HO6 HB5 HP5 HR3
  go_wp2_with fail
  go_loopg [59] L.length (fun gk s59 wr => ∃ (i : Nat), s59 = .int .i64 i ∧ i ≤ L.length ∧ L.length - i ≤ gk ∧ Hid (Places w3.heap.size wr (fun n => pos (L.take i) n)) ∧ Hid (Ints (w3.heap.size + 1) wr (.slice o6 L.length c6) L) ∧ Hid (Below w3.heap.size w3 wr))
  case atStart => exact ⟨0, rfl, Nat.zero_le _, Nat.le_refl _, HP6, HS6, HB6⟩
  case round =>
    obtain ⟨i, rfl, hi, hg, HP, HS, HB⟩ := hrel
    by_cases hlt : i < L.length
    · have hltz : (i : Int) < (L.length : Int) := by omega
      have hsl := HS.out.at
      obtain ⟨b, off, rfl⟩ := hsl.plain icells_len (by decide) (by intro e; rw [e] at hlt; exact absurd hlt (by simp))
      obtain ⟨hz0, hz8, _⟩ := (HR6.out.mem _).1 (List.getElem_mem hlt)
      obtain ⟨zn, hzn⟩ := Int.eq_ofNat_of_zero_le hz0
      have hz9 : zn < 8 := by omega
      have hz9z : (zn : Int) < 8 := by omega
      have c0 : wr.cell? ⟨b, off + i, none⟩ = some (.int .i64 (zn : Int)) := by
        have := hsl.cell icells_len (i := i) (c := 0) hlt (by decide)
        rw [hzn] at this
        simpa [icells] using this
      have a0 := HP.out.cell zn hz9
      have f0 := HP.out.frozen zn
      have hni : L[i]'hlt ∉ L.take i := by
        have hnd := HR6.out.nodup
        intro hm
        obtain ⟨j, hj, he⟩ := List.mem_iff_getElem.1 hm
        rw [List.getElem_take] at he
        simp only [List.length_take] at hj
        exact List.pairwise_iff_getElem.1 hnd j i (by omega) hlt (by omega) he
      have hps := HP.out.set zn ((i : Int) + 1) hz9 (g := fun n => pos (L.take (i + 1)) n) (fun n hn => by
        show pos (L.take (i + 1)) n = _
        rw [List.take_succ_eq_append_getElem hlt, pos_snoc hni, hzn, List.length_take, Nat.min_eq_left (Nat.le_of_lt hlt)]
        by_cases hnz : n = zn
        · subst hnz; rw [if_pos rfl, if_pos rfl]
        · rw [if_neg (show ¬ ((n : Int) = (zn : Int)) by omega), if_neg hnz])
      have hss := HS.out.keep (w' := wr.setCell ⟨w3.heap.size, zn, none⟩ (.int .i64 ((i : Int) + 1))) fun g hg => Below.heap_setCell _ _ _ g fun e => by
        have := (HS.out.lt g hg).1
        simp only at e
        omega
      have hbs := HB.out.setCell (p := ⟨w3.heap.size, zn, none⟩) (Nat.le_refl _) (.int .i64 ((i : Int) + 1))
      have HPS := Lib.hid hps
      have HSS := Lib.hid hss
      have HBS := Lib.hid hbs
      have hb0 : ¬ w3.heap.size = b := by
        have := (HS.out.lt b rfl).1
        omega
      clear hsl hz0 hz8 hni hps hss hbs hzn HS HB HP
      go_wp2_with fail
      go_roundg (L.length - (i + 1))
      case measure => omega
      case rel => exact ⟨i + 1, by go_num, by omega, Nat.le_refl _, by first | exact HPS | simpa using HPS, by first | exact HSS | simpa using HSS, by first | exact HBS | simpa using HBS⟩
    · have hltz : ¬ (i : Int) < (L.length : Int) := by omega
      obtain rfl : i = L.length := by omega
      have hp := HP.out
      rw [List.take_length] at hp
      have ap := hp.cell pn hp8
      have aq := hp.cell qn hq8
      obtain ⟨b2, off2, rfl⟩ := HS3.out.plain icells_len (by decide) (by simp)
      have hs3 := HS3.out.below icells_len (by decide) HB.out (Nat.le_refl _)
      have c0 : wr.cell? ⟨b2, off2, none⟩ = some (.int .i64 (pn : Int)) := by
        have := hs3.cell icells_len (i := 0) (c := 0) (by simp) (by decide)
        simpa [icells] using this
      have c1 : wr.cell? ⟨b2, off2 + 1, none⟩ = some (.int .i64 (qn : Int)) := by
        have := hs3.cell icells_len (i := 1) (c := 0) (by simp) (by decide)
        simpa [icells] using this
      have hpz : (pn : Int) < 8 := by omega
      have hqz : (qn : Int) < 8 := by omega
      have hpos := HPOS.out
      have hltp := HLT.out
      have HBX := Lib.hid (HB3.out.trans (HB.out.mono HB3.out.size))
      clear hp hs3 HP HS HB HPOS HLT HP6 HS6 HB6
      generalize pos L pn = u at *
      generalize pos L qn = v at *
      go_wp2_with fail
      go_quiet (fail)
      go_wp2_with fail
      go_ret
      exact ⟨rfl, HBX.out.trans ((below_drewN _ _).mono HBX.out.size)⟩
end Go.Proofs.Ytlohmmhdfabjiaa
