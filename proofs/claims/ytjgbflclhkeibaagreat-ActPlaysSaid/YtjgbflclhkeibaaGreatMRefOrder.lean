/-
  The reference's Order: the nodes that there may be, laid in one by one behind all that weigh no less.
  The first of an order: rank.Owner and the reference's; whether two rows hold the same numbers; what the law's own examples come to.
-/
import Derived.Test.YtjgbflclhkeibaaGreatRank
import Derived.Deep.DeepCutAuto
import Derived.IntWalk
namespace Go.Proofs.YtjgbflclhkeibaaGreat
open Go.Shelf Go.RowKit Go.Lib Go.Sort
set_option linter.unusedVariables false
def thereTo (nodes : List Int) (i : Nat) : List Int := ((List.range i).map Int.ofNat).filter fun n => decide (n ∈ nodes)
theorem thereTo_8 (nodes : List Int) : thereTo nodes 8 = there nodes := rfl
theorem thereTo_succ (nodes : List Int) (i : Nat) : thereTo nodes (i + 1) = thereTo nodes i ++ (if (i : Int) ∈ nodes then [(i : Int)] else []) := by
  unfold thereTo
  rw [List.range_succ, List.map_append, List.filter_append]
  congr 1
  simp only [List.map_cons, List.map_nil, List.filter_cons, List.filter_nil]
  by_cases h : (i : Int) ∈ nodes
  · simp [h]
  · simp [h]
theorem heavy_prefix {wt : Int → Int} {l : List Int} {n : Nat} {x : Int} (hs : SortedL (heavier wt) l) (h1 : n ≤ l.length) (h : ∀ y, 0 < n → l[n - 1]? = some y → ¬ wt y < wt x) : ∀ y ∈ l.take n, heavier wt x y = false := by
  intro y hy
  obtain ⟨j, hj, rfl⟩ := List.mem_iff_getElem.1 hy
  simp only [List.length_take] at hj
  rw [List.getElem_take]
  have h2 := h _ (by omega) (List.getElem?_eq_getElem (by omega : n - 1 < l.length))
  unfold heavier
  rw [decide_eq_false_iff_not]
  by_cases hjj : j = n - 1
  · subst hjj; exact h2
  · have hp := List.pairwise_iff_getElem.1 hs j (n - 1) (by omega) (by omega) (by omega)
    unfold heavier at hp
    rw [decide_eq_false_iff_not] at hp
    omega
theorem heavy_drop {wt : Int → Int} {l : List Int} {n : Nat} {x : Int} (hn : n < l.length) (h : wt (l[n]'hn) < wt x) (hk : ∀ y ∈ l.drop (n + 1), heavier wt x y = true) : ∀ y ∈ l.drop n, heavier wt x y = true := by
  intro y hy
  rw [List.drop_eq_getElem_cons hn] at hy
  rcases List.mem_cons.1 hy with rfl | hy
  · exact decide_eq_true h
  · exact hk y hy
theorem owns_made_int {e : Nat} (W : World) (n : Nat) (hn : W.heap.size = n) : Owns icells 1 n e (W.alloc (.cells #[] e)) (.slice (some ⟨n, 0, none⟩) 0 0) [] := by
  subst hn
  exact World.ownsRow_made W #[] 0 (Nat.le_refl _) (by decide) rfl
theorem mem_take_succ (l : List Int) (j : Nat) (x : Int) (hj : j < l.length) (b : Bool) (hb : b = decide (x ∈ l.take j)) : (b || l[j]'hj == x) = decide (x ∈ l.take (j + 1)) := by
  subst hb
  rw [List.take_succ_eq_append_getElem hj]
  rw [Bool.eq_iff_iff]
  simp only [Bool.or_eq_true, decide_eq_true_eq, beq_iff_eq, List.mem_append, List.mem_singleton]
  constructor
  · rintro (h | h)
    · exact .inl h
    · exact .inr h.symm
  · rintro (h | h)
    · exact .inl h
    · exact .inr h.symm
set_option maxRecDepth 100000 in
set_option maxHeartbeats 8000000 in
theorem refOrder_any (oa : Option Addr) (cap : Nat) (nodes : List Int) (work salt : Int) (h0 : 0 ≤ salt) (h1 : salt < 18446744073709551616) (w : World) (h : SlAt icells w (.slice oa nodes.length cap) nodes) (hl : nodes.length ≤ 1000000) :
    Calls Tryz.prog 47 #[.slice oa nodes.length cap, .int .i64 work, .int .u64 salt] w (OrderPost nodes work salt w) := by
  have HE := Lib.hid h
  have hwt := fun n W => refWeight_any n work salt h0 h1 W
  have HWT := Lib.hid hwt
  clear h hwt
  go_enter Tryz.func47, Tryz.ntmps47
  go_wp2_with fail
  go_loopg [7, 8] 8 (fun gk s7 s8 wr => ∃ (i : Nat) (oq : Option Addr) (cq : Nat) (l : List Int), s8 = .int .i64 i ∧ s7 = .slice oq l.length cq ∧ i ≤ 8 ∧ 8 - i ≤ gk ∧ l.length ≤ i ∧ Hid (Ints w.heap.size wr (.slice oq l.length cq) l) ∧ Hid (stableOf (heavier fun n => weightI n work salt) (thereTo nodes i) l) ∧ Hid (Below w.heap.size w wr))
  case atStart => exact ⟨0, none, 0, [], rfl, rfl, Nat.zero_le _, Nat.le_refl _, Nat.le_refl _, Owns.nil _ _ _ _ _, ⟨List.Pairwise.nil, StabL.refl _ _⟩, Below.refl _ _⟩
  case round =>
    obtain ⟨i, oq, cq, l, rfl, rfl, hi, hg, hli, HO, HQ, HB⟩ := hrel
    by_cases hlt : i < 8
    · have hltz : (i : Int) < 8 := by omega
      have htk := thereTo_succ nodes i
      have HTK := Lib.hid htk
      clear htk
      generalize wr = w1 at *
      go_wp2_with fail
      go_loopg [9, 21] nodes.length (fun gk2 s9 s21 wr => ∃ (j : Nat) (is : Bool), s21 = .int .i64 j ∧ s9 = .bool is ∧ j ≤ nodes.length ∧ nodes.length - j ≤ gk2 ∧ wr = w1 ∧ Hid (is = decide ((i : Int) ∈ nodes.take j)))
      case atStart => exact ⟨0, false, rfl, rfl, Nat.zero_le _, Nat.le_refl _, rfl, by show _ = _; simp⟩
      case round =>
        obtain ⟨j, is, rfl, rfl, hj, hg4, rfl, HIS⟩ := hrel
        by_cases hlj : j < nodes.length
        · have hljz : (j : Int) < (nodes.length : Int) := by omega
          have hsl := HE.out.below icells_len (by decide) HB.out (Nat.le_refl _)
          obtain ⟨b2, off2, rfl⟩ := hsl.plain icells_len (by decide) (by intro e; rw [e] at hlj; exact absurd hlj (by simp))
          have d0 : wr.cell? ⟨b2, off2 + j, none⟩ = some (.int .i64 (nodes[j]'hlj)) := by
            have := hsl.cell icells_len (i := j) (c := 0) hlj (by decide)
            simpa [icells] using this
          have HNX := Lib.hid (mem_take_succ nodes j i hlj is HIS.out)
          clear hsl
          generalize nodes[j]'hlj = y at *
          cases is with
          | true =>
            have hn : true = decide ((i : Int) ∈ nodes.take (j + 1)) := by rw [← HNX.out]; rfl
            have HN := Lib.hid hn
            clear hn
            go_wp2_with fail
            go_roundg (nodes.length - (j + 1))
            case measure => omega
            case rel => exact ⟨j + 1, true, by go_num, rfl, by omega, Nat.le_refl _, rfl, HN⟩
          | false =>
            have hn : (y == (i : Int)) = decide ((i : Int) ∈ nodes.take (j + 1)) := by rw [← HNX.out]; rfl
            generalize hyx : (y == (i : Int)) = yx at *
            have HN := Lib.hid hn
            clear hn
            go_wp2_with fail
            go_roundg (nodes.length - (j + 1))
            case measure => omega
            case rel => exact ⟨j + 1, yx, by go_num, rfl, by omega, Nat.le_refl _, rfl, HN⟩
        · have hljz : ¬ (j : Int) < (nodes.length : Int) := by omega
          obtain rfl : j = nodes.length := by omega
          have his := HIS.out
          rw [List.take_length] at his
          cases is with
          | false =>
            have hni : ¬ (i : Int) ∈ nodes := of_decide_eq_false his.symm
            have hq2 : stableOf (heavier fun n => weightI n work salt) (thereTo nodes (i + 1)) l := by rw [HTK.out, if_neg hni, List.append_nil]; exact HQ.out
            have HQ2 := Lib.hid hq2
            clear his hni hq2
            go_wp2_with fail
            go_roundg (8 - (i + 1))
            case measure => omega
            case rel => exact ⟨i + 1, oq, cq, l, by go_num, rfl, by omega, Nat.le_refl _, by omega, HO, HQ2, HB⟩
          | true =>
            have hin : (i : Int) ∈ nodes := of_decide_eq_true his.symm
            have HIN := Lib.hid hin
            clear his hin
            go_wp2_with fail
            refine (HWT.out i _).mono ?_
            rintro e w2 ⟨rfl, hb2⟩
            have HO2 := Lib.hid (HO.out.below hb2 (Nat.le_refl _))
            have HB2 := Lib.hid (HB.out.trans (hb2.mono HB.out.size))
            clear hb2 HO HB
            go_wp2_with fail
            go_loopg [13] l.length (fun gk3 s13 wr => ∃ (n : Nat), s13 = .int .i64 n ∧ n ≤ l.length ∧ n ≤ gk3 ∧ Hid (Below w2.heap.size w2 wr) ∧ Hid (∀ y ∈ l.drop n, heavier (fun n => weightI n work salt) i y = true))
            case atStart => exact ⟨l.length, rfl, Nat.le_refl _, Nat.le_refl _, Below.refl _ _, by show ∀ y ∈ _, _; simp⟩
            case round =>
              obtain ⟨n, rfl, hn, hg5, HBW, HD⟩ := hrel
              by_cases hn0 : n = 0
              · have hpre : ∀ y, 0 < n → l[n - 1]? = some y → ¬ weightI y work salt < weightI i work salt := fun y h0 => by omega
                have HN := Lib.hid hpre
                have HN0 := Lib.hid hn0
                have hz : ¬ (0 : Int) < (n : Int) := by omega
                have HBC := HBW
                clear hpre hn0 HBW
                generalize wr = wc at *
                have hst : stableOf (heavier fun n => weightI n work salt) (thereTo nodes (i + 1)) (l.take n ++ [(i : Int)] ++ l.drop n) := by
                  rw [HTK.out, if_pos HIN.out]
                  exact stable_insert' (swo_heavier _) _ n HQ.out HD.out (heavy_prefix HQ.out.1 hn HN.out)
                have HST := Lib.hid hst
                have hcq : n ≤ cq := by
                  obtain ⟨_, _, hv, hc⟩ := HO2.out.at.slice_of
                  simp only [Value.slice.injEq] at hv
                  omega
                have HO3 := Lib.hid (HO2.out.below HBC.out (Nat.le_refl _))
                have HB3 := Lib.hid (HB2.out.trans (HBC.out.mono HB2.out.size))
                clear hst HD HN HQ HTK HIN HIS HBC HO2 HB2
                go_wp2_with (at_builtin; go_loud (refine wpList_appD icells 1 icells_len (by decide) icells_one _ rfl _ _ 37 rfl wc.heap.size 3 _ 8 Tryz.underlying37 infoInt rfl _ [] rfl ?h1 _ (l.take n) rfl ?h2 ?h3 ?h4 ?h5 ?_))
                case h1 => exact owns_made_int _ _ rfl
                case h2 =>
                  have hs2 := (HO3.out.take icells_len n hn).at.below (B := wc.heap.size) icells_len (by decide) ((Below.refl wc.heap.size wc).alloc (Nat.le_refl _) (.cells #[] 3)) (Nat.le_refl _)
                  first | exact hs2 | (simp [Act.eval]; exact hs2)
                case h3 => (try simp only [List.length_nil, List.length_take]); omega
                case h4 => (try simp only [List.length_nil, List.length_take]); omega
                try (case h5 => simp)
                intro v' w' hown hg2 hv2 hd2
                have hb2 : Below wc.heap.size wc w' := ((Below.refl _ _).alloc (Nat.le_refl _) _).grown hg2 (by simp) (fun k hk => by simp [Value.ownBlock] at hk; omega)
                have hln : (l.take n).length = n := by rw [List.length_take]; omega
                obtain ⟨on, cn, rfl⟩ := slAt_slice hown.at
                rw [hln] at hown ⊢
                have HOWN := Lib.hid hown
                have HB2 := Lib.hid hb2
                clear hown hg2 hv2 hd2 hb2
                go_wp2_with fail
                have hzw := HB2.out.size
                have HOWND := Lib.hid (HOWN.out.below (below_drew (Below.refl w'.heap.size w')) (Nat.le_refl _))
                go_region_law (first
                  | (refine step_appD icells 1 icells_len (by decide) icells_one _ rfl _ _ 37 rfl wc.heap.size 3 _ 8 Tryz.underlying37 infoInt rfl (.slice on n cn) (l.take n) rfl (HOWND.out.below ((Below.refl _ _).alloc (Nat.le_refl _) _) (Nat.le_refl _)) _ [(i : Int)] rfl (slAt_new (enc := icells) w'.drew (icells i).toArray 3 1 1 (0, 0) [(i : Int)] rfl rfl (by decide)) (by simp only [List.length_take, List.length_cons, List.length_nil]; omega) (by simp only [List.length_take, List.length_cons, List.length_nil]; omega) (by simp; omega) ?_
                     intro v4 w4 h4 hg4 hv4 hd4)
                  | (refine step_appD icells 1 icells_len (by decide) icells_one _ rfl _ _ 37 rfl wc.heap.size 3 _ 8 Tryz.underlying37 infoInt rfl v4 (l.take n ++ [(i : Int)]) rfl h4 _ (l.drop n) rfl (by
                       have b3 : Below wc.heap.size wc w4 := ((HB2.out.trans ((below_drew (Below.refl w'.heap.size w')).mono hzw)).alloc (by simp; omega) _).grown hg4 (by simp; omega) fun k hk => (HOWN.out.lt k hk).1
                       have hs := (HO3.out.at.sub icells_len (by decide) n l.length hn (Nat.le_refl _)).below icells_len (by decide) b3 (Nat.le_refl _)
                       rw [List.take_length] at hs
                       simp [Act.eval]
                       simpa [sliced, Addr.add_lit] using hs) (by simp only [List.length_append, List.length_drop, List.length_take, List.length_cons, List.length_nil]; omega) (by simp only [List.length_append, List.length_drop, List.length_take, List.length_cons, List.length_nil]; omega) (by have := hg4.size; simp at this; omega) ?_
                     intro v5 w5 h5 hg5 hv5 hd5))
                have hbb : Below wc.heap.size wc w5 := by
                  have b3 : Below wc.heap.size wc w4 := ((HB2.out.trans ((below_drew (Below.refl w'.heap.size w')).mono hzw)).alloc (by simp; omega) _).grown hg4 (by simp; omega) fun k hk => (HOWN.out.lt k hk).1
                  exact b3.grown hg5 b3.size fun k hk => (h4.lt k hk).1
                obtain ⟨o5, c5, rfl⟩ := slAt_slice h5.at
                have HOW := Lib.hid (h5.lower HB3.out.size)
                have HBN := Lib.hid (HB3.out.trans (hbb.mono HB3.out.size))
                have hl5 : (l.take n ++ [(i : Int)] ++ l.drop n).length = l.length + 1 := by simp only [List.length_append, List.length_drop, List.length_take, List.length_cons, List.length_nil]; omega
                clear hbb h4 hg4 hv4 hd4 h5 hg5 hv5 hd5
                generalize l.take n ++ [(i : Int)] ++ l.drop n = l' at *
                go_wp2_with fail
                all_goals
                  go_roundg (8 - (i + 1))
                  case measure => omega
                  case rel => exact ⟨i + 1, o5, c5, l', by go_num, by rw [hl5], by omega, Nat.le_refl _, by omega, HOW, HST, HBN⟩
              · obtain ⟨k, hnk⟩ : ∃ k, n = k + 1 := ⟨n - 1, by omega⟩
                have hkl : k < l.length := by omega
                have hkz : (k : Int) < (l.length : Int) := by omega
                have hk1 : (0 : Int) < (n : Int) := by omega
                have hnk1 : (n : Int) - 1 = (k : Int) := by omega
                have hwk : IntKind.i64.wrap (k : Int) = (k : Int) := IntWalk.i64_in _ (by omega)
                have hsl := HO2.out.at.below icells_len (by decide) HBW.out (Nat.le_refl _)
                obtain ⟨b2, off2, rfl⟩ := hsl.plain icells_len (by decide) (by intro e; rw [e] at hkl; exact absurd hkl (by simp))
                have d0 : wr.cell? ⟨b2, off2 + k, none⟩ = some (.int .i64 (l[k]'hkl)) := by
                  have := hsl.cell icells_len (i := k) (c := 0) hkl (by decide)
                  simpa [icells] using this
                clear hsl
                obtain ⟨y, hy⟩ : ∃ y, y = l[k]'hkl := ⟨_, rfl⟩
                rw [← hy] at d0
                have HY := Lib.hid hy
                have HNK := Lib.hid hnk
                clear hy hn0 hnk
                go_wp2_with fail
                refine (HWT.out y _).mono ?_
                rintro e w3 ⟨rfl, hb3⟩
                have HB3 := Lib.hid (HBW.out.trans (hb3.mono HBW.out.size))
                clear hb3 HBW d0
                by_cases hlw : weightI y work salt < weightI i work salt
                · have hd2 := heavy_drop (wt := fun n => weightI n work salt) (x := (i : Int)) hkl (by show weightI _ _ _ < weightI _ _ _; rw [← HY.out]; exact hlw) (by rw [← HNK.out]; exact HD.out)
                  have HD2 := Lib.hid hd2
                  clear hd2
                  go_wp2_with fail
                  go_roundg k
                  case measure => have := HNK.out; omega
                  case rel => exact ⟨k, by first | rfl | (congr 1; omega), by omega, Nat.le_refl _, HB3, HD2⟩
                · have hpre : ∀ z, 0 < n → l[n - 1]? = some z → ¬ weightI z work salt < weightI i work salt := fun z _ hz => by
                    rw [HNK.out, show k + 1 - 1 = k by omega, List.getElem?_eq_getElem hkl, ← HY.out] at hz
                    rw [← Option.some.inj hz]
                    exact hlw
                  have HN := Lib.hid hpre
                  have HBC := HB3
                  clear hpre HB3
                  generalize w3 = wc at *
                  have hst : stableOf (heavier fun n => weightI n work salt) (thereTo nodes (i + 1)) (l.take n ++ [(i : Int)] ++ l.drop n) := by
                    rw [HTK.out, if_pos HIN.out]
                    exact stable_insert' (swo_heavier _) _ n HQ.out HD.out (heavy_prefix HQ.out.1 hn HN.out)
                  have HST := Lib.hid hst
                  have hcq : n ≤ cq := by
                    obtain ⟨_, _, hv, hc⟩ := HO2.out.at.slice_of
                    simp only [Value.slice.injEq] at hv
                    omega
                  have HO3 := Lib.hid (HO2.out.below HBC.out (Nat.le_refl _))
                  have HB3 := Lib.hid (HB2.out.trans (HBC.out.mono HB2.out.size))
                  clear hst HD HN HQ HTK HIN HIS HBC HO2 HB2
                  go_wp2_with (at_builtin; go_loud (refine wpList_appD icells 1 icells_len (by decide) icells_one _ rfl _ _ 37 rfl wc.heap.size 3 _ 8 Tryz.underlying37 infoInt rfl _ [] rfl ?k1 _ (l.take n) rfl ?k2 ?k3 ?k4 ?k5 ?_))
                  case k1 => exact owns_made_int _ _ rfl
                  case k2 =>
                    have hs2 := (HO3.out.take icells_len n hn).at.below (B := wc.heap.size) icells_len (by decide) ((Below.refl wc.heap.size wc).alloc (Nat.le_refl _) (.cells #[] 3)) (Nat.le_refl _)
                    first | exact hs2 | (simp [Act.eval]; exact hs2)
                  case k3 => (try simp only [List.length_nil, List.length_take]); omega
                  case k4 => (try simp only [List.length_nil, List.length_take]); omega
                  try (case k5 => simp)
                  intro v' w' hown hg2 hv2 hd2
                  have hb2 : Below wc.heap.size wc w' := ((Below.refl _ _).alloc (Nat.le_refl _) _).grown hg2 (by simp) (fun k hk => by simp [Value.ownBlock] at hk; omega)
                  have hln : (l.take n).length = n := by rw [List.length_take]; omega
                  obtain ⟨on, cn, rfl⟩ := slAt_slice hown.at
                  rw [hln] at hown ⊢
                  have HOWN := Lib.hid hown
                  have HB2 := Lib.hid hb2
                  clear hown hg2 hv2 hd2 hb2
                  go_wp2_with fail
                  have hzw := HB2.out.size
                  have HOWND := Lib.hid (HOWN.out.below (below_drew (Below.refl w'.heap.size w')) (Nat.le_refl _))
                  go_region_law (first
                    | (refine step_appD icells 1 icells_len (by decide) icells_one _ rfl _ _ 37 rfl wc.heap.size 3 _ 8 Tryz.underlying37 infoInt rfl (.slice on n cn) (l.take n) rfl (HOWND.out.below ((Below.refl _ _).alloc (Nat.le_refl _) _) (Nat.le_refl _)) _ [(i : Int)] rfl (slAt_new (enc := icells) w'.drew (icells i).toArray 3 1 1 (0, 0) [(i : Int)] rfl rfl (by decide)) (by simp only [List.length_take, List.length_cons, List.length_nil]; omega) (by simp only [List.length_take, List.length_cons, List.length_nil]; omega) (by simp; omega) ?_
                       intro v4 w4 h4 hg4 hv4 hd4)
                    | (refine step_appD icells 1 icells_len (by decide) icells_one _ rfl _ _ 37 rfl wc.heap.size 3 _ 8 Tryz.underlying37 infoInt rfl v4 (l.take n ++ [(i : Int)]) rfl h4 _ (l.drop n) rfl (by
                         have b3 : Below wc.heap.size wc w4 := ((HB2.out.trans ((below_drew (Below.refl w'.heap.size w')).mono hzw)).alloc (by simp; omega) _).grown hg4 (by simp; omega) fun k hk => (HOWN.out.lt k hk).1
                         have hs := (HO3.out.at.sub icells_len (by decide) n l.length hn (Nat.le_refl _)).below icells_len (by decide) b3 (Nat.le_refl _)
                         rw [List.take_length] at hs
                         simp [Act.eval]
                         simpa [sliced, Addr.add_lit] using hs) (by simp only [List.length_append, List.length_drop, List.length_take, List.length_cons, List.length_nil]; omega) (by simp only [List.length_append, List.length_drop, List.length_take, List.length_cons, List.length_nil]; omega) (by have := hg4.size; simp at this; omega) ?_
                       intro v5 w5 h5 hg5 hv5 hd5))
                  have hbb : Below wc.heap.size wc w5 := by
                    have b3 : Below wc.heap.size wc w4 := ((HB2.out.trans ((below_drew (Below.refl w'.heap.size w')).mono hzw)).alloc (by simp; omega) _).grown hg4 (by simp; omega) fun k hk => (HOWN.out.lt k hk).1
                    exact b3.grown hg5 b3.size fun k hk => (h4.lt k hk).1
                  obtain ⟨o5, c5, rfl⟩ := slAt_slice h5.at
                  have HOW := Lib.hid (h5.lower HB3.out.size)
                  have HBN := Lib.hid (HB3.out.trans (hbb.mono HB3.out.size))
                  have hl5 : (l.take n ++ [(i : Int)] ++ l.drop n).length = l.length + 1 := by simp only [List.length_append, List.length_drop, List.length_take, List.length_cons, List.length_nil]; omega
                  clear hbb h4 hg4 hv4 hd4 h5 hg5 hv5 hd5
                  generalize l.take n ++ [(i : Int)] ++ l.drop n = l' at *
                  go_wp2_with fail
                  all_goals
                    go_roundg (8 - (i + 1))
                    case measure => omega
                    case rel => exact ⟨i + 1, o5, c5, l', by go_num, by rw [hl5], by omega, Nat.le_refl _, by omega, HOW, HST, HBN⟩
    · have hltz : ¬ (i : Int) < 8 := by omega
      obtain rfl : i = 8 := by omega
      have hst := HQ.out
      rw [thereTo_8] at hst
      have HST : Hid (Ranks (fun n => weightI n work salt) nodes l) := ⟨hst⟩
      clear hst
      go_wp2_with fail
      go_ret
      exact ⟨oq, cq, l, rfl, HST.out, HO.out.at, HB.out⟩
end Go.Proofs.YtjgbflclhkeibaaGreat
namespace Go.Proofs.YtjgbflclhkeibaaGreat
open Go.Shelf Go.RowKit Go.Lib Go.Sort
set_option linter.unusedVariables false
def own : List Int → Int × Int
  | [] => (0, 8)
  | x :: _ => (x, 0)
def OwnerPost (nodes : List Int) (work salt : Int) (w : World) (e : Ending) (w' : World) : Prop :=
  ∃ l, Ranks (fun n => weightI n work salt) nodes l ∧ e = .returned (.tuple #[.int .i64 (own l).1, .int .i64 (own l).2]) ∧ Below w.heap.size w w'
set_option maxHeartbeats 2000000 in
theorem owner_any (oa : Option Addr) (cap : Nat) (nodes : List Int) (work salt : Int) (h0 : 0 ≤ salt) (h1 : salt < 18446744073709551616) (w : World) (h : SlAt icells w (.slice oa nodes.length cap) nodes) (hl : nodes.length ≤ 1000000) :
    Calls Tryz.prog 40 #[.slice oa nodes.length cap, .int .i64 work, .int .u64 salt] w (OwnerPost nodes work salt w) := by
  have ho := order_any oa cap nodes work salt h0 h1 w h hl
  have HO := Lib.hid ho
  clear ho h
  go_enter Tryz.func40, Tryz.ntmps40
  go_wp2_with fail
  refine HO.out.mono ?_
  rintro e w1 ⟨oq, cq, l, rfl, hr, hs, hb⟩
  cases l with
  | nil =>
    have HR := Lib.hid hr
    have HB := Lib.hid hb
    clear hr hs hb HO
    simp only [List.length_nil]
    go_wp2_with fail
    go_ret2
    exact ⟨[], HR.out, rfl, HB.out⟩
  | cons x l =>
    obtain ⟨b, off, rfl⟩ := hs.plain icells_len (by decide) (by simp)
    have c0 : w1.cell? ⟨b, off, none⟩ = some (.int .i64 x) := by
      have := hs.cell icells_len (i := 0) (c := 0) (by simp) (by decide)
      simpa [icells] using this
    have len0 : (((x :: l).length : Int) == 0) = false := by first | (simp; done) | (simp; omega)
    have lenz : (0 : Int) < ((x :: l).length : Int) := by first | (simp; done) | (simp; omega)
    have HR := Lib.hid hr
    have HB := Lib.hid hb
    clear hr hs hb HO
    generalize hlen : (x :: l).length = n at *
    go_wp2_with fail
    go_ret2
    exact ⟨x :: l, HR.out, rfl, HB.out⟩
set_option maxHeartbeats 2000000 in
theorem refOwner_any (oa : Option Addr) (cap : Nat) (nodes : List Int) (work salt : Int) (h0 : 0 ≤ salt) (h1 : salt < 18446744073709551616) (w : World) (h : SlAt icells w (.slice oa nodes.length cap) nodes) (hl : nodes.length ≤ 1000000) :
    Calls Tryz.prog 29 #[.slice oa nodes.length cap, .int .i64 work, .int .u64 salt] w (OwnerPost nodes work salt w) := by
  have ho := refOrder_any oa cap nodes work salt h0 h1 w h hl
  have HO := Lib.hid ho
  clear ho h
  go_enter Tryz.func29, Tryz.ntmps29
  go_wp2_with fail
  refine HO.out.mono ?_
  rintro e w1 ⟨oq, cq, l, rfl, hr, hs, hb⟩
  cases l with
  | nil =>
    have HR := Lib.hid hr
    have HB := Lib.hid hb
    clear hr hs hb HO
    simp only [List.length_nil]
    go_wp2_with fail
    go_ret2
    exact ⟨[], HR.out, rfl, HB.out⟩
  | cons x l =>
    obtain ⟨b, off, rfl⟩ := hs.plain icells_len (by decide) (by simp)
    have c0 : w1.cell? ⟨b, off, none⟩ = some (.int .i64 x) := by
      have := hs.cell icells_len (i := 0) (c := 0) (by simp) (by decide)
      simpa [icells] using this
    have len0 : (((x :: l).length : Int) == 0) = false := by first | (simp; done) | (simp; omega)
    have lenz : (0 : Int) < ((x :: l).length : Int) := by first | (simp; done) | (simp; omega)
    have HR := Lib.hid hr
    have HB := Lib.hid hb
    clear hr hs hb HO
    generalize hlen : (x :: l).length = n at *
    go_wp2_with fail
    go_ret2
    exact ⟨x :: l, HR.out, rfl, HB.out⟩
set_option maxHeartbeats 2000000 in
theorem ints_any (oa ob : Option Addr) (ca cb : Nat) (l : List Int) (w : World) (ha : SlAt icells w (.slice oa l.length ca) l) (hb : SlAt icells w (.slice ob l.length cb) l) (hl : l.length ≤ 1000000) :
    Calls Tryz.prog 14 #[.slice oa l.length ca, .slice ob l.length cb] w fun e w' => e = .returned (.bool true) ∧ ∃ q, w' = w.drewN q := by
  have HA := Lib.hid ha
  have HB := Lib.hid hb
  clear ha hb
  go_enter Tryz.func14, Tryz.ntmps14
  go_wp2_with fail
  go_loopg [5, 13] l.length (fun gk s5 s13 wr => ∃ (i q : Nat), s13 = .int .i64 i ∧ i ≤ l.length ∧ l.length - i ≤ gk ∧ wr = w.drewN q)
  case atStart => exact ⟨0, 0, rfl, Nat.zero_le _, Nat.le_refl _, rfl⟩
  case round =>
    obtain ⟨i, q, rfl, hi, hg, rfl⟩ := hrel
    by_cases hlt : i < l.length
    · have hltz : (i : Int) < (l.length : Int) := by omega
      have hsa := HA.out
      have hsb := HB.out
      obtain ⟨b1, off1, rfl⟩ := hsa.plain icells_len (by decide) (by intro e; rw [e] at hlt; exact absurd hlt (by simp))
      obtain ⟨b2, off2, rfl⟩ := hsb.plain icells_len (by decide) (by intro e; rw [e] at hlt; exact absurd hlt (by simp))
      have c1 : w.cell? ⟨b1, off1 + i, none⟩ = some (.int .i64 (l[i]'hlt)) := by
        have := hsa.cell icells_len (i := i) (c := 0) hlt (by decide)
        simpa [icells] using this
      have c2 : w.cell? ⟨b2, off2 + i, none⟩ = some (.int .i64 (l[i]'hlt)) := by
        have := hsb.cell icells_len (i := i) (c := 0) hlt (by decide)
        simpa [icells] using this
      generalize l[i]'hlt = y at c1 c2
      clear hsa hsb
      go_wp2_with fail
      go_quiet (fail)
      go_wp2_with fail
      go_roundg (l.length - (i + 1))
      case measure => omega
      case rel => exact ⟨i + 1, q + nq, by go_num, by omega, Nat.le_refl _, by first | rfl | exact World.drewN_drewN _ _ _⟩
    · have hltz : ¬ (i : Int) < (l.length : Int) := by omega
      go_wp2_with fail
      go_ret
      exact ⟨rfl, q, rfl⟩
/-- the order, as a function -/
def rk (nodes : List Int) (work salt : Int) : List Int := (Sort.insertionSort (heavier fun n => weightI n work salt) (there nodes).toArray 0 (there nodes).length).toList
theorem rk_ranks (nodes : List Int) (work salt : Int) : Ranks (fun n => weightI n work salt) nodes (rk nodes work salt) := by
  have h := insertion_stable (swo_heavier fun n => weightI n work salt) (there nodes).toArray
  rw [List.size_toArray] at h
  exact ⟨h⟩
theorem ranks_one {wt : Int → Int} {l out : List Int} {x : Int} (h : Ranks wt l out) (ht : there l = [x]) : out = [x] := by
  have := h.perm
  rw [ht] at this
  exact List.perm_singleton.1 this
end Go.Proofs.YtjgbflclhkeibaaGreat
