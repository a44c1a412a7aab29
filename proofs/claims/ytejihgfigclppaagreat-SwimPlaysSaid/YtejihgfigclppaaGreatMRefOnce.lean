/-
  The reference's once: numbers laid in one by one, each once, the least first.
  The reference's Next and Some, walked.
  The reference's order of probes: its Some keeps who waits where they lie; behind its Next they lie in new memory.
-/
import Derived.Test.YtejihgfigclppaaGreatNext
import Derived.Deep.RegionLaw
namespace Go.Proofs.YtejihgfigclppaaGreat
open Go.Shelf Go.RowKit Go.Lib Go.Sort
set_option linter.unusedVariables false
def IsOnce (p l : List Int) : Prop := Rises l ∧ ∀ x, x ∈ l ↔ x ∈ p
theorem IsOnce.skip {p l : List Int} {x : Int} (h : IsOnce p l) (hx : x ∈ l) : IsOnce (p ++ [x]) l := by
  refine ⟨h.1, fun y => ?_⟩
  rw [h.2 y, List.mem_append, List.mem_singleton]
  constructor
  · exact .inl
  · rintro (h1 | rfl)
    · exact h1
    · exact (h.2 y).1 hx
theorem IsOnce.more {p l : List Int} {x : Int} {n : Nat} (h : IsOnce p l) (h1 : ∀ y ∈ l.take n, y < x) (h2 : ∀ y ∈ l.drop n, x < y) : IsOnce (p ++ [x]) (l.take n ++ [x] ++ l.drop n) := by
  refine ⟨rises_insert h.1 h1 h2, fun y => ?_⟩
  rw [mem_insert, h.2 y, List.mem_append, List.mem_singleton, or_comm]
theorem rises_behind {l : List Int} {n : Nat} {x : Int} (h : Rises l) (hx : ∀ y, l[n]? = some y → x < y) : ∀ y ∈ l.drop n, x < y := by
  intro y hy
  by_cases hn : n < l.length
  · rw [List.drop_eq_getElem_cons hn] at hy
    have h0 := hx _ (List.getElem?_eq_getElem hn)
    rcases List.mem_cons.1 hy with rfl | hy
    · exact h0
    · obtain ⟨j, hj, rfl⟩ := List.mem_iff_getElem.1 hy
      rw [List.getElem_drop]
      have := List.pairwise_iff_getElem.1 h n (n + 1 + j) hn (by simp at hj; omega) (by omega)
      omega
  · rw [List.drop_eq_nil_of_le (by omega)] at hy; cases hy
theorem works_le {l : List Int} {n : Nat} {x : Int} (h : ∀ y ∈ l.take n, y ≤ x) (hn : n < l.length) (hx : l[n]'hn ≤ x) : ∀ y ∈ l.take (n + 1), y ≤ x := by
  intro y hy
  rw [List.take_succ_eq_append_getElem hn] at hy
  rcases List.mem_append.1 hy with hy | hy
  · exact h y hy
  · obtain rfl : y = l[n]'hn := by simpa using hy
    exact hx
theorem works_is {l : List Int} {n : Nat} {x : Int} {is is' : Bool} (h : is = true ↔ x ∈ l.take n) (hn : n < l.length) (e : is' = (is || l[n]'hn == x)) : is' = true ↔ x ∈ l.take (n + 1) := by
  subst e
  rw [List.take_succ_eq_append_getElem hn, List.mem_append, ← h]
  simp only [Bool.or_eq_true, beq_iff_eq, List.mem_singleton]
  constructor
  · rintro (h | h)
    · exact .inl h
    · exact .inr h.symm
  · rintro (h | h)
    · exact .inl h
    · exact .inr h.symm
theorem works_lt {l : List Int} {n : Nat} {x : Int} (h : ∀ y ∈ l.take n, y ≤ x) (hi : false = true ↔ x ∈ l.take n) : ∀ y ∈ l.take n, y < x := by
  intro y hy
  have h1 := h y hy
  have h2 : y ≠ x := fun e => by subst e; exact absurd (hi.2 hy) (by simp)
  omega
theorem owns_made_int {e : Nat} (W : World) (n : Nat) (hn : W.heap.size = n) : Owns icells 1 n e (W.alloc (.cells #[] e)) (.slice (some ⟨n, 0, none⟩) 0 0) [] := by
  subst hn
  exact World.ownsRow_made W #[] 0 (Nat.le_refl _) (by decide) rfl
set_option maxRecDepth 100000 in
set_option maxHeartbeats 8000000 in
theorem refOnce_any (oa : Option Addr) (cap : Nat) (ps : List Int) (w : World) (h : SlAt icells w (.slice oa ps.length cap) ps) (hl : ps.length ≤ 1000000) :
    Calls Tryz.prog 98 #[.slice oa ps.length cap] w fun e w' => ∃ v', e = .returned v' ∧ Ints w.heap.size w' v' (onceL ps) ∧ Below w.heap.size w w' := by
  have HE := Lib.hid h
  clear h
  go_enter Tryz.func98, Tryz.ntmps98
  go_wp2_with fail
  go_loopg [3, 11] ps.length (fun gk s3 s11 wr => ∃ (i : Nat) (oq : Option Addr) (cq : Nat) (l : List Int), s11 = .int .i64 i ∧ s3 = .slice oq l.length cq ∧ i ≤ ps.length ∧ ps.length - i ≤ gk ∧ l.length ≤ i ∧ Hid (Ints w.heap.size wr (.slice oq l.length cq) l) ∧ Hid (IsOnce (ps.take i) l) ∧ Hid (Below w.heap.size w wr))
  case atStart => exact ⟨0, none, 0, [], rfl, rfl, Nat.zero_le _, Nat.le_refl _, Nat.le_refl _, Owns.nil _ _ _ _ _, by show IsOnce _ _; exact ⟨List.Pairwise.nil, fun x => by simp⟩, Below.refl _ _⟩
  case round =>
    obtain ⟨i, oq, cq, l, rfl, rfl, hi, hg, hli, HO, HQ, HB⟩ := hrel
    by_cases hlt : i < ps.length
    · have hltz : (i : Int) < (ps.length : Int) := by omega
      have hsl := HE.out.below icells_len (by decide) HB.out (Nat.le_refl _)
      obtain ⟨b, off, rfl⟩ := hsl.plain icells_len (by decide) (by intro e; rw [e] at hlt; exact absurd hlt (by simp))
      obtain ⟨x, hx⟩ : ∃ x, x = ps[i]'hlt := ⟨_, rfl⟩
      have d0 : wr.cell? ⟨b, off + i, none⟩ = some (.int .i64 x) := by
        have := hsl.cell icells_len (i := i) (c := 0) hlt (by decide)
        simpa [icells, hx] using this
      have htk : ps.take (i + 1) = ps.take i ++ [x] := by
        rw [List.take_succ_eq_append_getElem hlt, hx]
      have HTK := Lib.hid htk
      clear hsl htk hx
      go_wp2_with fail
      generalize hwb : wr = wb at *
      go_loopg [6, 7] l.length (fun gk2 s6 s7 wr => ∃ (at' : Nat) (is : Bool), s6 = .int .i64 at' ∧ s7 = .bool is ∧ at' ≤ l.length ∧ l.length - at' ≤ gk2 ∧ wb = wr ∧ Hid (∀ y ∈ l.take at', y ≤ x) ∧ Hid (is = true ↔ x ∈ l.take at'))
      case atStart => exact ⟨0, false, rfl, rfl, Nat.zero_le _, Nat.le_refl _, rfl, by show ∀ y ∈ l.take 0, _; simp, by show _ ↔ _; simp⟩
      case round =>
        obtain ⟨at', is, rfl, rfl, ha, hag, rfl, HD, HI⟩ := hrel
        have hcs : (∃ hal : at' < l.length, l[at']'hal ≤ x) ∨ (∃ hal : at' < l.length, ¬ l[at']'hal ≤ x) ∨ ¬ at' < l.length := by
          by_cases h : at' < l.length
          · by_cases h2 : l[at']'h ≤ x
            · exact .inl ⟨h, h2⟩
            · exact .inr (.inl ⟨h, h2⟩)
          · exact .inr (.inr h)
        rcases hcs with ⟨hal, hle⟩ | ⟨hal, hle⟩ | hal
        · have halz : (at' : Int) < (l.length : Int) := by omega
          have hsl2 := HO.out.at
          obtain ⟨b2, off2, rfl⟩ := hsl2.plain icells_len (by decide) (by intro e; rw [e] at hal; exact absurd hal (by simp))
          obtain ⟨y, hy⟩ : ∃ y, y = l[at']'hal := ⟨_, rfl⟩
          have d2 : wb.cell? ⟨b2, off2 + at', none⟩ = some (.int .i64 y) := by
            have := hsl2.cell icells_len (i := at') (c := 0) hal (by decide)
            simpa [icells, hy] using this
          have HY := Lib.hid hy
          rw [← hy] at hle
          clear hsl2 hy
          have HLE := Lib.hid (works_le HD.out hal (by rw [← HY.out]; exact hle))
          have HIS := Lib.hid (fun is' => works_is (is' := is') HI.out hal)
          cases is with
          | true =>
            go_wp2_with fail
            go_roundg (l.length - (at' + 1))
            case measure => omega
            case rel => exact ⟨at' + 1, true, by go_num, rfl, by omega, Nat.le_refl _, rfl, HLE, HIS.out true (by simp)⟩
          | false =>
            by_cases hyw : y = x
            · have hyb : (y == x) = true := by simpa using hyw
              have HYW := Lib.hid hyw
              clear hyw
              go_wp2_with fail
              go_roundg (l.length - (at' + 1))
              case measure => omega
              case rel => exact ⟨at' + 1, true, by go_num, rfl, by omega, Nat.le_refl _, rfl, HLE, HIS.out true (by rw [← HY.out, HYW.out]; simp)⟩
            · have hyb : (y == x) = false := by simpa using hyw
              have HYW := Lib.hid hyb
              clear hyw
              go_wp2_with fail
              go_roundg (l.length - (at' + 1))
              case measure => omega
              case rel => exact ⟨at' + 1, false, by go_num, rfl, by omega, Nat.le_refl _, rfl, HLE, HIS.out false (by rw [← HY.out, HYW.out]; rfl)⟩
        · have halz : (at' : Int) < (l.length : Int) := by omega
          have hsl2 := HO.out.at
          obtain ⟨b2, off2, rfl⟩ := hsl2.plain icells_len (by decide) (by intro e; rw [e] at hal; exact absurd hal (by simp))
          obtain ⟨y, hy⟩ : ∃ y, y = l[at']'hal := ⟨_, rfl⟩
          have d2 : wb.cell? ⟨b2, off2 + at', none⟩ = some (.int .i64 y) := by
            have := hsl2.cell icells_len (i := at') (c := 0) hal (by decide)
            simpa [icells, hy] using this
          have HY := Lib.hid hy
          rw [← hy] at hle
          clear hsl2 hy
          have HL := Lib.hid (show ∀ z, l[at']? = some z → x < z from fun z hz => by rw [List.getElem?_eq_getElem hal, ← HY.out] at hz; have := Option.some.inj hz; omega)
          have hleb : decide (y ≤ x) = false := decide_eq_false hle
          cases is with
          | true =>
            have hskip : IsOnce (ps.take (i + 1)) l := by
              rw [HTK.out]
              exact HQ.out.skip (List.mem_of_mem_take (HI.out.1 rfl))
            have HSK := Lib.hid hskip
            clear hskip
            go_wp2_with fail
            go_roundg (ps.length - (i + 1))
            case measure => omega
            case rel => exact ⟨i + 1, some ⟨b2, off2, none⟩, cq, l, by go_num, rfl, by omega, Nat.le_refl _, by omega, HO.out, HSK, HB.out⟩
          | false =>
            have hmore : IsOnce (ps.take (i + 1)) (l.take at' ++ [x] ++ l.drop at') := by
              rw [HTK.out]
              exact HQ.out.more (works_lt HD.out HI.out) (rises_behind HQ.out.1 HL.out)
            have HMORE := Lib.hid hmore
            clear hmore
            have hcq : at' ≤ cq := by
              obtain ⟨_, _, hv, hc⟩ := HO.out.at.slice_of
              simp only [Value.slice.injEq] at hv
              omega
            clear d0
            go_wp2_with (at_builtin; go_loud (refine wpList_app icells 1 icells_len (by decide) icells_one _ rfl _ _ 50 rfl wb.heap.size 3 _ 8 Tryz.underlying50 infoInt rfl _ [] rfl ?hb1 _ (l.take at') rfl ?hb2 ?hb3 ?hb4 ?hb5 ?_))
            case hb1 => exact owns_made_int _ _ rfl
            case hb2 =>
              have hs2 := (HO.out.take icells_len at' ha).at.below (B := wb.heap.size) icells_len (by decide) ((Below.refl wb.heap.size wb).alloc (Nat.le_refl _) (.cells #[] 3)) (Nat.le_refl _)
              first | exact hs2 | (simp [Act.eval]; exact hs2)
            case hb3 => omega
            case hb4 => omega
            intro v' w' hown hg2 hv2
            have hb2 : Below wb.heap.size wb w' := ((Below.refl wb.heap.size wb).alloc (Nat.le_refl _) _).grown hg2 (by simp) (fun k hk => by simp [Value.ownBlock] at hk; omega)
            have hln : (l.take at').length = at' := by rw [List.length_take]; omega
            obtain ⟨on, cn, rfl⟩ := slAt_slice hown.at
            rw [hln] at hown ⊢
            have HOWN := Lib.hid hown
            have HB2 := Lib.hid hb2
            clear hown hg2 hv2 hb2
            go_wp2_with fail
            have hzw := HB2.out.size
            have HOWND := Lib.hid (HOWN.out.below (below_drew (Below.refl w'.heap.size w')) (Nat.le_refl _))
            go_region_law (first
              | (refine step_appD icells 1 icells_len (by decide) icells_one _ rfl _ _ 50 rfl wb.heap.size 3 _ 8 Tryz.underlying50 infoInt rfl (.slice on at' cn) (l.take at') rfl (HOWND.out.below ((Below.refl _ _).alloc (Nat.le_refl _) _) (Nat.le_refl _)) _ [x] rfl (slAt_new (enc := icells) w'.drew (icells x).toArray 3 1 1 (0, 0) [x] rfl rfl (by decide)) (by simp only [List.length_take, List.length_cons, List.length_nil]; omega) (by simp only [List.length_take, List.length_cons, List.length_nil]; omega) (by simp; omega) ?_
                 intro v4 w4 h4 hg4 hv4 hd4)
              | (refine step_appD icells 1 icells_len (by decide) icells_one _ rfl _ _ 50 rfl wb.heap.size 3 _ 8 Tryz.underlying50 infoInt rfl v4 (l.take at' ++ [x]) rfl h4 _ (l.drop at') rfl (by
                   have b3 : Below wb.heap.size wb w4 := ((HB2.out.trans ((below_drew (Below.refl w'.heap.size w')).mono hzw)).alloc (by simp; omega) _).grown hg4 (by simp; omega) fun k hk => (HOWN.out.lt k hk).1
                   have hs := (HO.out.at.sub icells_len (by decide) at' l.length ha (Nat.le_refl _)).below icells_len (by decide) b3 (Nat.le_refl _)
                   rw [List.take_length] at hs
                   simp [Act.eval]
                   first | (simpa [sliced] using hs) | (simpa [sliced, Addr.add_lit] using hs)) (by simp only [List.length_append, List.length_drop, List.length_take, List.length_cons, List.length_nil]; omega) (by simp only [List.length_append, List.length_drop, List.length_take, List.length_cons, List.length_nil]; omega) (by have := hg4.size; simp at this; omega) ?_
                 intro v5 w5 h5 hg5 hv5 hd5))
            have hbb : Below wb.heap.size wb w5 := by
              have b3 : Below wb.heap.size wb w4 := ((HB2.out.trans ((below_drew (Below.refl w'.heap.size w')).mono hzw)).alloc (by simp; omega) _).grown hg4 (by simp; omega) fun k hk => (HOWN.out.lt k hk).1
              exact b3.grown hg5 b3.size fun k hk => (h4.lt k hk).1
            obtain ⟨o5, c5, rfl⟩ := slAt_slice h5.at
            have HOW := Lib.hid (h5.lower HB.out.size)
            have HBN := Lib.hid (HB.out.trans (hbb.mono HB.out.size))
            have hl5 : (l.take at' ++ [x] ++ l.drop at').length = l.length + 1 := by simp only [List.length_append, List.length_drop, List.length_take, List.length_cons, List.length_nil]; omega
            clear hbb h4 hg4 hv4 h5 hg5 hv5 hd4 hd5
            generalize l.take at' ++ [x] ++ l.drop at' = l' at *
            go_wp2_with fail
            all_goals
              go_roundg (ps.length - (i + 1))
              case measure => omega
              case rel => exact ⟨i + 1, o5, c5, l', by go_num, by rw [hl5], by omega, Nat.le_refl _, by omega, HOW, HMORE, HBN⟩
        · have halz : ¬ (at' : Int) < (l.length : Int) := by omega
          have HL := Lib.hid (show ∀ z, l[at']? = some z → x < z from fun z hz => by rw [List.getElem?_eq_none (by omega)] at hz; cases hz)
          cases is with
          | true =>
            have hskip : IsOnce (ps.take (i + 1)) l := by
              rw [HTK.out]
              exact HQ.out.skip (List.mem_of_mem_take (HI.out.1 rfl))
            have HSK := Lib.hid hskip
            clear hskip
            go_wp2_with fail
            go_roundg (ps.length - (i + 1))
            case measure => omega
            case rel => exact ⟨i + 1, oq, cq, l, by go_num, rfl, by omega, Nat.le_refl _, by omega, HO.out, HSK, HB.out⟩
          | false =>
            have hmore : IsOnce (ps.take (i + 1)) (l.take at' ++ [x] ++ l.drop at') := by
              rw [HTK.out]
              exact HQ.out.more (works_lt HD.out HI.out) (rises_behind HQ.out.1 HL.out)
            have HMORE := Lib.hid hmore
            clear hmore
            have hcq : at' ≤ cq := by
              obtain ⟨_, _, hv, hc⟩ := HO.out.at.slice_of
              simp only [Value.slice.injEq] at hv
              omega
            clear d0
            go_wp2_with (at_builtin; go_loud (refine wpList_app icells 1 icells_len (by decide) icells_one _ rfl _ _ 50 rfl wb.heap.size 3 _ 8 Tryz.underlying50 infoInt rfl _ [] rfl ?ha1 _ (l.take at') rfl ?ha2 ?ha3 ?ha4 ?ha5 ?_))
            case ha1 => exact owns_made_int _ _ rfl
            case ha2 =>
              have hs2 := (HO.out.take icells_len at' ha).at.below (B := wb.heap.size) icells_len (by decide) ((Below.refl wb.heap.size wb).alloc (Nat.le_refl _) (.cells #[] 3)) (Nat.le_refl _)
              first | exact hs2 | (simp [Act.eval]; exact hs2)
            case ha3 => omega
            case ha4 => omega
            intro v' w' hown hg2 hv2
            have hb2 : Below wb.heap.size wb w' := ((Below.refl wb.heap.size wb).alloc (Nat.le_refl _) _).grown hg2 (by simp) (fun k hk => by simp [Value.ownBlock] at hk; omega)
            have hln : (l.take at').length = at' := by rw [List.length_take]; omega
            obtain ⟨on, cn, rfl⟩ := slAt_slice hown.at
            rw [hln] at hown ⊢
            have HOWN := Lib.hid hown
            have HB2 := Lib.hid hb2
            clear hown hg2 hv2 hb2
            go_wp2_with fail
            have hzw := HB2.out.size
            have HOWND := Lib.hid (HOWN.out.below (below_drew (Below.refl w'.heap.size w')) (Nat.le_refl _))
            go_region_law (first
              | (refine step_appD icells 1 icells_len (by decide) icells_one _ rfl _ _ 50 rfl wb.heap.size 3 _ 8 Tryz.underlying50 infoInt rfl (.slice on at' cn) (l.take at') rfl (HOWND.out.below ((Below.refl _ _).alloc (Nat.le_refl _) _) (Nat.le_refl _)) _ [x] rfl (slAt_new (enc := icells) w'.drew (icells x).toArray 3 1 1 (0, 0) [x] rfl rfl (by decide)) (by simp only [List.length_take, List.length_cons, List.length_nil]; omega) (by simp only [List.length_take, List.length_cons, List.length_nil]; omega) (by simp; omega) ?_
                 intro v4 w4 h4 hg4 hv4 hd4)
              | (refine step_appD icells 1 icells_len (by decide) icells_one _ rfl _ _ 50 rfl wb.heap.size 3 _ 8 Tryz.underlying50 infoInt rfl v4 (l.take at' ++ [x]) rfl h4 _ (l.drop at') rfl (by
                   have b3 : Below wb.heap.size wb w4 := ((HB2.out.trans ((below_drew (Below.refl w'.heap.size w')).mono hzw)).alloc (by simp; omega) _).grown hg4 (by simp; omega) fun k hk => (HOWN.out.lt k hk).1
                   have hs := (HO.out.at.sub icells_len (by decide) at' l.length ha (Nat.le_refl _)).below icells_len (by decide) b3 (Nat.le_refl _)
                   rw [List.take_length] at hs
                   simp [Act.eval]
                   first | (simpa [sliced] using hs) | (simpa [sliced, Addr.add_lit] using hs)) (by simp only [List.length_append, List.length_drop, List.length_take, List.length_cons, List.length_nil]; omega) (by simp only [List.length_append, List.length_drop, List.length_take, List.length_cons, List.length_nil]; omega) (by have := hg4.size; simp at this; omega) ?_
                 intro v5 w5 h5 hg5 hv5 hd5))
            have hbb : Below wb.heap.size wb w5 := by
              have b3 : Below wb.heap.size wb w4 := ((HB2.out.trans ((below_drew (Below.refl w'.heap.size w')).mono hzw)).alloc (by simp; omega) _).grown hg4 (by simp; omega) fun k hk => (HOWN.out.lt k hk).1
              exact b3.grown hg5 b3.size fun k hk => (h4.lt k hk).1
            obtain ⟨o5, c5, rfl⟩ := slAt_slice h5.at
            have HOW := Lib.hid (h5.lower HB.out.size)
            have HBN := Lib.hid (HB.out.trans (hbb.mono HB.out.size))
            have hl5 : (l.take at' ++ [x] ++ l.drop at').length = l.length + 1 := by simp only [List.length_append, List.length_drop, List.length_take, List.length_cons, List.length_nil]; omega
            clear hbb h4 hg4 hv4 h5 hg5 hv5 hd4 hd5
            generalize l.take at' ++ [x] ++ l.drop at' = l' at *
            go_wp2_with fail
            all_goals
              go_roundg (ps.length - (i + 1))
              case measure => omega
              case rel => exact ⟨i + 1, o5, c5, l', by go_num, by rw [hl5], by omega, Nat.le_refl _, by omega, HOW, HMORE, HBN⟩
    · have hltz : ¬ (i : Int) < (ps.length : Int) := by omega
      obtain rfl : i = ps.length := by omega
      have hq2 : l = onceL ps := by have := HQ.out; rw [List.take_length] at this; exact onceL_eq this.1 this.2
      have HQ2 := Lib.hid hq2
      clear hq2
      go_wp2_with fail
      go_ret
      exact ⟨_, rfl, by rw [← HQ2.out]; exact HO.out, HB.out⟩
end Go.Proofs.YtejihgfigclppaaGreat
namespace Go.Proofs.YtejihgfigclppaaGreat
open Go.Shelf Go.RowKit Go.Lib Go.Sort
set_option linter.unusedVariables false
theorem Obj.popv {T b B g off c : Nat} {W : World} {s : Int} {l : List Int} {v : Value} (h : Ord2 b W s v T) (hs : SlAt icells W (.slice (some ⟨g, off, none⟩) l.length c) l) (hB : b < B) (hgB : B ≤ g) (h1 : 1 ≤ l.length) :
  Obj T b B (W.setCell ⟨b, 1, none⟩ (sliced (some ⟨g, off, none⟩) 1 l.length c 1)) s l.tail := by
 have hsub := hs.sub icells_len (by decide) 1 l.length h1 (Nat.le_refl _)
 rw [List.take_length, List.drop_one] at hsub
 have hob : (sliced (some ⟨g, off, none⟩) 1 l.length c 1).ownBlock = some g := by unfold sliced; split <;> rfl
 exact ⟨_, h.set1 _, hsub.grown icells_len (by decide) (gb_set W b 1 _) (.inr (by rw [hob]; simp; omega)), hB, fun g' hg' => by rw [hob] at hg'; simp at hg'; omega⟩
def stay (nodes : List Int) (x : Int) : Bool := !goneL nodes x
theorem stay_iff (nodes : List Int) (x : Int) : stay nodes x = true ↔ x ∈ nodes := by simp [stay, goneL]
def hit (nodes : List Int) (j : Nat) (x : Int) : List Int := if x ∈ (onceL nodes).take j then [x] else []
theorem hit_zero (nodes : List Int) (x : Int) : hit nodes 0 x = [] := by simp [hit]
theorem hit_all (nodes : List Int) (x : Int) : hit nodes (onceL nodes).length x = [x].filter (stay nodes) := by
 unfold hit
 rw [List.take_length]
 by_cases h : x ∈ onceL nodes
 ·rw [if_pos h, List.filter_cons, if_pos ((stay_iff nodes x).2 ((onceL_is nodes).2 x |>.1 h))]; rfl
 ·rw [if_neg h, List.filter_cons, if_neg (fun e => h (((onceL_is nodes).2 x).2 ((stay_iff nodes x).1 e)))]; rfl
theorem hit_yes (nodes : List Int) (j : Nat) (x : Int) (hj : j < (onceL nodes).length) (h : (onceL nodes)[j]'hj = x) : hit nodes j x = [] ∧ hit nodes (j + 1) x = [x] := by
 have hn := onceL_nodup nodes
 unfold hit
 constructor
 ·rw [if_neg]
  intro hx
  obtain ⟨i, hi, he⟩ := List.mem_iff_getElem.1 hx
  rw [List.getElem_take] at he
  have hij : i < j := by simp at hi; omega
  have := List.pairwise_iff_getElem.1 hn i j (by omega) hj hij
  exact this (by rw [he, h])
 ·rw [if_pos]
  rw [List.take_succ_eq_append_getElem hj, h]
  simp
theorem hit_no (nodes : List Int) (j : Nat) (x : Int) (hj : j < (onceL nodes).length) (h : (onceL nodes)[j]'hj ≠ x) : hit nodes (j + 1) x = hit nodes j x := by
 have e : x ∈ (onceL nodes).take (j + 1) ↔ x ∈ (onceL nodes).take j := by
  rw [List.take_succ_eq_append_getElem hj, List.mem_append, List.mem_singleton]
  exact ⟨fun k => k.elim id fun k => absurd k.symm h, .inl⟩
 unfold hit
 simp only [e]
set_option maxRecDepth 100000 in
set_option maxHeartbeats 4000000 in
theorem refNextNone_any (b : Nat) (oa : Option Addr) (cap : Nat) (w : World) :
  Calls Tryz.prog 66 #[.pointer (some ⟨b, 0, none⟩), .slice oa 0 cap] w fun e w' => e = .returned (.tuple #[.int .i64 0, .bool false]) ∧ w = w' := by
 go_enter Tryz.func66, Tryz.ntmps66
 go_wp2_with fail
 go_ret2
 exact ⟨rfl, rfl⟩
end Go.Proofs.YtejihgfigclppaaGreat
namespace Go.Proofs.YtejihgfigclppaaGreat
open Go.Shelf Go.RowKit Go.Lib Go.Sort
set_option linter.unusedVariables false
set_option linter.unusedSimpArgs false
set_option maxRecDepth 100000 in
set_option maxHeartbeats 4000000 in
theorem rsome_keep (b : Nat) (v : Value) (s : Int) (ws : List Int) (oa : Option Addr) (cap : Nat) (nodes : List Int) (n : Int) (w : World) (h1 : Ord2 b w s v 117) (h2 : SlAt icells w v ws) (h3 : ∀ g, v.ownBlock = some g → b < g) (hs : SlAt icells w (.slice oa nodes.length cap) nodes) (hl : nodes.length ≤ 900000) :
  Calls Tryz.prog 64 #[.pointer (some ⟨b, 0, none⟩), .slice oa nodes.length cap, .int .i64 n] w fun e w' => ∃ v', e = .returned v' ∧ Ints w.heap.size w' v' (someL s nodes n) ∧ Ord2 b w' (shufL s (onceL nodes)).1 v 117 ∧ SlAt icells w' v ws ∧ w.grownBy w' (some b) := by
 have hb := h1.lt
 have hc := refOnce_any oa cap nodes w hs (by omega)
 have HC := Lib.hid hc
 have hsm := someL_is s nodes n
 have hol := onceL_len nodes
 obtain ⟨sl, hsl⟩ : ∃ sl, sl = someL s nodes n := ⟨_, rfl⟩
 rw [← hsl] at hsm ⊢
 have HSM := Lib.hid hsm
 have H1 := Lib.hid h1
 have H2 := Lib.hid h2
 clear hc hs h1 hsm h2 hsl
 go_enter Tryz.func64, Tryz.ntmps64
 go_wp2_with fail
 refine HC.out.mono ?_
 rintro e w1 ⟨v1, rfl, ho1, hb1⟩
 have HO1 := Lib.hid ho1
 have HB1 := Lib.hid hb1
 clear ho1 hb1 HC
 go_wp2_with fail
 refine (refShuffle_any b w.heap.size s v v1 (onceL nodes) w w1 (H1.out.keep (HB1.out.block b hb)) HO1.out hb (Nat.le_refl _) (gb_below (World.grownBy.refl w (some b)) HB1.out (Nat.le_refl _)) (by omega)).mono ?_
 rintro e w2 ⟨rfl, ho2, hr2, hg2⟩
 have HR1 := Lib.hid hr2
 have HG1 := Lib.hid hg2
 obtain ⟨o1, c1, rfl⟩ := slAt_slice ho2.at
 have hcl : (shufL s (onceL nodes)).2.length ≤ c1 := by
  obtain ⟨oq, cq, hv6, hcap6⟩ := ho2.at.slice_of
  simp only [Value.slice.injEq] at hv6
  omega
 have HO2 := Lib.hid ho2
 clear hr2 hg2 ho2 HO1 HB1
 go_wp2_with fail
 obtain ⟨hkl, hse⟩ := HSM.out ((max 0 (min n ((shufL s (onceL nodes)).2.length : Int))).toNat) (by
  generalize (shufL s (onceL nodes)).2.length = m
  split
  ·omega
  ·split <;> omega)
 have ho := HO2.out.take icells_len _ hkl
 rw [← hse] at ho
 go_ret
 exact ⟨_, rfl, ho, HR1.out, H2.out.grown icells_len (by decide) HG1.out (.inr fun e => by have := h3 b e; omega), HG1.out⟩
set_option maxRecDepth 100000 in
set_option maxHeartbeats 8000000 in
theorem rnext_new (b B B' : Nat) (s : Int) (ws : List Int) (oa : Option Addr) (cap : Nat) (nodes : List Int) (w : World) (h : Obj 117 b B w s ws) (hbB' : b < B') (hBw : B' ≤ w.heap.size) (hs : SlAt icells w (.slice oa nodes.length cap) nodes) (hn : nodes ≠ []) (hl : nodes.length ≤ 900000) (hw : ws.length ≤ 900000) :
  Calls Tryz.prog 66 #[.pointer (some ⟨b, 0, none⟩), .slice oa nodes.length cap] w fun e w' => ∃ x, e = .returned (.tuple #[.int .i64 x, .bool true]) ∧ (nextL s ws nodes).2.head? = some x ∧ Obj 117 b B' w' (nextL s ws nodes).1 (nextL s ws nodes).2.tail ∧ w.grownBy w' (some b) := by
 have hb := h.lt
 have hnz : ¬ nodes.length = 0 := fun e => hn (List.eq_nil_of_length_eq_zero e)
 have hnzb : ((nodes.length : Int) == 0) = false := by simpa using hnz
 obtain ⟨v, h1, h2, hbB, h3⟩ := h
 obtain ⟨ov, cv, rfl⟩ := slAt_slice h2
 have c1 := h1.cell1
 obtain ⟨⟨s6, l6⟩, hrs⟩ : ∃ rs, rs = nextL s ws nodes := ⟨_, rfl⟩
 have HRS := Lib.hid (show (s6, l6) = if ws.filter (stay nodes) = [] then shufL s (onceL nodes) else (s, ws.filter (stay nodes)) from hrs)
 have hne2 := nextL_ne s ws nodes hn
 rw [← hrs] at hne2 ⊢
 have HNE := Lib.hid hne2
 clear hne2
 have H1 := Lib.hid h1
 have H2 := Lib.hid h2
 have H3 := Lib.hid h3
 have HS := Lib.hid hs
 have hol := onceL_len nodes
 clear h1 h2 h3 hs hrs hnz hn
 go_enter Tryz.func66, Tryz.ntmps66
 go_wp2_with fail
 go_loopg [6, 19] ws.length (fun gk s6 s19 wr => ∃ (i : Nat) (oq : Option Addr) (cq : Nat) (l : List Int), s19 = .int .i64 i ∧ s6 = .slice oq l.length cq ∧ i ≤ ws.length ∧ ws.length - i ≤ gk ∧ l.length ≤ i ∧ Hid (Ints w.heap.size wr (.slice oq l.length cq) l) ∧ Hid (l = (ws.take i).filter (stay nodes)) ∧ Hid (Below w.heap.size w wr))
 case atStart => exact ⟨0, none, 0, [], rfl, rfl, Nat.zero_le _, Nat.le_refl _, Nat.le_refl _, Owns.nil _ _ _ _ _, by show _ = _; simp, Below.refl _ _⟩
 case round =>
  obtain ⟨i, oq, cq, l, rfl, rfl, hi, hg, hli, HO, HQ, HB⟩ := hrel
  by_cases hlt : i < ws.length
  ·have hltz : (i : Int) < (ws.length : Int) := by omega
   have hsl := H2.out.below icells_len (by decide) HB.out (Nat.le_refl _)
   obtain ⟨bv, off, rfl⟩ := hsl.plain icells_len (by decide) (by intro e; rw [e] at hlt; exact absurd hlt (by simp))
   obtain ⟨x, hx⟩ : ∃ x, x = ws[i]'hlt := ⟨_, rfl⟩
   have d0 : wr.cell? ⟨bv, off + i, none⟩ = some (.int .i64 x) := by
    have := hsl.cell icells_len (i := i) (c := 0) hlt (by decide)
    simpa [icells, hx] using this
   have htk : (ws.take (i + 1)).filter (stay nodes) = (ws.take i).filter (stay nodes) ++ [x].filter (stay nodes) := by
    rw [List.take_succ_eq_append_getElem hlt, hx, List.filter_append]
   have HTK := Lib.hid htk
   have hr := refOnce_any oa cap nodes wr (HS.out.below icells_len (by decide) HB.out (Nat.le_refl _)) (by omega)
   have HR := Lib.hid hr
   clear hsl htk hx hr
   go_wp2_with fail
   refine HR.out.mono ?_
   rintro e w2 ⟨v2, rfl, ho2, hb2⟩
   obtain ⟨o2, c2, rfl⟩ := slAt_slice ho2.at
   have HON := Lib.hid ho2
   have HOQ := Lib.hid (HO.out.below hb2 (Nat.le_refl _))
   have HBQ := Lib.hid (HB.out.trans (hb2.mono HB.out.size))
   have HSZ := Lib.hid hb2.size
   have HOL := Lib.hid (fun g hg => (HO.out.lt g hg).2)
   clear HO HB HR ho2 hb2 d0
   go_wp2_with fail
   generalize wr.heap.size = n1 at *
   go_loopg [6, 26] (onceL nodes).length (fun gk2 s6 s26 wr => ∃ (j : Nat) (oq2 : Option Addr) (cq2 : Nat) (l2 : List Int), s26 = .int .i64 j ∧ s6 = .slice oq2 l2.length cq2 ∧ j ≤ (onceL nodes).length ∧ (onceL nodes).length - j ≤ gk2 ∧ l2.length ≤ i + 1 ∧ Hid (Ints w.heap.size wr (.slice oq2 l2.length cq2) l2) ∧ Hid (l2 = l ++ hit nodes j x) ∧ Hid (Below w.heap.size w wr) ∧ Hid (Ints n1 wr (.slice o2 (onceL nodes).length c2) (onceL nodes)) ∧ Hid (∀ g, (Value.slice oq2 l2.length cq2).ownBlock = some g → (Value.slice o2 (onceL nodes).length c2).ownBlock ≠ some g))
   case atStart => exact ⟨0, oq, cq, l, rfl, rfl, Nat.zero_le _, Nat.le_refl _, by omega, HOQ.out, by show _ = _; rw [hit_zero, List.append_nil], HBQ, HON, fun g hg e => by have := HOL.out g hg; have := (HON.out.lt g e).1; omega⟩
   case round =>
    clear HOQ HBQ HON HOL HSZ
    obtain ⟨j, oq2, cq2, l2, rfl, rfl, hj, hgj, hl2, HO, HQ2, HB, HN, HD⟩ := hrel
    by_cases hjl : j < (onceL nodes).length
    ·have hjz : (j : Int) < ((onceL nodes).length : Int) := by omega
     have hsn := HN.out.at
     obtain ⟨b2, off2, rfl⟩ := hsn.plain icells_len (by decide) (by intro e; rw [e] at hjl; exact absurd hjl (by simp))
     obtain ⟨y, hy⟩ : ∃ y, y = (onceL nodes)[j]'hjl := ⟨_, rfl⟩
     have d2 : wr.cell? ⟨b2, off2 + j, none⟩ = some (.int .i64 y) := by
      have := hsn.cell icells_len (i := j) (c := 0) hjl (by decide)
      simpa [icells, hy] using this
     have HY := Lib.hid hy
     clear hsn hy
     by_cases hyx : y = x
     ·obtain ⟨hh1, hh2⟩ := hit_yes nodes j x hjl (by rw [← HY.out]; exact hyx)
      have hq := HQ2.out
      rw [hh1, List.append_nil] at hq
      have HQ3 := Lib.hid hq
      have HH2 := Lib.hid hh2
      have hyb : (y == x) = true := by simpa using hyx
      have HYX := Lib.hid hyx
      have hz1 := HB.out.size
      clear hq hh1 hh2 hyx
      go_wp2_with (at_builtin; go_loud (refine wpList_app icells 1 icells_len (by decide) icells_one _ rfl _ _ 50 rfl w.heap.size 3 _ 8 Tryz.underlying50 infoInt rfl _ l2 rfl ?h1 _ [x] rfl ?h2 ?h3 ?h4 ?h5 ?_))
      case h1 => exact HO.out.below ((Below.refl _ _).alloc (Nat.le_refl _) _) (Nat.le_refl _)
      case h2 => exact slAt_new (enc := icells) wr (icells x).toArray 3 1 1 (0, 0) [x] rfl rfl (by decide)
      case h3 => simp only [List.length_cons, List.length_nil]; omega
      case h4 => simp only [List.length_cons, List.length_nil]; omega
      case h5 => simp; omega
      intro v4 w4 h4 hg4 hv4
      obtain ⟨o4, c4, rfl⟩ := slAt_slice h4.at
      have hb4 : Below w.heap.size w w4 := (HB.out.trans ((Below.refl _ _).alloc hz1 _)).grown hg4 (by simp; omega) fun k hk => (HO.out.lt k hk).1
      have hn4 : Ints n1 w4 (.slice (some ⟨b2, off2, none⟩) (onceL nodes).length c2) (onceL nodes) := (HN.out.below ((Below.refl _ _).alloc (Nat.le_refl _) (.cells #[.int .i64 x] 3)) (Nat.le_refl _)).kept hg4 (.inr fun e => HD.out b2 e.symm rfl)
      have hd4 : ∀ g, (Value.slice o4 (l2 ++ [x]).length c4).ownBlock = some g → (Value.slice (some ⟨b2, off2, none⟩) (onceL nodes).length c2).ownBlock ≠ some g := fun g hg e => by
       rcases hv4 with h | h
       ·exact HD.out g (h ▸ hg) e
       ·have := h g hg
        have := (HN.out.lt g e).2
        simp at *
        omega
      have hle : (l2 ++ [x]).length = l2.length + 1 := by simp
      rw [hle] at h4 hd4 ⊢
      have H4 := Lib.hid h4
      have HB4 := Lib.hid hb4
      have HN4 := Lib.hid hn4
      have HD4 := Lib.hid hd4
      have hq5 : l2 ++ [x] = l ++ hit nodes (j + 1) x := by rw [HH2.out, HQ3.out]
      have HQ5 := Lib.hid hq5
      have hl2' : l2.length ≤ i := by rw [HQ3.out]; exact hli
      clear h4 hb4 hn4 hd4 hg4 hv4 hq5 d2
      go_wp2_with fail
      go_roundg ((onceL nodes).length - (j + 1))
      case measure => omega
      case rel => exact ⟨j + 1, o4, c4, l2 ++ [x], by go_num, by rw [hle], by omega, Nat.le_refl _, by rw [hle]; omega, by rw [hle]; exact H4.out, HQ5.out, HB4.out, HN4.out, by rw [hle]; exact HD4.out⟩
     ·have hyb : (y == x) = false := by simpa using hyx
      have HHN := Lib.hid (hit_no nodes j x hjl (by rw [← HY.out]; exact hyx))
      clear hyx
      go_wp2_with fail
      go_roundg ((onceL nodes).length - (j + 1))
      case measure => omega
      case rel => exact ⟨j + 1, oq2, cq2, l2, by go_num, rfl, by omega, Nat.le_refl _, hl2, HO.out, by show _ = _; rw [HHN.out]; exact HQ2.out, HB.out, HN.out, HD.out⟩
    ·have hjz : ¬ (j : Int) < ((onceL nodes).length : Int) := by omega
     obtain rfl : j = (onceL nodes).length := by omega
     have hq := HQ2.out
     rw [hit_all, HQ.out, ← HTK.out] at hq
     have HQN := Lib.hid hq
     clear hq
     go_wp2_with fail
     go_roundg (ws.length - (i + 1))
     case measure => omega
     case rel => exact ⟨i + 1, oq2, cq2, l2, by go_num, rfl, by omega, Nat.le_refl _, by omega, HO.out, HQN, HB.out⟩
  ·have hltz : ¬ (i : Int) < (ws.length : Int) := by omega
   obtain rfl : i = ws.length := by omega
   have hq := HQ.out
   rw [List.take_length] at hq
   have hrs := HRS.out
   rw [← hq] at hrs
   have HR := Lib.hid hrs
   have hr5 := H1.out.keep (HB.out.block b hb)
   have hgw5 := gb_below (World.grownBy.refl w (some b)) HB.out (Nat.le_refl _)
   clear hq hrs
   by_cases hl0 : l = []
   ·subst hl0
    have hsh : shufL s (onceL nodes) = (s6, l6) := by have := HR.out; rw [if_pos rfl] at this; exact this.symm
    have HSH := Lib.hid hsh
    have hon := refOnce_any oa cap nodes wr (HS.out.below icells_len (by decide) HB.out (Nat.le_refl _)) (by omega)
    have HON := Lib.hid hon
    have HR5 := Lib.hid hr5
    have HG5 := Lib.hid hgw5
    clear hsh hon hr5 hgw5
    go_wp2_with fail
    refine HON.out.mono ?_
    rintro e w2 ⟨v2, rfl, ho2, hb2⟩
    have HO2 := Lib.hid (ho2.lower HB.out.size)
    have HR2 := Lib.hid (HR5.out.keep (hb2.block b HR5.out.lt))
    have HG2 := Lib.hid (gb_below HG5.out hb2 HG5.out.size)
    clear ho2 hb2 HR5 HG5 HON
    go_wp2_with fail
    refine (refShuffle_any b w.heap.size s _ v2 (onceL nodes) w w2 HR2.out HO2.out hb (Nat.le_refl _) HG2.out (by omega)).mono ?_
    rintro e w5 ⟨rfl, ho5, hr5, hgw5⟩
    rw [HSH.out] at ho5 hr5
    simp only at ho5 hr5
    obtain ⟨o6, c6, rfl⟩ := slAt_slice ho5.at
    obtain ⟨g, off, rfl⟩ := ho5.at.plain icells_len (by decide) HNE.out
    have hl6 : l6 ≠ [] := HNE.out
    clear HO2 HR2 HG2 HSH HR HNE HRS HQ HO
    obtain ⟨x, hx⟩ : ∃ x, x = l6.head hl6 := ⟨_, rfl⟩
    have hlp : 0 < l6.length := List.length_pos_iff.2 hl6
    have hx0 : l6.head? = some x := by rw [hx]; exact List.head?_eq_some_head hl6
    have HX0 := Lib.hid hx0
    have hs5 := ho5.at
    have hcc : w5.cell? ⟨g, off, none⟩ = some (.int .i64 x) := by
     have := hs5.cell icells_len (i := 0) (c := 0) hlp (by decide)
     have hx1 : l6[0]'hlp = x := by rw [hx, List.head_eq_getElem]
     simpa [icells, hx1] using this
    have hcl : l6.length ≤ c6 := by
     obtain ⟨oq, cq, hv6, hcap6⟩ := hs5.slice_of
     simp only [Value.slice.injEq] at hv6
     omega
    have h1l : 1 ≤ l6.length := hlp
    have h1c : 1 ≤ c6 := by omega
    have hnl : ¬ l6.length = 0 := by omega
    have hgB : B' ≤ g := by have := (ho5.lt g rfl).1; omega
    have hg6b : g ≠ b := by omega
    have hd5 := hr5.cell1
    have he5 := hr5.frozen 1
    have hpop := Obj.popv hr5 hs5 hbB' hgB h1l
    have HPOP := Lib.hid hpop
    have HG7 := Lib.hid (gb_then hgw5 (gb_set w5 b 1 (sliced (some ⟨g, off, none⟩) 1 l6.length c6 1)) fun q hq => .inr hq)
    clear hx hx0 hpop hr5 hs5 hgw5 ho5
    by_cases hc6 : c6 = 1
    ·subst hc6
     have hsl : sliced (some ⟨g, off, none⟩) 1 l6.length 1 1 = .slice (some ⟨g, off, none⟩) 0 0 := by unfold sliced; rw [if_pos rfl, show l6.length - 1 = 0 by omega]
     rw [hsl] at HPOP HG7
     clear hsl
     go_wp2_with fail
     go_ret2
     exact ⟨x, rfl, HX0.out, HPOP.out, HG7.out⟩
    ·have hsl : sliced (some ⟨g, off, none⟩) 1 l6.length c6 1 = .slice (some ⟨g, off + 1, none⟩) (l6.length - 1) (c6 - 1) := by unfold sliced; rw [if_neg hc6]; rfl
     rw [hsl] at HPOP HG7
     clear hsl
     go_wp2_with fail
     go_ret2
     exact ⟨x, rfl, HX0.out, HPOP.out, HG7.out⟩
   ·have hsh : (s6, l6) = (s, l) := by have := HR.out; rw [if_neg hl0] at this; exact this
    simp only [Prod.mk.injEq] at hsh
    obtain ⟨rfl, rfl⟩ := hsh
    obtain ⟨g, off, rfl⟩ := HO.out.at.plain icells_len (by decide) hl0
    have hl6 := hl0
    have ho5 := HO.out
    have hnl0 : ¬ l6.length = 0 := fun e => hl0 (List.eq_nil_of_length_eq_zero e)
    have hnlb : ((l6.length : Int) == 0) = false := by simpa using hnl0
    clear HR HNE HRS HQ HO hl0
    generalize hw5 : wr = w5 at *
    generalize hc6 : cq = c6 at *
    obtain ⟨x, hx⟩ : ∃ x, x = l6.head hl6 := ⟨_, rfl⟩
    have hlp : 0 < l6.length := List.length_pos_iff.2 hl6
    have hx0 : l6.head? = some x := by rw [hx]; exact List.head?_eq_some_head hl6
    have HX0 := Lib.hid hx0
    have hs5 := ho5.at
    have hcc : w5.cell? ⟨g, off, none⟩ = some (.int .i64 x) := by
     have := hs5.cell icells_len (i := 0) (c := 0) hlp (by decide)
     have hx1 : l6[0]'hlp = x := by rw [hx, List.head_eq_getElem]
     simpa [icells, hx1] using this
    have hcl : l6.length ≤ c6 := by
     obtain ⟨oq, cq, hv6, hcap6⟩ := hs5.slice_of
     simp only [Value.slice.injEq] at hv6
     omega
    have h1l : 1 ≤ l6.length := hlp
    have h1c : 1 ≤ c6 := by omega
    have hnl : ¬ l6.length = 0 := by omega
    have hgB : B' ≤ g := by have := (ho5.lt g rfl).1; omega
    have hg6b : g ≠ b := by omega
    have hd5 := hr5.cell1
    have he5 := hr5.frozen 1
    have hpop := Obj.popv hr5 hs5 hbB' hgB h1l
    have HPOP := Lib.hid hpop
    have HG7 := Lib.hid (gb_then hgw5 (gb_set w5 b 1 (sliced (some ⟨g, off, none⟩) 1 l6.length c6 1)) fun q hq => .inr hq)
    clear hx hx0 hpop hr5 hs5 hgw5 ho5
    by_cases hc6 : c6 = 1
    ·subst hc6
     have hsl : sliced (some ⟨g, off, none⟩) 1 l6.length 1 1 = .slice (some ⟨g, off, none⟩) 0 0 := by unfold sliced; rw [if_pos rfl, show l6.length - 1 = 0 by omega]
     rw [hsl] at HPOP HG7
     clear hsl
     go_wp2_with fail
     go_ret2
     exact ⟨x, rfl, HX0.out, HPOP.out, HG7.out⟩
    ·have hsl : sliced (some ⟨g, off, none⟩) 1 l6.length c6 1 = .slice (some ⟨g, off + 1, none⟩) (l6.length - 1) (c6 - 1) := by unfold sliced; rw [if_neg hc6]; rfl
     rw [hsl] at HPOP HG7
     clear hsl
     go_wp2_with fail
     go_ret2
     exact ⟨x, rfl, HX0.out, HPOP.out, HG7.out⟩
end Go.Proofs.YtejihgfigclppaaGreat
