/-
  The reference's once: numbers laid in one by one, each once, the least first.
-/
import Derived.Test.YtjffaekajjokiaaNext
import Derived.Deep.RegionLaw
namespace Go.Proofs.Ytjffaekajjokiaa
open Go.Shelf Go.RowKit Go.Lib Go.Sort
set_option linter.unusedVariables false
def IsOnce (p l : List Int) : Prop := Rises l ∧ ∀ x, x ∈ l ↔ x ∈ p
theorem IsOnce.skip {p l : List Int} {x : Int} (h : IsOnce p l) (hx : x ∈ l) : IsOnce (p ++ [x]) l := by
  refine ⟨h.1, fun y => ?_⟩
  rw [h.2 y, List.mem_append, List.mem_singleton]
  constructor
  · exact .inl
  · rintro (h1 | rfl)
    · exact h1
    · exact (h.2 y).1 hx
theorem IsOnce.more {p l : List Int} {x : Int} {n : Nat} (h : IsOnce p l) (h1 : ∀ y ∈ l.take n, y < x) (h2 : ∀ y ∈ l.drop n, x < y) : IsOnce (p ++ [x]) (l.take n ++ [x] ++ l.drop n) := by
  refine ⟨rises_insert h.1 h1 h2, fun y => ?_⟩
  rw [mem_insert, h.2 y, List.mem_append, List.mem_singleton, or_comm]
theorem rises_behind {l : List Int} {n : Nat} {x : Int} (h : Rises l) (hx : ∀ y, l[n]? = some y → x < y) : ∀ y ∈ l.drop n, x < y := by
  intro y hy
  by_cases hn : n < l.length
  · rw [List.drop_eq_getElem_cons hn] at hy
    have h0 := hx _ (List.getElem?_eq_getElem hn)
    rcases List.mem_cons.1 hy with rfl | hy
    · exact h0
    · obtain ⟨j, hj, rfl⟩ := List.mem_iff_getElem.1 hy
      rw [List.getElem_drop]
      have := List.pairwise_iff_getElem.1 h n (n + 1 + j) hn (by simp at hj; omega) (by omega)
      omega
  · rw [List.drop_eq_nil_of_le (by omega)] at hy; cases hy
theorem works_le {l : List Int} {n : Nat} {x : Int} (h : ∀ y ∈ l.take n, y ≤ x) (hn : n < l.length) (hx : l[n]'hn ≤ x) : ∀ y ∈ l.take (n + 1), y ≤ x := by
  intro y hy
  rw [List.take_succ_eq_append_getElem hn] at hy
  rcases List.mem_append.1 hy with hy | hy
  · exact h y hy
  · obtain rfl : y = l[n]'hn := by simpa using hy
    exact hx
theorem works_is {l : List Int} {n : Nat} {x : Int} {is is' : Bool} (h : is = true ↔ x ∈ l.take n) (hn : n < l.length) (e : is' = (is || l[n]'hn == x)) : is' = true ↔ x ∈ l.take (n + 1) := by
  subst e
  rw [List.take_succ_eq_append_getElem hn, List.mem_append, ← h]
  simp only [Bool.or_eq_true, beq_iff_eq, List.mem_singleton]
  constructor
  · rintro (h | h)
    · exact .inl h
    · exact .inr h.symm
  · rintro (h | h)
    · exact .inl h
    · exact .inr h.symm
theorem works_lt {l : List Int} {n : Nat} {x : Int} (h : ∀ y ∈ l.take n, y ≤ x) (hi : false = true ↔ x ∈ l.take n) : ∀ y ∈ l.take n, y < x := by
  intro y hy
  have h1 := h y hy
  have h2 : y ≠ x := fun e => by subst e; exact absurd (hi.2 hy) (by simp)
  omega
theorem owns_made_int {e : Nat} (W : World) (n : Nat) (hn : W.heap.size = n) : Owns icells 1 n e (W.alloc (.cells #[] e)) (.slice (some ⟨n, 0, none⟩) 0 0) [] := by
  subst hn
  exact World.ownsRow_made W #[] 0 (Nat.le_refl _) (by decide) rfl
set_option maxRecDepth 100000 in
set_option maxHeartbeats 8000000 in
theorem refOnce_any (oa : Option Addr) (cap : Nat) (ps : List Int) (w : World) (h : SlAt icells w (.slice oa ps.length cap) ps) (hl : ps.length ≤ 1000000) :
    Calls Try.prog 24 #[.slice oa ps.length cap] w fun e w' => ∃ v', e = .returned v' ∧ Ints w.heap.size w' v' (onceL ps) ∧ Below w.heap.size w w' := by
  have HE := Lib.hid h
  clear h
  go_enter Try.func24, Try.ntmps24
  go_wp2_with fail
  go_loopg [3, 11] ps.length (fun gk s3 s11 wr => ∃ (i : Nat) (oq : Option Addr) (cq : Nat) (l : List Int), s11 = .int .i64 i ∧ s3 = .slice oq l.length cq ∧ i ≤ ps.length ∧ ps.length - i ≤ gk ∧ l.length ≤ i ∧ Hid (Ints w.heap.size wr (.slice oq l.length cq) l) ∧ Hid (IsOnce (ps.take i) l) ∧ Hid (Below w.heap.size w wr))
  case atStart => exact ⟨0, none, 0, [], rfl, rfl, Nat.zero_le _, Nat.le_refl _, Nat.le_refl _, Owns.nil _ _ _ _ _, by show IsOnce _ _; exact ⟨List.Pairwise.nil, fun x => by simp⟩, Below.refl _ _⟩
  case round =>
    obtain ⟨i, oq, cq, l, rfl, rfl, hi, hg, hli, HO, HQ, HB⟩ := hrel
    by_cases hlt : i < ps.length
    · have hltz : (i : Int) < (ps.length : Int) := by omega
      have hsl := HE.out.below icells_len (by decide) HB.out (Nat.le_refl _)
      obtain ⟨b, off, rfl⟩ := hsl.plain icells_len (by decide) (by intro e; rw [e] at hlt; exact absurd hlt (by simp))
      obtain ⟨x, hx⟩ : ∃ x, x = ps[i]'hlt := ⟨_, rfl⟩
      have d0 : wr.cell? ⟨b, off + i, none⟩ = some (.int .i64 x) := by
        have := hsl.cell icells_len (i := i) (c := 0) hlt (by decide)
        simpa [icells, hx] using this
      have htk : ps.take (i + 1) = ps.take i ++ [x] := by
        rw [List.take_succ_eq_append_getElem hlt, hx]
      have HTK := Lib.hid htk
      clear hsl htk hx
      go_wp2_with fail
      generalize hwb : wr = wb at *
      go_loopg [6, 7] l.length (fun gk2 s6 s7 wr => ∃ (at' : Nat) (is : Bool), s6 = .int .i64 at' ∧ s7 = .bool is ∧ at' ≤ l.length ∧ l.length - at' ≤ gk2 ∧ wb = wr ∧ Hid (∀ y ∈ l.take at', y ≤ x) ∧ Hid (is = true ↔ x ∈ l.take at'))
      case atStart => exact ⟨0, false, rfl, rfl, Nat.zero_le _, Nat.le_refl _, rfl, by show ∀ y ∈ l.take 0, _; simp, by show _ ↔ _; simp⟩
      case round =>
        obtain ⟨at', is, rfl, rfl, ha, hag, rfl, HD, HI⟩ := hrel
        have hcs : (∃ hal : at' < l.length, l[at']'hal ≤ x) ∨ (∃ hal : at' < l.length, ¬ l[at']'hal ≤ x) ∨ ¬ at' < l.length := by
          by_cases h : at' < l.length
          · by_cases h2 : l[at']'h ≤ x
            · exact .inl ⟨h, h2⟩
            · exact .inr (.inl ⟨h, h2⟩)
          · exact .inr (.inr h)
        rcases hcs with ⟨hal, hle⟩ | ⟨hal, hle⟩ | hal
        · have halz : (at' : Int) < (l.length : Int) := by omega
          have hsl2 := HO.out.at
          obtain ⟨b2, off2, rfl⟩ := hsl2.plain icells_len (by decide) (by intro e; rw [e] at hal; exact absurd hal (by simp))
          obtain ⟨y, hy⟩ : ∃ y, y = l[at']'hal := ⟨_, rfl⟩
          have d2 : wb.cell? ⟨b2, off2 + at', none⟩ = some (.int .i64 y) := by
            have := hsl2.cell icells_len (i := at') (c := 0) hal (by decide)
            simpa [icells, hy] using this
          have HY := Lib.hid hy
          rw [← hy] at hle
          clear hsl2 hy
          have HLE := Lib.hid (works_le HD.out hal (by rw [← HY.out]; exact hle))
          have HIS := Lib.hid (fun is' => works_is (is' := is') HI.out hal)
          cases is with
          | true =>
            go_wp2_with fail
            go_roundg (l.length - (at' + 1))
            case measure => omega
            case rel => exact ⟨at' + 1, true, by go_num, rfl, by omega, Nat.le_refl _, rfl, HLE, HIS.out true (by simp)⟩
          | false =>
            by_cases hyw : y = x
            · have hyb : (y == x) = true := by simpa using hyw
              have HYW := Lib.hid hyw
              clear hyw
              go_wp2_with fail
              go_roundg (l.length - (at' + 1))
              case measure => omega
              case rel => exact ⟨at' + 1, true, by go_num, rfl, by omega, Nat.le_refl _, rfl, HLE, HIS.out true (by rw [← HY.out, HYW.out]; simp)⟩
            · have hyb : (y == x) = false := by simpa using hyw
              have HYW := Lib.hid hyb
              clear hyw
              go_wp2_with fail
              go_roundg (l.length - (at' + 1))
              case measure => omega
              case rel => exact ⟨at' + 1, false, by go_num, rfl, by omega, Nat.le_refl _, rfl, HLE, HIS.out false (by rw [← HY.out, HYW.out]; rfl)⟩
        · have halz : (at' : Int) < (l.length : Int) := by omega
          have hsl2 := HO.out.at
          obtain ⟨b2, off2, rfl⟩ := hsl2.plain icells_len (by decide) (by intro e; rw [e] at hal; exact absurd hal (by simp))
          obtain ⟨y, hy⟩ : ∃ y, y = l[at']'hal := ⟨_, rfl⟩
          have d2 : wb.cell? ⟨b2, off2 + at', none⟩ = some (.int .i64 y) := by
            have := hsl2.cell icells_len (i := at') (c := 0) hal (by decide)
            simpa [icells, hy] using this
          have HY := Lib.hid hy
          rw [← hy] at hle
          clear hsl2 hy
          have HL := Lib.hid (show ∀ z, l[at']? = some z → x < z from fun z hz => by rw [List.getElem?_eq_getElem hal, ← HY.out] at hz; have := Option.some.inj hz; omega)
          have hleb : decide (y ≤ x) = false := decide_eq_false hle
          cases is with
          | true =>
            have hskip : IsOnce (ps.take (i + 1)) l := by
              rw [HTK.out]
              exact HQ.out.skip (List.mem_of_mem_take (HI.out.1 rfl))
            have HSK := Lib.hid hskip
            clear hskip
            go_wp2_with fail
            go_roundg (ps.length - (i + 1))
            case measure => omega
            case rel => exact ⟨i + 1, some ⟨b2, off2, none⟩, cq, l, by go_num, rfl, by omega, Nat.le_refl _, by omega, HO.out, HSK, HB.out⟩
          | false =>
            have hmore : IsOnce (ps.take (i + 1)) (l.take at' ++ [x] ++ l.drop at') := by
              rw [HTK.out]
              exact HQ.out.more (works_lt HD.out HI.out) (rises_behind HQ.out.1 HL.out)
            have HMORE := Lib.hid hmore
            clear hmore
            have hcq : at' ≤ cq := by
              obtain ⟨_, _, hv, hc⟩ := HO.out.at.slice_of
              simp only [Value.slice.injEq] at hv
              omega
            clear d0
            go_wp2_with (at_builtin; go_loud (refine wpList_app icells 1 icells_len (by decide) icells_one _ rfl _ _ 23 rfl wb.heap.size 3 _ 8 Try.underlying23 infoInt rfl _ [] rfl ?hb1 _ (l.take at') rfl ?hb2 ?hb3 ?hb4 ?hb5 ?_))
            case hb1 => exact owns_made_int _ _ rfl
            case hb2 =>
              have hs2 := (HO.out.take icells_len at' ha).at.below (B := wb.heap.size) icells_len (by decide) ((Below.refl wb.heap.size wb).alloc (Nat.le_refl _) (.cells #[] 3)) (Nat.le_refl _)
              first | exact hs2 | (simp [Act.eval]; exact hs2)
            case hb3 => omega
            case hb4 => omega
            intro v' w' hown hg2 hv2
            have hb2 : Below wb.heap.size wb w' := ((Below.refl wb.heap.size wb).alloc (Nat.le_refl _) _).grown hg2 (by simp) (fun k hk => by simp [Value.ownBlock] at hk; omega)
            have hln : (l.take at').length = at' := by rw [List.length_take]; omega
            obtain ⟨on, cn, rfl⟩ := slAt_slice hown.at
            rw [hln] at hown ⊢
            have HOWN := Lib.hid hown
            have HB2 := Lib.hid hb2
            clear hown hg2 hv2 hb2
            go_wp2_with fail
            have hzw := HB2.out.size
            have HOWND := Lib.hid (HOWN.out.below (below_drew (Below.refl w'.heap.size w')) (Nat.le_refl _))
            go_region_law (first
              | (refine step_appD icells 1 icells_len (by decide) icells_one _ rfl _ _ 23 rfl wb.heap.size 3 _ 8 Try.underlying23 infoInt rfl (.slice on at' cn) (l.take at') rfl (HOWND.out.below ((Below.refl _ _).alloc (Nat.le_refl _) _) (Nat.le_refl _)) _ [x] rfl (slAt_new (enc := icells) w'.drew (icells x).toArray 3 1 1 (0, 0) [x] rfl rfl (by decide)) (by simp only [List.length_take, List.length_cons, List.length_nil]; omega) (by simp only [List.length_take, List.length_cons, List.length_nil]; omega) (by simp; omega) ?_
                 intro v4 w4 h4 hg4 hv4 hd4)
              | (refine step_appD icells 1 icells_len (by decide) icells_one _ rfl _ _ 23 rfl wb.heap.size 3 _ 8 Try.underlying23 infoInt rfl v4 (l.take at' ++ [x]) rfl h4 _ (l.drop at') rfl (by
                   have b3 : Below wb.heap.size wb w4 := ((HB2.out.trans ((below_drew (Below.refl w'.heap.size w')).mono hzw)).alloc (by simp; omega) _).grown hg4 (by simp; omega) fun k hk => (HOWN.out.lt k hk).1
                   have hs := (HO.out.at.sub icells_len (by decide) at' l.length ha (Nat.le_refl _)).below icells_len (by decide) b3 (Nat.le_refl _)
                   rw [List.take_length] at hs
                   simp [Act.eval]
                   first | (simpa [sliced] using hs) | (simpa [sliced, Addr.add_lit] using hs)) (by simp only [List.length_append, List.length_drop, List.length_take, List.length_cons, List.length_nil]; omega) (by simp only [List.length_append, List.length_drop, List.length_take, List.length_cons, List.length_nil]; omega) (by have := hg4.size; simp at this; omega) ?_
                 intro v5 w5 h5 hg5 hv5 hd5))
            have hbb : Below wb.heap.size wb w5 := by
              have b3 : Below wb.heap.size wb w4 := ((HB2.out.trans ((below_drew (Below.refl w'.heap.size w')).mono hzw)).alloc (by simp; omega) _).grown hg4 (by simp; omega) fun k hk => (HOWN.out.lt k hk).1
              exact b3.grown hg5 b3.size fun k hk => (h4.lt k hk).1
            obtain ⟨o5, c5, rfl⟩ := slAt_slice h5.at
            have HOW := Lib.hid (h5.lower HB.out.size)
            have HBN := Lib.hid (HB.out.trans (hbb.mono HB.out.size))
            have hl5 : (l.take at' ++ [x] ++ l.drop at').length = l.length + 1 := by simp only [List.length_append, List.length_drop, List.length_take, List.length_cons, List.length_nil]; omega
            clear hbb h4 hg4 hv4 h5 hg5 hv5 hd4 hd5
            generalize l.take at' ++ [x] ++ l.drop at' = l' at *
            go_wp2_with fail
            all_goals
              go_roundg (ps.length - (i + 1))
              case measure => omega
              case rel => exact ⟨i + 1, o5, c5, l', by go_num, by rw [hl5], by omega, Nat.le_refl _, by omega, HOW, HMORE, HBN⟩

        · have halz : ¬ (at' : Int) < (l.length : Int) := by omega
          have HL := Lib.hid (show ∀ z, l[at']? = some z → x < z from fun z hz => by rw [List.getElem?_eq_none (by omega)] at hz; cases hz)
          cases is with
          | true =>
            have hskip : IsOnce (ps.take (i + 1)) l := by
              rw [HTK.out]
              exact HQ.out.skip (List.mem_of_mem_take (HI.out.1 rfl))
            have HSK := Lib.hid hskip
            clear hskip
            go_wp2_with fail
            go_roundg (ps.length - (i + 1))
            case measure => omega
            case rel => exact ⟨i + 1, oq, cq, l, by go_num, rfl, by omega, Nat.le_refl _, by omega, HO.out, HSK, HB.out⟩
          | false =>
            have hmore : IsOnce (ps.take (i + 1)) (l.take at' ++ [x] ++ l.drop at') := by
              rw [HTK.out]
              exact HQ.out.more (works_lt HD.out HI.out) (rises_behind HQ.out.1 HL.out)
            have HMORE := Lib.hid hmore
            clear hmore
            have hcq : at' ≤ cq := by
              obtain ⟨_, _, hv, hc⟩ := HO.out.at.slice_of
              simp only [Value.slice.injEq] at hv
              omega
            clear d0
            go_wp2_with (at_builtin; go_loud (refine wpList_app icells 1 icells_len (by decide) icells_one _ rfl _ _ 23 rfl wb.heap.size 3 _ 8 Try.underlying23 infoInt rfl _ [] rfl ?ha1 _ (l.take at') rfl ?ha2 ?ha3 ?ha4 ?ha5 ?_))
            case ha1 => exact owns_made_int _ _ rfl
            case ha2 =>
              have hs2 := (HO.out.take icells_len at' ha).at.below (B := wb.heap.size) icells_len (by decide) ((Below.refl wb.heap.size wb).alloc (Nat.le_refl _) (.cells #[] 3)) (Nat.le_refl _)
              first | exact hs2 | (simp [Act.eval]; exact hs2)
            case ha3 => omega
            case ha4 => omega
            intro v' w' hown hg2 hv2
            have hb2 : Below wb.heap.size wb w' := ((Below.refl wb.heap.size wb).alloc (Nat.le_refl _) _).grown hg2 (by simp) (fun k hk => by simp [Value.ownBlock] at hk; omega)
            have hln : (l.take at').length = at' := by rw [List.length_take]; omega
            obtain ⟨on, cn, rfl⟩ := slAt_slice hown.at
            rw [hln] at hown ⊢
            have HOWN := Lib.hid hown
            have HB2 := Lib.hid hb2
            clear hown hg2 hv2 hb2
            go_wp2_with fail
            have hzw := HB2.out.size
            have HOWND := Lib.hid (HOWN.out.below (below_drew (Below.refl w'.heap.size w')) (Nat.le_refl _))
            go_region_law (first
              | (refine step_appD icells 1 icells_len (by decide) icells_one _ rfl _ _ 23 rfl wb.heap.size 3 _ 8 Try.underlying23 infoInt rfl (.slice on at' cn) (l.take at') rfl (HOWND.out.below ((Below.refl _ _).alloc (Nat.le_refl _) _) (Nat.le_refl _)) _ [x] rfl (slAt_new (enc := icells) w'.drew (icells x).toArray 3 1 1 (0, 0) [x] rfl rfl (by decide)) (by simp only [List.length_take, List.length_cons, List.length_nil]; omega) (by simp only [List.length_take, List.length_cons, List.length_nil]; omega) (by simp; omega) ?_
                 intro v4 w4 h4 hg4 hv4 hd4)
              | (refine step_appD icells 1 icells_len (by decide) icells_one _ rfl _ _ 23 rfl wb.heap.size 3 _ 8 Try.underlying23 infoInt rfl v4 (l.take at' ++ [x]) rfl h4 _ (l.drop at') rfl (by
                   have b3 : Below wb.heap.size wb w4 := ((HB2.out.trans ((below_drew (Below.refl w'.heap.size w')).mono hzw)).alloc (by simp; omega) _).grown hg4 (by simp; omega) fun k hk => (HOWN.out.lt k hk).1
                   have hs := (HO.out.at.sub icells_len (by decide) at' l.length ha (Nat.le_refl _)).below icells_len (by decide) b3 (Nat.le_refl _)
                   rw [List.take_length] at hs
                   simp [Act.eval]
                   first | (simpa [sliced] using hs) | (simpa [sliced, Addr.add_lit] using hs)) (by simp only [List.length_append, List.length_drop, List.length_take, List.length_cons, List.length_nil]; omega) (by simp only [List.length_append, List.length_drop, List.length_take, List.length_cons, List.length_nil]; omega) (by have := hg4.size; simp at this; omega) ?_
                 intro v5 w5 h5 hg5 hv5 hd5))
            have hbb : Below wb.heap.size wb w5 := by
              have b3 : Below wb.heap.size wb w4 := ((HB2.out.trans ((below_drew (Below.refl w'.heap.size w')).mono hzw)).alloc (by simp; omega) _).grown hg4 (by simp; omega) fun k hk => (HOWN.out.lt k hk).1
              exact b3.grown hg5 b3.size fun k hk => (h4.lt k hk).1
            obtain ⟨o5, c5, rfl⟩ := slAt_slice h5.at
            have HOW := Lib.hid (h5.lower HB.out.size)
            have HBN := Lib.hid (HB.out.trans (hbb.mono HB.out.size))
            have hl5 : (l.take at' ++ [x] ++ l.drop at').length = l.length + 1 := by simp only [List.length_append, List.length_drop, List.length_take, List.length_cons, List.length_nil]; omega
            clear hbb h4 hg4 hv4 h5 hg5 hv5 hd4 hd5
            generalize l.take at' ++ [x] ++ l.drop at' = l' at *
            go_wp2_with fail
            all_goals
              go_roundg (ps.length - (i + 1))
              case measure => omega
              case rel => exact ⟨i + 1, o5, c5, l', by go_num, by rw [hl5], by omega, Nat.le_refl _, by omega, HOW, HMORE, HBN⟩

    · have hltz : ¬ (i : Int) < (ps.length : Int) := by omega
      obtain rfl : i = ps.length := by omega
      have hq2 : l = onceL ps := by have := HQ.out; rw [List.take_length] at this; exact onceL_eq this.1 this.2
      have HQ2 := Lib.hid hq2
      clear hq2
      go_wp2_with fail
      go_ret
      exact ⟨_, rfl, by rw [← HQ2.out]; exact HO.out, HB.out⟩
end Go.Proofs.Ytjffaekajjokiaa
