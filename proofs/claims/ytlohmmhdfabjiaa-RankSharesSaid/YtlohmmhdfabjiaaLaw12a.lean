/-
  The law RankLeaves walked: it returns true, and turns nothing that was there.
-/
import Derived.Test.YtlohmmhdfabjiaaOwner
namespace Go.Proofs.Ytlohmmhdfabjiaa
open Go.Shelf Go.RowKit Go.Lib Go.Sort
set_option linter.unusedVariables false
def stays (g n : Int) : Bool := n != g
theorem owns_lit (B : Nat) (W : World) (l : List Int) (hB : B ≤ W.heap.size) (hl : l.length ≤ 1000000) : Ints B (W.alloc (.cells (l.map (Value.int .i64)).toArray 3)) (.slice (some ⟨W.heap.size, 0, none⟩) l.length l.length) l := by
  refine ⟨flat_len icells 1 icells_len l, .inr ⟨W.heap.size, l.length, (l.map (Value.int .i64)).toArray, rfl, hB, heap_alloc_new _ _, Nat.le_refl _, by simp only [maxLen]; omega, by simp, ?_⟩⟩
  rw [icells_flat, Nat.mul_one]
  exact List.take_of_length_le (by simp)
theorem take_filter' (f : Int → Bool) (l : List Int) (i : Nat) (hi : i < l.length) : (l.take (i + 1)).filter f = (l.take i).filter f ++ (if f (l[i]'hi) then [l[i]'hi] else []) := by
  rw [List.take_succ_eq_append_getElem hi, List.filter_append]
  by_cases h : f (l[i]'hi) = true <;> simp [h]
theorem reverse_take (l : List Int) (i : Nat) (hi : i < l.length) : (l.take (i + 1)).reverse = l[i]'hi :: (l.take i).reverse := by
  rw [List.take_succ_eq_append_getElem hi, List.reverse_append]
  rfl
theorem Ranks.take {wt : Int → Int} {l l' out : List Int} (h : Ranks wt l out) (e : ∀ x, x ∈ l' ↔ x ∈ l) : Ranks wt l' out := ⟨by rw [there_congr (l := l') (l' := l) fun x _ _ => e x]; exact h.st⟩
theorem stays_self (g : Int) : stays g g = false := by simp [stays]
theorem stays_all {g : Int} {l : List Int} (h : g ∉ l) : l.filter (stays g) = l := List.filter_eq_self.2 fun x hx => by
  have : x ≠ g := fun e => h (e ▸ hx)
  simpa [stays] using this
/-- what is the first, ahead and behind the going -/
theorem leaves_cases {la lb : List Int} {g xa ea xb eb : Int} (hq : lb = la.filter (stays g)) (hn : la.Nodup) (ha : own la = (xa, ea)) (hb : own lb = (xb, eb)) :
    (ea = 8 ∧ eb = 8) ∨ (ea = 0 ∧ xa ≠ g ∧ eb = 0 ∧ xb = xa) ∨ (ea = 0 ∧ xa = g ∧ eb = 8 ∧ la.length = 1) ∨ (ea = 0 ∧ xa = g ∧ eb = 0 ∧ 1 < la.length ∧ la[1]? = some xb) := by
  subst hq
  cases la with
  | nil =>
    simp only [own, List.filter_nil, Prod.mk.injEq] at ha hb
    exact .inl ⟨ha.2.symm, hb.2.symm⟩
  | cons x t =>
    simp only [own, Prod.mk.injEq] at ha
    obtain ⟨rfl, rfl⟩ := ha
    by_cases hx : x = g
    · subst hx
      have hnt : x ∉ t := (List.nodup_cons.1 hn).1
      rw [List.filter_cons, stays_self, if_neg (by simp), stays_all hnt] at hb
      cases t with
      | nil =>
        simp only [own, Prod.mk.injEq] at hb
        exact .inr (.inr (.inl ⟨rfl, rfl, hb.2.symm, rfl⟩))
      | cons y t =>
        simp only [own, Prod.mk.injEq] at hb
        exact .inr (.inr (.inr ⟨rfl, rfl, hb.2.symm, by simp, by simp [hb.1]⟩))
    · have hs : stays g x = true := by simpa [stays] using hx
      rw [List.filter_cons, hs, if_pos rfl] at hb
      simp only [own, Prod.mk.injEq] at hb
      exact .inr (.inl ⟨rfl, hx, hb.2.symm, hb.1.symm⟩)
set_option maxRecDepth 100000 in
set_option maxHeartbeats 8000000 in
theorem lawLeaves (oa : Option Addr) (cap : Nat) (nodes : List Int) (work salt who : Int) (w : World) (h : SlAt icells w (.slice oa nodes.length cap) nodes) (h0 : 0 ≤ salt) (h1 : salt < 18446744073709551616) (hw0 : 0 ≤ who) (hw1 : who ≤ 255) :
    Calls Try.prog 3 #[.agg #[.slice oa nodes.length cap, .int .i64 work, .int .u64 salt, .int .u8 who]] w fun e w' => e = .returned (.bool true) ∧ RowKit.Below w.heap.size w w' := by
  have HE := Lib.hid h
  have AL := Lib.hid alive_any
  clear h
  go_enter Try.func3, Try.ntmps3
  go_wp2_with fail
  refine (AL.out _).mono ?_
  rintro e w1 ⟨rfl, hb1⟩
  obtain ⟨hcell, hfr⟩ := bcell hb1
  have hz1 : w.heap.size < w1.heap.size := by have := hb1.size; simp at this; omega
  have hB1 : RowKit.Below w.heap.size w w1 := ((RowKit.Below.refl _ _).alloc (Nat.le_refl _) _).trans (hb1.mono (by simp))
  have HB1 := Lib.hid hB1
  clear hb1 hB1
  go_wp2_with fail
  go_quiet (fail)
  have hB2 : RowKit.Below w.heap.size w (w1.drewN nq) := HB1.out.trans ⟨rfl, rfl, rfl, Nat.le_refl _, fun _ _ => rfl⟩
  clear hcell hfr hz1 HB1
  generalize w1.drewN nq = w2 at *
  have HE2 := Lib.hid (HE.out.below icells_len (by decide) hB2 (Nat.le_refl _))
  have HB2 := Lib.hid hB2
  clear hB2
  by_cases h200 : (200 : Int) < (nodes.length : Int)
  · go_wp2_with fail
    go_ret
    exact ⟨rfl, HB2.out⟩
  have hnl : nodes.length ≤ 200 := by omega
  have hg0 : 0 ≤ who % 8 := by omega
  have hg1 : who % 8 < 8 := by omega
  generalize hgg : who % 8 = gone at *
  go_wp2_with fail
  go_loopg [8, 9, 38] nodes.length (fun gk s8 s9 s38 wr => ∃ (i : Nat) (ob ot : Option Addr) (cb ct : Nat) (r : List Int), s38 = .int .i64 i ∧ s8 = .slice ob r.length cb ∧ s9 = .slice ot i ct ∧ i ≤ nodes.length ∧ nodes.length - i ≤ gk ∧ r.length ≤ i ∧ Hid (Ints w2.heap.size wr (.slice ob r.length cb) r) ∧ Hid (r = (nodes.take i).filter (stays gone)) ∧ Hid (SlAt icells wr (.slice ot i ct) (nodes.take i).reverse) ∧ Hid (∀ g, (Value.slice ot i ct).ownBlock = some g → (Value.slice ob r.length cb).ownBlock ≠ some g) ∧ Hid (Below w2.heap.size w2 wr))
  case atStart => exact ⟨0, none, none, 0, 0, [], rfl, rfl, rfl, Nat.zero_le _, Nat.le_refl _, Nat.le_refl _, Owns.nil _ _ _ _ _, by show _ = _; rfl, SlAt.nil _ _, fun g hg => by simp [Value.ownBlock] at hg, Below.refl _ _⟩
  case round =>
    obtain ⟨i, ob, ot, cb, ct, r, rfl, rfl, rfl, hi, hg, hri, HO, HQ, HT, HN, HB⟩ := hrel
    by_cases hlt : i < nodes.length
    · have hltz : (i : Int) < (nodes.length : Int) := by omega
      have hsl := HE2.out.below icells_len (by decide) HB.out (Nat.le_refl _)
      obtain ⟨b, off, rfl⟩ := hsl.plain icells_len (by decide) (by intro e; rw [e] at hlt; exact absurd hlt (by simp))
      have c0 : wr.cell? ⟨b, off + i, none⟩ = some (.int .i64 (nodes[i]'hlt)) := by
        have := hsl.cell icells_len (i := i) (c := 0) hlt (by decide)
        simpa [icells] using this
      have htf := take_filter' (stays gone) nodes i hlt
      have hrv := reverse_take nodes i hlt
      have hrl : (nodes.take i).reverse.length = i := by rw [List.length_reverse, List.length_take]; omega
      have HTF := Lib.hid htf
      have HRV := Lib.hid hrv
      have HRL := Lib.hid hrl
      clear hsl htf hrv hrl
      generalize nodes[i]'hlt = x at *
      by_cases hx : (x != gone) = true
      · have hst : Hid (stays gone x = true) := hx
        go_wp2_with (at_builtin; go_loud (refine wpList_appD icells 1 icells_len (by decide) icells_one _ rfl _ _ 22 rfl w2.heap.size 3 _ 8 Try.underlying22 infoInt rfl _ r rfl ?h1 _ [x] rfl ?h2 ?h3 ?h4 ?h5 ?_))
        case h1 => exact HO.out.below ((Below.refl _ _).alloc (Nat.le_refl _) _) (Nat.le_refl _)
        case h2 => exact slAt_new (enc := icells) wr (icells x).toArray 3 1 1 (0, 0) [x] rfl rfl (by decide)
        case h3 => simp only [List.length_cons, List.length_nil]; omega
        case h4 => simp only [List.length_cons, List.length_nil]; omega
        case h5 => have := HB.out.size; simp; omega
        intro v3 w3 h3 hg3 hv3 hd3
        obtain ⟨o3, c3, rfl⟩ := slAt_slice h3.at
        have hT3 : SlAt icells w3 (.slice ot i ct) (nodes.take i).reverse := (HT.out.below icells_len (by decide) ((Below.refl wr.heap.size wr).alloc (Nat.le_refl _) (.cells #[.int .i64 x] 3)) (Nat.le_refl _)).grown icells_len (by decide) hg3 (by
          by_cases hz : (nodes.take i).reverse = []
          · exact .inl hz
          · right
            obtain ⟨bt, offt, hot⟩ := HT.out.plain icells_len (by decide) hz
            rw [hot]
            intro e
            exact HN.out bt (by rw [hot]; rfl) e.symm)
        have hb3 : Below w2.heap.size w2 w3 := HB.out.trans (((Below.refl _ _).alloc HB.out.size _).grown hg3 (by have := HB.out.size; simp; omega) fun k hk => (HO.out.lt k hk).1)
        have HO3 := Lib.hid h3
        have HT3 := Lib.hid hT3
        have HB3 := Lib.hid hb3
        have hlen3 : (r ++ [x]).length ≤ i + 1 := by simp only [List.length_append, List.length_cons, List.length_nil]; omega
        have hr3 : Hid (r ++ [x] = (nodes.take (i + 1)).filter (stays gone)) := by show _ = _; rw [HTF.out, if_pos hst.out, HQ.out]
        clear h3 hg3 hv3 hd3 hT3 hb3 HO HT HB HN HQ
        generalize r ++ [x] = r3 at *
        go_wp2_with (at_builtin; go_loud (refine wpList_appD icells 1 icells_len (by decide) icells_one _ rfl _ _ 22 rfl w3.heap.size 3 _ 8 Try.underlying22 infoInt rfl _ [x] rfl ?j1 _ (nodes.take i).reverse rfl ?j2 ?j3 ?j4 ?j5 ?_))
        case j1 => exact owns_lit _ _ [x] (Nat.le_refl _) (by simp)
        case j2 => exact HT3.out.below icells_len (by decide) ((Below.refl _ _).alloc (Nat.le_refl _) _) (Nat.le_refl _)
        case j3 => have := HRL.out; simp only [List.length_cons, List.length_nil]; omega
        case j4 => have := HRL.out; simp only [List.length_cons, List.length_nil]; omega
        case j5 => simp
        intro v4 w4 h4 hg4 hv4 hd4
        rw [← HRV.out] at h4
        obtain ⟨o4, c4, rfl⟩ := slAt_slice h4.at
        have hl4 : (nodes.take (i + 1)).reverse.length = i + 1 := by rw [List.length_reverse, List.length_take]; omega
        have hb34 : Below w3.heap.size w3 w4 := ((Below.refl _ _).alloc (Nat.le_refl _) _).grown hg4 (by simp) fun k hk => by simp [Value.ownBlock] at hk; omega
        have hO4 := HO3.out.below hb34 (Nat.le_refl _)
        have hb4 := HB3.out.trans (hb34.mono HB3.out.size)
        have hN4 : ∀ g, (Value.slice o4 (nodes.take (i + 1)).reverse.length c4).ownBlock = some g → (Value.slice o3 r3.length c3).ownBlock ≠ some g := fun g hg e => by
          have k1 := (h4.lt g hg).1
          have k2 := (HO3.out.lt g e).2
          omega
        rw [hl4] at h4 hN4 ⊢
        have HO4 := Lib.hid hO4
        have HT4 := Lib.hid h4.at
        have HB4 := Lib.hid hb4
        have HN4 := Lib.hid hN4
        clear h4 hg4 hv4 hd4 hb34 hO4 hb4 hN4 HO3 HT3 HB3
        go_wp2_with fail
        go_roundg (nodes.length - (i + 1))
        case measure => omega
        case rel => exact ⟨i + 1, o3, o4, c3, c4, r3, by go_num, rfl, rfl, by omega, Nat.le_refl _, hlen3, HO4, hr3, HT4, HN4, HB4⟩
      · have hx' : (x != gone) = false := by simpa using hx
        have hst : Hid (stays gone x = false) := hx'
        clear hx
        go_wp2_with (at_builtin; go_loud (refine wpList_appD icells 1 icells_len (by decide) icells_one _ rfl _ _ 22 rfl wr.heap.size 3 _ 8 Try.underlying22 infoInt rfl _ [x] rfl ?i1 _ (nodes.take i).reverse rfl ?i2 ?i3 ?i4 ?i5 ?_))
        case i1 => exact owns_lit _ _ [x] (Nat.le_refl _) (by simp)
        case i2 => exact HT.out.below icells_len (by decide) ((Below.refl _ _).alloc (Nat.le_refl _) _) (Nat.le_refl _)
        case i3 => have := HRL.out; simp only [List.length_cons, List.length_nil]; omega
        case i4 => have := HRL.out; simp only [List.length_cons, List.length_nil]; omega
        case i5 => simp
        intro v4 w4 h4 hg4 hv4 hd4
        rw [← HRV.out] at h4
        obtain ⟨o4, c4, rfl⟩ := slAt_slice h4.at
        have hl4 : (nodes.take (i + 1)).reverse.length = i + 1 := by rw [List.length_reverse, List.length_take]; omega
        have hb34 : Below wr.heap.size wr w4 := ((Below.refl _ _).alloc (Nat.le_refl _) _).grown hg4 (by simp) fun k hk => by simp [Value.ownBlock] at hk; omega
        have hO4 := HO.out.below hb34 (Nat.le_refl _)
        have hb4 := HB.out.trans (hb34.mono HB.out.size)
        have hN4 : ∀ g, (Value.slice o4 (nodes.take (i + 1)).reverse.length c4).ownBlock = some g → (Value.slice ob r.length cb).ownBlock ≠ some g := fun g hg e => by
          have k1 := (h4.lt g hg).1
          have k2 := (HO.out.lt g e).2
          omega
        have hr3 : Hid (r = (nodes.take (i + 1)).filter (stays gone)) := by show _ = _; rw [HTF.out, hst.out, HQ.out]; simp
        rw [hl4] at h4 hN4 ⊢
        have HO4 := Lib.hid hO4
        have HT4 := Lib.hid h4.at
        have HB4 := Lib.hid hb4
        have HN4 := Lib.hid hN4
        clear h4 hg4 hv4 hd4 hb34 hO4 hb4 hN4 HO HT HB HN HQ
        go_wp2_with fail
        go_roundg (nodes.length - (i + 1))
        case measure => omega
        case rel => exact ⟨i + 1, ob, o4, cb, c4, r, by go_num, rfl, rfl, by omega, Nat.le_refl _, by omega, HO4, hr3, HT4, HN4, HB4⟩
    · have hltz : ¬ (i : Int) < (nodes.length : Int) := by omega
      obtain rfl : i = nodes.length := by omega
      have hq := HQ.out
      have ht := HT.out
      rw [List.take_length] at hq ht
      have hmr : ∀ x, x ∈ r ↔ x ∈ nodes ∧ stays gone x = true := fun x => by rw [hq]; exact List.mem_filter
      have HE3 := Lib.hid (HE2.out.below icells_len (by decide) HB.out (Nat.le_refl _))
      have HB3 := Lib.hid (HB2.out.trans (HB.out.mono HB2.out.size))
      have HR3 := Lib.hid HO.out.at
      have HT3 := Lib.hid ht
      have HMR := Lib.hid hmr
      clear hq ht hmr HQ HT HN HO HB HE2 HB2
      generalize wr = w3 at *
      have ho5 := order_any oa cap nodes work salt h0 h1 w3 HE3.out (by omega)
      have HO5 := Lib.hid ho5
      clear ho5
      go_wp2_with fail
      refine HO5.out.mono ?_
      rintro e w5 ⟨o5, c5, l5, rfl, hr5, hs5, hb5⟩
      have hl5 := hr5.len
      have HE5 := Lib.hid (HE3.out.below icells_len (by decide) hb5 (Nat.le_refl _))
      have HB5 := Lib.hid (HB3.out.trans (hb5.mono HB3.out.size))
      have HR5 := Lib.hid (HR3.out.below icells_len (by decide) hb5 (Nat.le_refl _))
      have HK5 := Lib.hid hr5
      have HS5 := Lib.hid hs5
      have ho6 := order_any ot ct nodes.reverse work salt h0 h1 w5 (by rw [List.length_reverse]; exact HT3.out.below icells_len (by decide) hb5 (Nat.le_refl _)) (by rw [List.length_reverse]; omega)
      rw [List.length_reverse] at ho6
      have HO6 := Lib.hid ho6
      clear ho6 hr5 hs5 hb5 HO5 HE3 HB3 HR3 HT3
      go_wp2_with fail
      refine HO6.out.mono ?_
      rintro e w6 ⟨o6, c6, l6, rfl, hr6, hs6, hb6⟩
      obtain rfl : l6 = l5 := hr6.eq HK5.out (there_congr fun x _ _ => List.mem_reverse)
      have HE6 := Lib.hid (HE5.out.below icells_len (by decide) hb6 (Nat.le_refl _))
      have HB6 := Lib.hid (HB5.out.trans (hb6.mono HB5.out.size))
      have HR6 := Lib.hid (HR5.out.below icells_len (by decide) hb6 (Nat.le_refl _))
      have HS6 := Lib.hid (HS5.out.below icells_len (by decide) hb6 (Nat.le_refl _))
      have hi6 := ints_any o5 o6 c5 c6 l6 w6 HS6.out hs6 (by omega)
      have HI6 := Lib.hid hi6
      clear hi6 hr6 hs6 hb6 HO6 HE5 HB5 HR5 HS5
      go_wp2_with fail
      refine HI6.out.mono ?_
      rintro e w7 ⟨rfl, q7, rfl⟩
      have HE7 := Lib.hid (HE6.out.below icells_len (by decide) (below_drewN w6 q7) (Nat.le_refl _))
      have HB7 := Lib.hid (HB6.out.trans ((below_drewN w6 q7).mono HB6.out.size))
      have HR7 := Lib.hid (HR6.out.below icells_len (by decide) (below_drewN w6 q7) (Nat.le_refl _))
      have HS7 := Lib.hid (HS6.out.below icells_len (by decide) (below_drewN w6 q7) (Nat.le_refl _))
      clear HE6 HB6 HR6 HS6 HI6
      generalize w6.drewN q7 = w7 at *
      go_wp2_with fail
      go_loopg [13, 67] l6.length (fun gk s13 s67 wr => ∃ (i : Nat) (ob : Option Addr) (cb : Nat) (s : List Int), s67 = .int .i64 i ∧ s13 = .slice ob s.length cb ∧ i ≤ l6.length ∧ l6.length - i ≤ gk ∧ s.length ≤ i ∧ Hid (Ints w7.heap.size wr (.slice ob s.length cb) s) ∧ Hid (s = (l6.take i).filter (stays gone)) ∧ Hid (Below w7.heap.size w7 wr))
      case atStart => exact ⟨0, none, 0, [], rfl, rfl, Nat.zero_le _, Nat.le_refl _, Nat.le_refl _, Owns.nil _ _ _ _ _, by show _ = _; rfl, Below.refl _ _⟩
      case round =>
        obtain ⟨i, ob2, cb2, s, rfl, rfl, hi2, hg2, hsi, HO, HQ, HB⟩ := hrel
        by_cases hlt2 : i < l6.length
        · have hltz2 : (i : Int) < (l6.length : Int) := by omega
          have hsl := HS7.out.below icells_len (by decide) HB.out (Nat.le_refl _)
          obtain ⟨b, off, rfl⟩ := hsl.plain icells_len (by decide) (by intro e; rw [e] at hlt2; exact absurd hlt2 (by simp))
          have c0 : wr.cell? ⟨b, off + i, none⟩ = some (.int .i64 (l6[i]'hlt2)) := by
            have := hsl.cell icells_len (i := i) (c := 0) hlt2 (by decide)
            simpa [icells] using this
          have htf := take_filter' (stays gone) l6 i hlt2
          have HTF := Lib.hid htf
          clear hsl htf
          generalize l6[i]'hlt2 = x at *
          by_cases hx : (x != gone) = true
          · have hst : Hid (stays gone x = true) := hx
            go_wp2_with (at_builtin; go_loud (refine wpList_appD icells 1 icells_len (by decide) icells_one _ rfl _ _ 22 rfl w7.heap.size 3 _ 8 Try.underlying22 infoInt rfl _ s rfl ?m1 _ [x] rfl ?m2 ?m3 ?m4 ?m5 ?_))
            case m1 => exact HO.out.below ((Below.refl _ _).alloc (Nat.le_refl _) _) (Nat.le_refl _)
            case m2 => exact slAt_new (enc := icells) wr (icells x).toArray 3 1 1 (0, 0) [x] rfl rfl (by decide)
            case m3 => simp only [List.length_cons, List.length_nil]; omega
            case m4 => simp only [List.length_cons, List.length_nil]; omega
            case m5 => have := HB.out.size; simp; omega
            intro v3 w8 h3 hg3 hv3 hd3
            obtain ⟨o3, c3, rfl⟩ := slAt_slice h3.at
            have hb3 : Below w7.heap.size w7 w8 := HB.out.trans (((Below.refl _ _).alloc HB.out.size _).grown hg3 (by have := HB.out.size; simp; omega) fun k hk => (HO.out.lt k hk).1)
            have HO3 := Lib.hid h3
            have HBN := Lib.hid hb3
            have hlen3 : (s ++ [x]).length ≤ i + 1 := by simp only [List.length_append, List.length_cons, List.length_nil]; omega
            have hr3 : Hid (s ++ [x] = (l6.take (i + 1)).filter (stays gone)) := by show _ = _; rw [HTF.out, if_pos hst.out, HQ.out]
            clear h3 hg3 hv3 hd3 hb3 HO HB HQ
            generalize s ++ [x] = s3 at *
            go_wp2_with fail
            go_roundg (l6.length - (i + 1))
            case measure => omega
            case rel => exact ⟨i + 1, o3, c3, s3, by go_num, rfl, by omega, Nat.le_refl _, hlen3, HO3, hr3, HBN⟩
          · have hx' : (x != gone) = false := by simpa using hx
            have hst : Hid (stays gone x = false) := hx'
            clear hx
            go_wp2_with fail
            go_roundg (l6.length - (i + 1))
            case measure => omega
            case rel => exact ⟨i + 1, ob2, cb2, s, by go_num, rfl, by omega, Nat.le_refl _, by omega, HO, by show _ = _; rw [HTF.out, hst.out, HQ.out]; simp, HB⟩
        · have hltz2 : ¬ (i : Int) < (l6.length : Int) := by omega
          obtain rfl : i = l6.length := by omega
          have hq := HQ.out
          rw [List.take_length] at hq
          have HQ2 := Lib.hid hq
          have HE8 := Lib.hid (HE7.out.below icells_len (by decide) HB.out (Nat.le_refl _))
          have HB8 := Lib.hid (HB7.out.trans (HB.out.mono HB7.out.size))
          have HR8 := Lib.hid (HR7.out.below icells_len (by decide) HB.out (Nat.le_refl _))
          have HS8 := Lib.hid (HS7.out.below icells_len (by decide) HB.out (Nat.le_refl _))
          have HL8 := Lib.hid HO.out.at
          clear hq HQ HO HB HE7 HB7 HR7 HS7
          generalize wr = w8 at *
          have ho9 := order_any ob cb r work salt h0 h1 w8 HR8.out (by omega)
          have HO9 := Lib.hid ho9
          clear ho9
          go_wp2_with fail
          refine HO9.out.mono ?_
          rintro e w9 ⟨o9, c9, l9, rfl, hr9, hs9, hb9⟩
          obtain rfl : l9 = s := by rw [HQ2.out]; exact hr9.eq (HK5.out.gone (stays gone) HMR.out) rfl
          have HE9 := Lib.hid (HE8.out.below icells_len (by decide) hb9 (Nat.le_refl _))
          have HB9 := Lib.hid (HB8.out.trans (hb9.mono HB8.out.size))
          have HR9 := Lib.hid (HR8.out.below icells_len (by decide) hb9 (Nat.le_refl _))
          have HS9 := Lib.hid (HS8.out.below icells_len (by decide) hb9 (Nat.le_refl _))
          have HK9 := Lib.hid hr9
          have hi9 := ints_any o9 ob2 c9 cb2 l9 w9 hs9 (HL8.out.below icells_len (by decide) hb9 (Nat.le_refl _)) (by omega)
          have HI9 := Lib.hid hi9
          clear hi9 hr9 hs9 hb9 HO9 HE8 HB8 HR8 HS8 HL8
          go_wp2_with fail
          refine HI9.out.mono ?_
          rintro e w10 ⟨rfl, q10, rfl⟩
          have HE10 := Lib.hid (HE9.out.below icells_len (by decide) (below_drewN w9 q10) (Nat.le_refl _))
          have HB10 := Lib.hid (HB9.out.trans ((below_drewN w9 q10).mono HB9.out.size))
          have HR10 := Lib.hid (HR9.out.below icells_len (by decide) (below_drewN w9 q10) (Nat.le_refl _))
          have HS10 := Lib.hid (HS9.out.below icells_len (by decide) (below_drewN w9 q10) (Nat.le_refl _))
          clear HE9 HB9 HR9 HS9 HI9
          generalize w9.drewN q10 = w10 at *
          have ha := owner_any oa cap nodes work salt h0 h1 w10 HE10.out (by omega)
          have HA := Lib.hid ha
          clear ha
          go_wp2_with fail
          refine HA.out.mono ?_
          rintro e w11 ⟨la, hra, rfl, hb11⟩
          obtain rfl : la = l6 := hra.eq HK5.out rfl
          have HB11 := Lib.hid (HB10.out.trans (hb11.mono HB10.out.size))
          have HS11 := Lib.hid (HS10.out.below icells_len (by decide) hb11 (Nat.le_refl _))
          have hb := owner_any ob cb r work salt h0 h1 w11 (HR10.out.below icells_len (by decide) hb11 (Nat.le_refl _)) (by omega)
          have HBB := Lib.hid hb
          clear hb hra hb11 HA HE10 HB10 HR10 HS10
          obtain ⟨xa, ea, hxa⟩ : ∃ xa ea, own la = (xa, ea) := ⟨_, _, rfl⟩
          have HXA := Lib.hid hxa
          rw [hxa]
          clear hxa
          simp only
          go_wp2_with fail
          refine HBB.out.mono ?_
          rintro e w12 ⟨lb, hrb, rfl, hb12⟩
          obtain rfl : lb = l9 := hrb.eq HK9.out rfl
          have HB12 := Lib.hid (HB11.out.trans (hb12.mono HB11.out.size))
          have HS12 := Lib.hid (HS11.out.below icells_len (by decide) hb12 (Nat.le_refl _))
          obtain ⟨xb, eb, hxb⟩ : ∃ xb eb, own lb = (xb, eb) := ⟨_, _, rfl⟩
          have HXB := Lib.hid hxb
          rw [hxb]
          clear hxb hrb hb12 HBB HB11 HS11
          simp only
          have hlc := leaves_cases HQ2.out HK5.out.nodup HXA.out HXB.out
          clear HQ2 HK5 HK9 HXA HXB HMR
          rcases hlc with ⟨rfl, rfl⟩ | ⟨rfl, hne, rfl, rfl⟩ | ⟨rfl, rfl, rfl, hl1⟩ | ⟨rfl, rfl, rfl, hl1, hl2⟩
          · go_wp2_with fail
            go_ret
            exact ⟨rfl, HB12.out⟩
          · have hne' : (xb != gone) = true := by simpa using hne
            clear hne
            go_wp2_with fail
            go_ret
            exact ⟨rfl, HB12.out⟩
          · have hz1 : ((la.length : Int) == 1) = true := by rw [hl1]; rfl
            generalize la.length = n1 at *
            go_wp2_with fail
            go_ret
            exact ⟨rfl, HB12.out⟩
          · obtain ⟨b, off, rfl⟩ := HS12.out.plain icells_len (by decide) (by intro e; rw [e] at hl1; simp at hl1)
            have c1 : w12.cell? ⟨b, off + 1, none⟩ = some (.int .i64 xb) := by
              have := HS12.out.cell icells_len (i := 1) (c := 0) hl1 (by decide)
              rw [List.getElem?_eq_getElem hl1] at hl2
              rw [Option.some.inj hl2] at this
              simpa [icells] using this
            have hz1 : ((la.length : Int) == 1) = false := by rw [beq_eq_false_iff_ne]; omega
            have hz2 : (1 : Int) < (la.length : Int) := by omega
            clear hl2 HS12
            generalize la.length = n1 at *
            go_wp2_with fail
            go_ret
            exact ⟨rfl, HB12.out⟩
end Go.Proofs.Ytlohmmhdfabjiaa
