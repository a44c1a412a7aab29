/-
  policy.Works: the workloads that have a policy, in order: collected, sorted, made one of each.
-/
import Derived.Test.YtflijljekbihfaaRefWorks
import Derived.Test.YtflijljekbihfaaShelf
import Derived.Sort.OwnSortedInts
namespace Go.Proofs.Ytflijljekbihfaa
open Go.Shelf Go.RowKit Go.Lib Go.Sort
set_option linter.unusedVariables false

/-- the workloads of what sets one, one by one -/
def setWorks (evs : List Ev) : List Int := (evs.filter fun e => e.kind == 2).map (·.work)
theorem setWorks_more (evs : List Ev) (e : Ev) : setWorks (evs ++ [e]) = setWorks evs ++ (if e.kind == 2 then [e.work] else []) := by
  unfold setWorks
  rw [List.filter_append, List.map_append]
  by_cases h : (e.kind == 2) = true <;> simp [h]
theorem compact_len (zs : List Int) : (Lib.compact zs).length ≤ zs.length := by
  unfold Lib.compact compactUpTo
  rw [List.length_map]
  have := List.length_filter_le (keeps zs.toArray) (List.range zs.length)
  simpa using this
theorem works_sorted (evs : List Ev) : IsWorks evs (Lib.compact ((setWorks evs).mergeSort fun x y => decide (x ≤ y))) := by
  have hs : ((setWorks evs).mergeSort fun x y => decide (x ≤ y)).Pairwise fun a b => decide (a ≤ b) = true := List.pairwise_mergeSort (fun a b c h1 h2 => by simp only [decide_eq_true_eq] at *; omega) (fun a b => by simp only [Bool.or_eq_true, decide_eq_true_eq]; omega) _
  have hm : ∀ x, x ∈ ((setWorks evs).mergeSort fun x y => decide (x ≤ y)) ↔ x ∈ setWorks evs := fun x => List.mem_mergeSort
  generalize ((setWorks evs).mergeSort fun x y => decide (x ≤ y)) = zs at hs hm
  obtain ⟨h1, h2⟩ := compact_rises zs.toArray (fun i j hij hj => by
    have hj' : j < zs.length := by simpa using hj
    rcases Nat.lt_or_eq_of_le hij with h | rfl
    · have := List.pairwise_iff_getElem.1 hs i j (by omega) hj' h
      simpa [getElem!_pos, show i < zs.length by omega, hj'] using this
    · exact Int.le_refl _) zs.length (by simp)
  refine ⟨h1, fun x => (h2 x).trans ?_⟩
  constructor
  · rintro ⟨j, hj, hx⟩
    have hx' : x ∈ zs := by
      rw [← hx]
      simp only [hj, List.size_toArray, getElem!_pos, List.getElem_toArray]
      exact List.getElem_mem hj
    obtain ⟨e, he, hw⟩ := List.mem_map.1 ((hm x).1 hx')
    obtain ⟨he1, he2⟩ := List.mem_filter.1 he
    exact ⟨e, he1, by simpa using he2, hw⟩
  · rintro ⟨e, he, hk, hw⟩
    have hx : x ∈ zs := (hm x).2 (List.mem_map.2 ⟨e, List.mem_filter.2 ⟨he, by simpa using hk⟩, hw⟩)
    obtain ⟨j, hj, hx⟩ := List.mem_iff_getElem.1 hx
    exact ⟨j, hj, by simpa [getElem!_pos, hj] using hx⟩

theorem icells_flat : ∀ l : List Int, l.flatMap icells = l.map (Value.int .i64)
  | [] => rfl
  | a :: l => by rw [List.flatMap_cons, List.map_cons, icells_flat l]; rfl
/-- a slice of ints of the call's own: its cells, as the sort asks for them -/
theorem owns_ints {w : World} {base e : Nat} {g off cap : Nat} {l : List Int} (h : Owns icells 1 base e w (.slice (some ⟨g, off, none⟩) l.length cap) l) : off = 0 ∧ base ≤ g ∧ g < w.heap.size ∧ l.length ≤ cap ∧ Holds (Value.int .i64) w g 0 l.toArray := by
  rcases h.2 with ⟨hv, hn⟩ | ⟨g', cap', cur, hv, hbg, hgg, hnc, hcm, hcs, htk⟩
  · cases hv
  · simp only [Value.slice.injEq, Option.some.injEq, Addr.mk.injEq] at hv
    obtain ⟨⟨rfl, rfl, _⟩, _, rfl⟩ := hv
    refine ⟨rfl, hbg, (Array.getElem?_eq_some_iff.1 hgg).1, hnc, holds_of_blockI hgg ?_⟩
    rw [← icells_flat, ← htk, Nat.mul_one]
/-- and behind it -/
theorem owns_sortedInt {w : World} {base e : Nat} {g cap n : Nat} {os : Array Obj} {l ts : List Int} (h : Owns icells 1 base e w (.slice (some ⟨g, 0, none⟩) l.length cap) l) (hl : ts.length = l.length) :
    Owns icells 1 base e (grow (putRow (Value.int .i64) (Sort.ahead w n) g 0 ts.toArray) os) (.slice (some ⟨g, 0, none⟩) ts.length cap) ts := by
  rcases h.2 with ⟨hv, hn⟩ | ⟨g', cap', cur, hv, hbg, hgg, hnc, hcm, hcs, htk⟩
  · cases hv
  · simp only [Value.slice.injEq, Option.some.injEq, Addr.mk.injEq] at hv
    obtain ⟨⟨rfl, _, _⟩, _, rfl⟩ := hv
    have := ownsRow_sortedI (n := n) (os := os) (ss := l) (ts := ts) hl hbg hgg hnc hcm hcs
    unfold Owns
    rw [icells_flat, hl]
    exact this
set_option maxRecDepth 100000 in
set_option maxHeartbeats 8000000 in
theorem works_any (oa : Option Addr) (cap : Nat) (ps : List PEv) (w : World) (h : EvsAt w (.slice oa ps.length cap) ps) (hl : ps.length ≤ 1000000) :
    Calls Try.prog 13 #[.slice oa ps.length cap] w fun e w' => ∃ oq cq l, e = .returned (.slice oq l.length cq) ∧ IsWorks (ps.map (·.2)) l ∧ l.length ≤ ps.length ∧ SlAt icells w' (.slice oq l.length cq) l ∧ Below w.heap.size w w' := by
  have HE := Lib.hid h
  clear h
  go_enter Try.func13, Try.ntmps13
  go_wp2_with fail
  go_loopg [3, 8] ps.length (fun gk s3 s8 wr => ∃ (i : Nat) (oq : Option Addr) (cq : Nat) (l : List Int), s8 = .int .i64 i ∧ s3 = .slice oq l.length cq ∧ i ≤ ps.length ∧ ps.length - i ≤ gk ∧ l.length ≤ i ∧ Hid (Owns icells 1 w.heap.size 3 wr (.slice oq l.length cq) l) ∧ Hid (l = setWorks ((ps.take i).map (·.2))) ∧ Hid (Below w.heap.size w wr))
  case atStart => exact ⟨0, none, 0, [], rfl, rfl, Nat.zero_le _, Nat.le_refl _, Nat.le_refl _, Owns.nil _ _ _ _ _, by show _ = _; rfl, Below.refl _ _⟩
  case round =>
    obtain ⟨i, oq, cq, l, rfl, rfl, hi, hg, hli, HO, HQ, HB⟩ := hrel
    by_cases hlt : i < ps.length
    · have hltz : (i : Int) < (ps.length : Int) := by omega
      have hsl : SlAt pcells wr (.slice oa ps.length cap) ps := HE.out.1.below pcells_len (by decide) HB.out (Nat.le_refl _)
      obtain ⟨b, off, rfl⟩ := hsl.plain pcells_len (by decide) (by intro e; rw [e] at hlt; exact absurd hlt (by simp))
      obtain ⟨ra, rn, rc, ev, hp, c0, c1, c2, c3, c4, c5, c6, c7, c8, c9, c10, c11, c12, c13⟩ := hsl.ev i hlt
      have htk : setWorks ((ps.take (i + 1)).map (·.2)) = setWorks ((ps.take i).map (·.2)) ++ (if ev.kind == 2 then [ev.work] else []) := by
        rw [List.take_succ_eq_append_getElem hlt, (List.getElem?_eq_some_iff.1 hp).2, List.map_append]
        exact setWorks_more _ _
      have HTK := Lib.hid htk
      clear hsl hp htk
      by_cases hk : (ev.kind == 2) = true
      · have HK := Lib.hid hk
        go_wp2_with (at_builtin; go_loud (refine wpList_app icells 1 icells_len (by decide) icells_one _ rfl _ _ 37 rfl w.heap.size 3 _ 8 Try.underlying37 infoInt rfl _ l rfl ?h1 _ [ev.work] rfl ?h2 ?h3 ?h4 ?h5 ?_))
        case h1 => exact HO.out.below (((Below.refl _ _).alloc (Nat.le_refl _) _).alloc (by simp) _) (Nat.le_refl _)
        case h2 =>
          have hn := slAt_new (enc := icells) (wr.alloc (.cells (pcells (⟨ra, rn, rc⟩, ev)).toArray 34)) (icells ev.work).toArray 3 1 1 (0, 0) [ev.work] rfl rfl (by decide)
          rw [World.size_alloc] at hn
          exact hn
        case h3 => (try simp only [List.length_cons, List.length_nil]); omega
        case h4 => (try simp only [List.length_cons, List.length_nil]); omega
        case h5 => have := HB.out.size; simp; omega
        intro v' w' hown2 hg2 hv2
        have hbb : Below w.heap.size wr w' := (((Below.refl _ _).alloc HB.out.size _).alloc (by have := HB.out.size; simp; omega) _).grown hg2 (by have := HB.out.size; simp; omega) fun k hk => (HO.out.lt k hk).1
        obtain ⟨oq', cq', hv'⟩ := slAt_slice' hown2.at
        rw [hv'] at hown2 ⊢
        have HOW := Lib.hid hown2
        have HBB := Lib.hid hbb
        clear hbb hown2 hg2 hv2
        go_wp2_with fail
        go_roundg (ps.length - (i + 1))
        case measure => omega
        case rel => exact ⟨i + 1, oq', cq', l ++ [ev.work], by go_num, rfl, by omega, Nat.le_refl _, by simp only [List.length_append, List.length_cons, List.length_nil]; omega, HOW, by show _ = _; rw [HTK.out, HQ.out, if_pos HK.out], HB.out.trans HBB.out⟩
      · have hk' : (ev.kind == 2) = false := by simpa using hk
        have HK := Lib.hid hk
        clear hk
        go_wp2_with fail
        go_roundg (ps.length - (i + 1))
        case measure => omega
        case rel => exact ⟨i + 1, oq, cq, l, by go_num, rfl, by omega, Nat.le_refl _, by omega, HO.out.below ((Below.refl _ _).alloc (Nat.le_refl _) _) (Nat.le_refl _), by show _ = _; rw [HTK.out, HQ.out, if_neg HK.out, List.append_nil], HB.out.trans ((Below.refl _ _).alloc HB.out.size _)⟩
    · have hltz : ¬ (i : Int) < (ps.length : Int) := by omega
      obtain rfl : i = ps.length := by omega
      have hq2 : l = setWorks (ps.map (·.2)) := by have := HQ.out; rwa [List.take_length] at this
      have HQ2 := Lib.hid hq2
      clear hq2 HQ
      cases l with
      | nil =>
        have hw0 : IsWorks (ps.map (·.2)) [] := by
          have := works_sorted (ps.map (·.2))
          rw [← HQ2.out] at this
          have e : Lib.compact (([] : List Int).mergeSort fun x y => decide (x ≤ y)) = [] := by simp [Lib.compact, compactUpTo]
          rwa [e] at this
        have HW0 := Lib.hid hw0
        clear hw0 HQ2
        simp only [List.length_nil] at HO hli ⊢
        go_wp2_with fail
        refine (sortNone_any oq cq _).mono ?_
        rintro e w1 ⟨rfl, rfl⟩
        go_wp2_with fail
        refine (compactNone_any oq cq _).mono ?_
        rintro e w1 ⟨rfl, rfl⟩
        go_wp2_with fail
        go_ret
        exact ⟨oq, cq, [], rfl, HW0.out, by simp, HO.out.at, HB.out⟩
      | cons z zs =>
        obtain ⟨b1, off1, rfl⟩ := HO.out.at.plain icells_len (by decide) (by simp)
        have hws := works_sorted (ps.map (·.2))
        rw [← HQ2.out] at hws
        have hml : ((z :: zs).mergeSort fun x y => decide (x ≤ y)).length = (z :: zs).length := List.length_mergeSort _
        generalize hzz : z :: zs = ls at *
        obtain ⟨rfl, hb1, hb2, hlc, hH⟩ := owns_ints HO.out
        have hS := sortInt_any b1 0 cq ls wr hH hb2 (by omega)
        have hOS := fun n os => owns_sortedInt (n := n) (os := os) HO.out hml
        generalize (ls.mergeSort fun x y => decide (x ≤ y)) = ms at *
        have hcl := compact_len ms
        have hts : (Lib.compact ms ++ List.replicate (ms.length - (Lib.compact ms).length) 0).length = ms.length := by simp only [List.length_append, List.length_replicate]; omega
        have hC := fun n os => compactInt_any b1 0 cq ms (grow (putRow (Value.int .i64) (Sort.ahead wr n) b1 0 ms.toArray) os) (owns_ints (hOS n os)).2.2.2.2 (by omega) (by omega)
        have hOC := fun n os q => owns_sortedInt (n := q) (os := #[]) (hOS n os) hts
        have HS := Lib.hid hS
        have HC := Lib.hid hC
        have HOC := Lib.hid hOC
        have HWS := Lib.hid hws
        have HML := Lib.hid hml
        have HTS := Lib.hid hts
        have HZZ := Lib.hid hzz
        clear hS hC hOC hws hml hts hzz hOS hH
        go_wp2_with fail
        refine HS.out.mono ?_
        rintro e w1 ⟨rfl, n, os, rfl⟩
        have hC2 := HC.out n os
        rw [HML.out] at hC2
        have HC2 := Lib.hid hC2
        have hgr : wr.grownBy (grow (putRow (Value.int .i64) (Sort.ahead wr n) b1 0 ms.toArray) os) (some b1) := grownBy_sortedI _
        have HOC2 := Lib.hid (HOC.out n os)
        clear hC2 HS HC HOC
        have hBG : Below w.heap.size w (grow (putRow (Value.int .i64) (Sort.ahead wr n) b1 0 ms.toArray) os) := HB.out.grown hgr HB.out.size fun k hk => by
          have e : b1 = k := by simpa [Value.ownBlock] using hk
          rw [← e]
          exact hb1
        generalize (grow (putRow (Value.int .i64) (Sort.ahead wr n) b1 0 ms.toArray) os) = w1 at *
        go_wp2_with fail
        refine HC2.out.mono ?_
        rintro e w2 ⟨rfl, q, rfl⟩
        have ho := HOC2.out q
        have hg2 := grownBy_sortedI (w := w1) (g := b1) (n := q) (os := #[]) (Lib.compact ms ++ List.replicate (ms.length - (Lib.compact ms).length) 0).toArray
        rw [grow_empty, HML.out] at ho hg2
        have ht := ho.take icells_len (Lib.compact ms).length (by rw [List.length_append]; omega)
        rw [List.take_left' rfl] at ht
        have hb3 := hBG.grown hg2 hBG.size fun k hk => by
          have e : b1 = k := by simpa [Value.ownBlock] using hk
          rw [← e]
          exact hb1
        have hml := HML.out
        have HT := Lib.hid ht.at
        have HB3 := Lib.hid hb3
        clear ho hg2 ht hb3 HOC2 hBG hgr
        go_wp2_with fail
        go_ret
        exact ⟨_, cq, Lib.compact ms, rfl, HWS.out, by omega, HT.out, HB3.out⟩
end Go.Proofs.Ytflijljekbihfaa
