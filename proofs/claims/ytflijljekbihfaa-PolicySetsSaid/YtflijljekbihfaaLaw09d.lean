/-
  The law PolicySets walked: it returns true, and turns nothing that was there.
-/
import Derived.Test.YtflijljekbihfaaRefWin
import Derived.Test.YtflijljekbihfaaWorks
import Derived.Test.YtflijljekbihfaaErase
import Derived.Test.YtflijljekbihfaaAlive09
import Derived.Test.YtflijljekbihfaaAll07
import Derived.Test.YtflijljekbihfaaOpenEv
import Derived.Test.YtflijljekbihfaaUnlike
namespace Go.Proofs.Ytflijljekbihfaa
open Go.Shelf Go.RowKit Go.Lib Go.Sort
set_option linter.unusedVariables false
theorem rems_le {ps qs : List PEv} (h : qs.map (·.2) = ps.map (·.2)) (hr : ∀ p ∈ ps, p.2.rem.length ≤ 1000000) : ∀ p ∈ qs, p.2.rem.length ≤ 1000000 := fun p hp => by
  have h1 : p.2 ∈ qs.map (·.2) := List.mem_map_of_mem hp
  rw [h] at h1
  obtain ⟨z, hz, he⟩ := List.mem_map.1 h1
  rw [← he]
  exact hr z hz
theorem win_shape (l : List Ev) : ∃ (p : Pol) (d : Dot) (ok : Bool), winV l = .tuple #[.agg #[.int .i64 p.mn, .int .i64 p.mx, .int .i64 p.goal, .int .i64 p.slack, .int .i64 p.up, .int .i64 p.down, .int .i64 p.cool], .agg #[.int .i64 d.node, .int .i64 d.seq], .bool ok] := by
  cases l with
  | nil => exact ⟨⟨0, 0, 0, 0, 0, 0, 0⟩, ⟨0, 0⟩, false, rfl⟩
  | cons e l => exact ⟨e.pol, e.dot, true, rfl⟩
theorem set_rems {ps qs : List PEv} {work : Int} (h : stableOf evLater ((ps.map (·.2)).filter (isSet work)) (qs.map (·.2))) (hr : ∀ p ∈ ps, p.2.rem.length ≤ 1000000) : ∀ p ∈ qs, p.2.rem.length ≤ 1000000 := fun p hp => by
  have h1 : p.2 ∈ qs.map (·.2) := List.mem_map_of_mem hp
  rw [stSort_eq swo_evLater h] at h1
  have h2 := (List.mem_filter.1 ((stSort_mem swo_evLater _ _).1 h1)).1
  obtain ⟨z, hz, he⟩ := List.mem_map.1 h2
  rw [← he]
  exact hr z hz
theorem set_len {ps qs : List PEv} {work : Int} (h : stableOf evLater ((ps.map (·.2)).filter (isSet work)) (qs.map (·.2))) : qs.length ≤ ps.length := by
  have h1 := congrArg List.length (stSort_eq swo_evLater h)
  rw [stSort_length, List.length_map] at h1
  have h2 := List.length_filter_le (isSet work) (ps.map (·.2))
  rw [List.length_map] at h2
  omega
theorem two_old (w : World) (c d : Array Value) (t u o : Nat) : ((w.alloc (.cells c t)).alloc (.cells d u)).cell? ⟨w.heap.size, o, none⟩ = c[o]? := by
  unfold World.cell?
  rw [Below.heap_alloc _ _ _ (by simp), heap_alloc_new]
  rfl
theorem two_new (w : World) (c d : Array Value) (t u o : Nat) : ((w.alloc (.cells c t)).alloc (.cells d u)).cell? ⟨w.heap.size + 1, o, none⟩ = d[o]? := by
  have e : w.heap.size + 1 = (w.alloc (.cells c t)).heap.size := by simp
  unfold World.cell?
  rw [e, heap_alloc_new]
  rfl
/-- the three values of the Winner, as they are told of events in either memory -/
theorem win_post {ps qs : List PEv} {work : Int} {w : World} {p : Pol} {d : Dot} {ok : Bool} (h : qs.map (·.2) = ps.map (·.2))
    (hv : winV (stSort evLater ((ps.map (·.2)).filter (isSet work))) = .tuple #[.agg #[.int .i64 p.mn, .int .i64 p.mx, .int .i64 p.goal, .int .i64 p.slack, .int .i64 p.up, .int .i64 p.down, .int .i64 p.cool], .agg #[.int .i64 d.node, .int .i64 d.seq], .bool ok])
    (e : Ending) (w' : World) (hp : WinPost qs work w e w') : e = .returned (.tuple #[.agg #[.int .i64 p.mn, .int .i64 p.mx, .int .i64 p.goal, .int .i64 p.slack, .int .i64 p.up, .int .i64 p.down, .int .i64 p.cool], .agg #[.int .i64 d.node, .int .i64 d.seq], .bool ok]) ∧ RowKit.Below w.heap.size w w' := by
  obtain ⟨l, h1, h2, h3⟩ := hp
  refine ⟨?_, h3⟩
  rw [h2, stSort_eq swo_evLater h1, h, hv]
set_option maxRecDepth 100000 in
set_option maxHeartbeats 8000000 in
theorem lawSets (oa : Option Addr) (cap : Nat) (ps : List PEv) (work : Int) (w : World) (h : EvsAt w (.slice oa ps.length cap) ps) (hl : ps.length ≤ 1099511627776) (hf : ∀ p ∈ ps, p.2.fits) :
    Calls Try.prog 3 #[.slice oa ps.length cap, .int .i64 work] w fun e w' => e = .returned (.bool true) ∧ RowKit.Below w.heap.size w w' := by
  have HE := Lib.hid h
  have AL := Lib.hid alive09
  have hgr := fun W (hE : EvsAt W (.slice oa ps.length cap) ps) => great_any oa cap ps W hE hl (fun p hp => (hf p hp).2.2.2.2.2.2.2)
  have HGR := Lib.hid hgr
  clear h hgr hf
  go_enter Try.func3, Try.ntmps3
  go_wp2_with fail
  refine (AL.out _).mono ?_
  rintro e w1 ⟨rfl, hb1⟩
  have HE2 := Lib.hid (HE.out.below hb1 (Nat.le_refl _))
  have HB2 := Lib.hid hb1
  clear hb1
  go_wp2_with fail
  refine (HGR.out _ HE2.out).mono ?_
  rintro e w3 ⟨rfl, hb3⟩
  have HE3 := Lib.hid (HE2.out.below hb3 (Nat.le_refl _))
  have HB3 := Lib.hid (HB2.out.trans (hb3.mono HB2.out.size))
  clear hb3 HE2 HB2
  by_cases hbk : 3000 < bulk (ps.map (·.2))
  · rw [decide_eq_true hbk]
    go_wp2_with fail
    go_ret
    exact ⟨rfl, HB3.out⟩
  rw [decide_eq_false hbk]
  by_cases h300 : (300 : Int) < (ps.length : Int)
  · go_wp2_with fail
    go_ret
    exact ⟨rfl, HB3.out⟩
  have hpl : ps.length ≤ 300 := by omega
  have hrem : ∀ p ∈ ps, p.2.rem.length ≤ 1000000 := fun p hp => by
    have := bulk_mem (ps.map (·.2)) p.2 (List.mem_map_of_mem hp)
    omega
  have HREM := Lib.hid hrem
  have hcp := copies_any oa cap ps w3 HE3.out (by omega) hrem
  have HCP := Lib.hid hcp
  clear hrem hbk hcp
  go_wp2_with fail
  refine HCP.out.mono ?_
  rintro e w4 ⟨oq, cq, qs, rfl, hql, hqm, hacc, hb4⟩
  have HE4 := Lib.hid (HE3.out.below hb4 (Nat.le_refl _))
  have HB4 := Lib.hid (HB3.out.trans (hb4.mono HB3.out.size))
  have hI4 : EvsAt w4 (.slice oq qs.length cq) qs := by rw [hql]; exact hacc.evs
  have HI4 := Lib.hid hI4
  have HQM := Lib.hid hqm
  have hrq := rems_le hqm HREM.out
  have HRQ := Lib.hid hrq
  have hof := sets_any oq cq qs work w4 HI4.out (by omega) HRQ.out
  rw [hql] at hof
  have HQL := Lib.hid hql
  clear hb4 hacc hI4 hqm hrq HCP HE3 HB3 hql
  have HOF := Lib.hid hof
  clear hof
  go_wp2_with fail
  refine HOF.out.mono ?_
  rintro e w5 ⟨v5, q5, rfl, hst5, hacc5, hb5⟩
  obtain ⟨o5, c5, rfl⟩ := slAt_slice hacc5.row.at
  have hq5 : q5.length ≤ 300 := by have := set_len hst5; have := HQL.out; omega
  have HR5 := Lib.hid (set_rems hst5 HRQ.out)
  have HST5 := Lib.hid hst5
  have HE5 := Lib.hid (HE4.out.below hb5 (Nat.le_refl _))
  have HI5 := Lib.hid (HI4.out.below hb5 (Nat.le_refl _))
  have HB5 := Lib.hid hb5
  have HA5 := Lib.hid hacc5
  clear hb5 hacc5 hst5 HOF
  have hro := refSets_any oa cap ps work w5 HE5.out (by omega) HREM.out
  have HRO := Lib.hid hro
  clear hro
  go_wp2_with fail
  refine HRO.out.mono ?_
  rintro e w6 ⟨v6, q6, rfl, hst6, hacc6, hb6⟩
  obtain ⟨o6, c6, hv6⟩ := slAt_slice hacc6.row.at
  have heq : q5.map (·.2) = q6.map (·.2) := by
    rw [stSort_eq swo_evLater HST5.out, stSort_eq swo_evLater hst6, HQM.out]
  have hlen : q6.length = q5.length := by have := congrArg List.length heq; simpa using this.symm
  rw [hlen] at hv6
  subst hv6
  have HE6 := Lib.hid (HE5.out.below hb6 (Nat.le_refl _))
  have HI6 := Lib.hid (HI5.out.below hb6 (Nat.le_refl _))
  have HB6 := Lib.hid (HB5.out.trans (hb6.mono HB5.out.size))
  have hA6 := HA5.out.below hb6 (Nat.le_refl _)
  have HA6 := Lib.hid hA6
  have hall := all_any o5 o6 c5 c6 q5 q6 w6 hA6.evs hacc6.evs heq (by omega) HR5.out
  have HALL := Lib.hid hall
  clear hb6 hacc6 hst6 heq hall HE5 HI5 HB5 HA5 HRO hlen hA6 HST5
  go_wp2_with fail
  refine HALL.out.mono ?_
  rintro e w7 ⟨rfl, hg7⟩
  have HB7 := Lib.hid (HB6.out.trans (hg7.below.mono HB6.out.size))
  have hE7 : Erased w4.heap.size 29 (.slice o5 q5.length c5) q5 w4 w7 := Erased.of (HA6.out.below hg7.below (Nat.le_refl _)) HB7.out (Nat.le_refl _)
  have HER := Lib.hid hE7
  clear hg7 HE6 HI6 HB6 HALL hE7 HA6
  go_wp2_with fail
  go_loopg [7, 40] q5.length (fun gk s7 s40 wr => ∃ (i : Nat), s40 = .int .i64 i ∧ i ≤ q5.length ∧ q5.length - i ≤ gk ∧ Hid (Erased w4.heap.size 29 (.slice o5 q5.length c5) q5 w4 wr))
  case atStart => exact ⟨0, rfl, Nat.zero_le _, Nat.le_refl _, HER⟩
  case round =>
    obtain ⟨i, rfl, hi, hg, HR⟩ := hrel
    by_cases hlt : i < q5.length
    · have hltz : (i : Int) < (q5.length : Int) := by omega
      have hsl := HR.out.row
      obtain ⟨b, off, rfl⟩ := slAt_some hsl i hlt
      obtain ⟨ra, rn, rc, ev, hp, c0, c1, c2, c3, c4, c5, c6, c7, c8, c9, c10, c11, c12, c13⟩ := hsl.ev i hlt
      have HP := Lib.hid hp
      have hrnl : rn ≤ 1000000 := by
        have h1 := (HR.out.place HP.out).1
        have h2 := HR5.out _ (List.mem_of_getElem? HP.out)
        simp only at h2
        omega
      clear hp hsl c0 c1 c2 c3 c4 c5 c6 c7 c8 c9 c10 c11 c12
      go_wp2_with fail
      go_loopg [8, 49] rn (fun gk2 s8 s49 wr => ∃ (k : Nat), s49 = .int .i64 k ∧ k ≤ rn ∧ rn - k ≤ gk2 ∧ Hid (Erased w4.heap.size 29 (.slice (some ⟨b, off, none⟩) q5.length c5) q5 w4 wr))
      case atStart => exact ⟨0, rfl, Nat.zero_le _, Nat.le_refl _, HR⟩
      case round =>
        obtain ⟨k, rfl, hk, hg2, HR2⟩ := hrel
        by_cases hlk : k < rn
        · have hlkz : (k : Int) < (rn : Int) := by omega
          have d13 := HR2.out.head HP.out
          obtain ⟨hrn, hpl2⟩ := HR2.out.place HP.out
          obtain ⟨g, rfl, hBg, hvg, ⟨y, dy⟩, df⟩ := hpl2 k hlk
          have HS := Lib.hid (HR2.out.set g k (-1) hBg hvg)
          have hgb : ¬ b = g := by simpa [Value.ownBlock] using hvg
          clear hpl2 hrn c13 hvg
          go_wp2_with fail
          go_roundg (rn - (k + 1))
          case measure => omega
          case rel => exact ⟨k + 1, by go_num, by omega, Nat.le_refl _, by first | exact HS | simpa using HS⟩
        · have hlkz : ¬ (k : Int) < (rn : Int) := by omega
          clear c13
          go_wp2_with fail
          go_roundg (q5.length - (i + 1))
          case measure => omega
          case rel => exact ⟨i + 1, by go_num, by omega, Nat.le_refl _, HR2⟩
    · have hltz : ¬ (i : Int) < (q5.length : Int) := by omega
      obtain rfl : i = q5.length := by omega
      have hb8 := HR.out.below
      have hsz := HR.out.size
      have HE8 := Lib.hid (HE4.out.below hb8 (Nat.le_refl _))
      have HI8 := Lib.hid (HI4.out.below hb8 (Nat.le_refl _))
      have HB8 := Lib.hid (HB4.out.trans (hb8.mono HB4.out.size))
      obtain ⟨p, d, ok, hpd⟩ := win_shape (stSort evLater ((ps.map (·.2)).filter (isSet work)))
      have hw8 := (winner_any oq cq qs work wr HI8.out (by have := HQL.out; omega) HRQ.out).mono (win_post HQM.out hpd)
      rw [HQL.out] at hw8
      clear hb8 HR HE4 HI4 HB4 HB7 HER hsz
      have HW8 := Lib.hid hw8
      have HPD := Lib.hid hpd
      clear hw8 hpd
      go_wp2_with fail
      refine HW8.out.mono ?_
      rintro e w9 ⟨rfl, hb9⟩
      have HE9 := Lib.hid (HE8.out.below hb9 (Nat.le_refl _))
      have HI9 := Lib.hid (HI8.out.below hb9 (Nat.le_refl _))
      have HB9 := Lib.hid (HB8.out.trans (hb9.mono HB8.out.size))
      clear hb9 HE8 HI8 HB8 HW8
      have hw10 := fun W (hE : EvsAt W (.slice oa ps.length cap) ps) => (refWinner_any oa cap ps work W hE (by omega) HREM.out).mono (win_post rfl HPD.out)
      have HW10 := Lib.hid hw10
      clear hw10
      go_wp2_with fail
      have hA9 : ∀ o, ((w9.alloc (.cells #[.int .i64 p.mn, .int .i64 p.mx, .int .i64 p.goal, .int .i64 p.slack, .int .i64 p.up, .int .i64 p.down, .int .i64 p.cool] 31)).alloc (.cells #[.int .i64 d.node, .int .i64 d.seq] 29)).cell? ⟨w9.heap.size, o, none⟩ = (#[.int .i64 p.mn, .int .i64 p.mx, .int .i64 p.goal, .int .i64 p.slack, .int .i64 p.up, .int .i64 p.down, .int .i64 p.cool] : Array Value)[o]? := fun o => two_old _ _ _ _ _ _
      have hD9 : ∀ o, ((w9.alloc (.cells #[.int .i64 p.mn, .int .i64 p.mx, .int .i64 p.goal, .int .i64 p.slack, .int .i64 p.up, .int .i64 p.down, .int .i64 p.cool] 31)).alloc (.cells #[.int .i64 d.node, .int .i64 d.seq] 29)).cell? ⟨w9.heap.size + 1, o, none⟩ = (#[.int .i64 d.node, .int .i64 d.seq] : Array Value)[o]? := fun o => two_new _ _ _ _ _ _
      have hb9 : Below w9.heap.size w9 ((w9.alloc (.cells #[.int .i64 p.mn, .int .i64 p.mx, .int .i64 p.goal, .int .i64 p.slack, .int .i64 p.up, .int .i64 p.down, .int .i64 p.cool] 31)).alloc (.cells #[.int .i64 d.node, .int .i64 d.seq] 29)) := ((Below.refl _ _).alloc (Nat.le_refl _) _).alloc (by simp) _
      have hz9 : w9.heap.size + 1 < ((w9.alloc (.cells #[.int .i64 p.mn, .int .i64 p.mx, .int .i64 p.goal, .int .i64 p.slack, .int .i64 p.up, .int .i64 p.down, .int .i64 p.cool] 31)).alloc (.cells #[.int .i64 d.node, .int .i64 d.seq] 29)).heap.size := by simp
      generalize ((w9.alloc (.cells #[.int .i64 p.mn, .int .i64 p.mx, .int .i64 p.goal, .int .i64 p.slack, .int .i64 p.up, .int .i64 p.down, .int .i64 p.cool] 31)).alloc (.cells #[.int .i64 d.node, .int .i64 d.seq] 29)) = w10 at *
      have HE10 := Lib.hid (HE9.out.below hb9 (Nat.le_refl _))
      have HI10 := Lib.hid (HI9.out.below hb9 (Nat.le_refl _))
      have HB10 := Lib.hid (HB9.out.trans (hb9.mono HB9.out.size))
      clear hb9 HE9 HI9 HB9
      generalize w9.heap.size = n9 at *
      refine (HW10.out _ HE10.out).mono ?_
      rintro e w11 ⟨rfl, hb11⟩
      have HE11 := Lib.hid (HE10.out.below hb11 (Nat.le_refl _))
      have HI11 := Lib.hid (HI10.out.below hb11 (Nat.le_refl _))
      have HB11 := Lib.hid (HB10.out.trans (hb11.mono HB10.out.size))
      obtain ⟨hcell, hfr⟩ := bcell hb11
      have hA11 := fun o => (hcell n9 o (by omega)).trans (hA9 o)
      have hD11 := fun o => (hcell (n9 + 1) o hz9).trans (hD9 o)
      have hz11 : n9 + 1 < w11.heap.size := by have := hb11.size; omega
      clear hb11 HE10 HI10 HB10 HW10 hcell hfr hA9 hD9 hz9
      go_wp2_with fail
      have hA12 : ∀ o, ((w11.alloc (.cells #[.int .i64 p.mn, .int .i64 p.mx, .int .i64 p.goal, .int .i64 p.slack, .int .i64 p.up, .int .i64 p.down, .int .i64 p.cool] 31)).alloc (.cells #[.int .i64 d.node, .int .i64 d.seq] 29)).cell? ⟨w11.heap.size, o, none⟩ = (#[.int .i64 p.mn, .int .i64 p.mx, .int .i64 p.goal, .int .i64 p.slack, .int .i64 p.up, .int .i64 p.down, .int .i64 p.cool] : Array Value)[o]? := fun o => two_old _ _ _ _ _ _
      have hD12 : ∀ o, ((w11.alloc (.cells #[.int .i64 p.mn, .int .i64 p.mx, .int .i64 p.goal, .int .i64 p.slack, .int .i64 p.up, .int .i64 p.down, .int .i64 p.cool] 31)).alloc (.cells #[.int .i64 d.node, .int .i64 d.seq] 29)).cell? ⟨w11.heap.size + 1, o, none⟩ = (#[.int .i64 d.node, .int .i64 d.seq] : Array Value)[o]? := fun o => two_new _ _ _ _ _ _
      have hb12 : Below w11.heap.size w11 ((w11.alloc (.cells #[.int .i64 p.mn, .int .i64 p.mx, .int .i64 p.goal, .int .i64 p.slack, .int .i64 p.up, .int .i64 p.down, .int .i64 p.cool] 31)).alloc (.cells #[.int .i64 d.node, .int .i64 d.seq] 29)) := ((Below.refl _ _).alloc (Nat.le_refl _) _).alloc (by simp) _
      have hz12 : w11.heap.size + 1 < ((w11.alloc (.cells #[.int .i64 p.mn, .int .i64 p.mx, .int .i64 p.goal, .int .i64 p.slack, .int .i64 p.up, .int .i64 p.down, .int .i64 p.cool] 31)).alloc (.cells #[.int .i64 d.node, .int .i64 d.seq] 29)).heap.size := by simp
      generalize ((w11.alloc (.cells #[.int .i64 p.mn, .int .i64 p.mx, .int .i64 p.goal, .int .i64 p.slack, .int .i64 p.up, .int .i64 p.down, .int .i64 p.cool] 31)).alloc (.cells #[.int .i64 d.node, .int .i64 d.seq] 29)) = w12 at *
      have HE12 := Lib.hid (HE11.out.below hb12 (Nat.le_refl _))
      have HI12 := Lib.hid (HI11.out.below hb12 (Nat.le_refl _))
      have HB12 := Lib.hid (HB11.out.trans (hb12.mono HB11.out.size))
      obtain ⟨hcell, hfr⟩ := bcell hb12
      have hA11' := fun o => (hcell n9 o (by omega)).trans (hA11 o)
      have hD11' := fun o => (hcell (n9 + 1) o hz11).trans (hD11 o)
      clear hb12 HE11 HI11 HB11 hcell hfr hA11 hD11
      generalize w11.heap.size = n11 at *
      have hw13 := works_any oq cq qs w12 HI12.out (by have := HQL.out; omega)
      rw [HQL.out, HQM.out] at hw13
      have HW13 := Lib.hid hw13
      clear hw13
      go_wp2_with fail
      refine HW13.out.mono ?_
      rintro e w13 ⟨oA, cA, l1, rfl, hi1, hn1, hs1, hb13⟩
      have HE13 := Lib.hid (HE12.out.below hb13 (Nat.le_refl _))
      have HI13 := Lib.hid (HI12.out.below hb13 (Nat.le_refl _))
      have HB13 := Lib.hid (HB12.out.trans (hb13.mono HB12.out.size))
      have HS13 := Lib.hid hs1
      have HI1 := Lib.hid hi1
      have hw14 := refWorks_any oa cap ps w13 HE13.out (by omega)
      have HW14 := Lib.hid hw14
      have HBX := Lib.hid hb13
      clear hw14 hb13 hs1 hi1 HE12 HI12 HB12 HW13
      go_wp2_with fail
      refine HW14.out.mono ?_
      rintro e w14 ⟨oB, cB, l2, rfl, hi2, hn2, hs2, hb14⟩
      obtain rfl : l2 = l1 := hi2.eq HI1.out
      have HE14 := Lib.hid (HE13.out.below hb14 (Nat.le_refl _))
      have HI14 := Lib.hid (HI13.out.below hb14 (Nat.le_refl _))
      have HB14 := Lib.hid (HB13.out.trans (hb14.mono HB13.out.size))
      have HSA := Lib.hid (HS13.out.below icells_len (by decide) hb14 (Nat.le_refl _))
      have HSB := Lib.hid hs2
      obtain ⟨hcell, hfr⟩ := bcell (HBX.out.trans (hb14.mono HBX.out.size))
      have hA14 := fun o => (hcell n9 o (by omega)).trans (hA11' o)
      have hD14 := fun o => (hcell (n9 + 1) o (by omega)).trans (hD11' o)
      have hP14 := fun o => (hcell n11 o (by omega)).trans (hA12 o)
      have hQ14 := fun o => (hcell (n11 + 1) o (by omega)).trans (hD12 o)
      clear hs2 hi2 hb14 HE13 HI13 HB13 HS13 HI1 HBX HW14 hcell hfr hA11' hD11' hA12 hD12 hn2
      go_wp2_with fail
      go_loopg [17, 102] l2.length (fun gk s17 s102 wr => ∃ (i q : Nat), s102 = .int .i64 i ∧ i ≤ l2.length ∧ l2.length - i ≤ gk ∧ wr = w14.drewN q)
      case atStart => exact ⟨0, 0, rfl, Nat.zero_le _, Nat.le_refl _, rfl⟩
      case round =>
        obtain ⟨i, q, rfl, hi, hg, rfl⟩ := hrel
        by_cases hlt : i < l2.length
        · have hltz : (i : Int) < (l2.length : Int) := by omega
          have hsa := HSA.out
          have hsb := HSB.out
          obtain ⟨b1, off1, rfl⟩ := hsa.plain icells_len (by decide) (by intro e; rw [e] at hlt; exact absurd hlt (by simp))
          obtain ⟨b2, off2, rfl⟩ := hsb.plain icells_len (by decide) (by intro e; rw [e] at hlt; exact absurd hlt (by simp))
          have c1 : w14.cell? ⟨b1, off1 + i, none⟩ = some (.int .i64 (l2[i]'hlt)) := by
            have := hsa.cell icells_len (i := i) (c := 0) hlt (by decide)
            simpa [icells] using this
          have c2 : w14.cell? ⟨b2, off2 + i, none⟩ = some (.int .i64 (l2[i]'hlt)) := by
            have := hsb.cell icells_len (i := i) (c := 0) hlt (by decide)
            simpa [icells] using this
          generalize l2[i]'hlt = y at c1 c2
          clear hsa hsb hA14 hD14 hP14 hQ14
          go_wp2_with fail
          go_quiet (fail)
          go_wp2_with fail
          go_roundg (l2.length - (i + 1))
          case measure => omega
          case rel => exact ⟨i + 1, q + nq, by go_num, by omega, Nat.le_refl _, by first | rfl | exact World.drewN_drewN _ _ _⟩
        · have hltz : ¬ (i : Int) < (l2.length : Int) := by omega
          have HB15 := Lib.hid (HB14.out.trans ((below_drewN w14 q).mono HB14.out.size))
          have hE15 := HE14.out.below (below_drewN w14 q) (Nat.le_refl _)
          have hI15 := HI14.out.below (below_drewN w14 q) (Nat.le_refl _)
          have hall2 := all_any oq oa cq cap qs ps (w14.drewN q) hI15 (by rw [HQL.out]; exact hE15) HQM.out (by rw [HQL.out]; omega) HRQ.out
          rw [HQL.out] at hall2
          have HALL2 := Lib.hid hall2
          clear hall2 hE15 hI15 hA14 hD14 hP14 hQ14
          go_wp2_with fail
          refine HALL2.out.mono ?_
          rintro e w16 ⟨rfl, hg16⟩
          have HB16 := Lib.hid (HB15.out.trans (hg16.below.mono HB15.out.size))
          clear hg16 HALL2
          go_wp2_with fail
          go_ret
          exact ⟨rfl, HB16.out⟩
end Go.Proofs.Ytflijljekbihfaa
