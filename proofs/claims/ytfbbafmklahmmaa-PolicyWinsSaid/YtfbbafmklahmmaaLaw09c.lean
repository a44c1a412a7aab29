/-
  The law PolicyWins walked: it returns true, and turns nothing that was there.
-/
import Derived.Test.YtfbbafmklahmmaaUnlike
import Derived.Test.YtfbbafmklahmmaaWin
import Derived.Test.YtfbbafmklahmmaaAlive09
import Derived.Test.YtfbbafmklahmmaaOpenEv
import Derived.Test.YtfbbafmklahmmaaRef07
import Derived.Test.YtfbbafmklahmmaaWinReg
import Derived.Deep.DeepCutAuto
namespace Go.Proofs.Ytfbbafmklahmmaa
open Go.Shelf Go.RowKit Go.Lib Go.Sort
set_option linter.unusedVariables false

/-- what the winner's three values say -/
structure Wins (evs : List Ev) (work : Int) (p : Pol) (d : Dot) (ok : Bool) : Prop where
  val : winV (stSort evLater (evs.filter (isSet work))) = .tuple #[.agg #[.int .i64 p.mn, .int .i64 p.mx, .int .i64 p.goal, .int .i64 p.slack, .int .i64 p.up, .int .i64 p.down, .int .i64 p.cool], .agg #[.int .i64 d.node, .int .i64 d.seq], .bool ok]
  later : unlike evs → ∀ e ∈ evs, isSet work e = true → ∀ f ∈ evs, f.dot = d → e.dot ≠ d → evLater f e = true
  ok : ok = decide (0 < (evs.filter (isSet work)).length)
theorem wins_of (evs : List Ev) (work : Int) : ∃ p d ok, Wins evs work p d ok := by
  cases hl : stSort evLater (evs.filter (isSet work)) with
  | nil =>
    have hn : evs.filter (isSet work) = [] := by
      have := stSort_length (l := evs.filter (isSet work))
      rw [hl] at this
      exact List.eq_nil_of_length_eq_zero this.symm
    refine ⟨⟨0, 0, 0, 0, 0, 0, 0⟩, ⟨0, 0⟩, false, by rw [hl]; rfl, fun _ e he hs => ?_, by rw [hn]; rfl⟩
    have : e ∈ evs.filter (isSet work) := List.mem_filter.2 ⟨he, hs⟩
    rw [hn] at this
    cases this
  | cons W s =>
    refine ⟨W.pol, W.dot, true, by rw [hl]; rfl, fun hu e he hs f hf h1 h2 => ?_, ?_⟩
    · obtain rfl := unlike_eq hu hf (head_mem hl).1 h1
      exact head_later hl he hs h2
    · have := stSort_length (l := evs.filter (isSet work))
      rw [hl] at this
      rw [← this]; simp
theorem beq_false_of {a b : Int} (h : a ≠ b) : (a == b) = false := beq_eq_false_iff_ne.2 h

theorem unlike_succ {ps : List PEv} {i : Nat} {p : PEv} (hp : ps[i]? = some p) (h : unlike ((ps.take i).map (·.2))) (hk : ∀ q ∈ ps.take i, q.2.dot ≠ p.2.dot) : unlike ((ps.take (i + 1)).map (·.2)) := by
  rw [List.take_succ_eq_append_getElem (List.getElem?_eq_some_iff.1 hp).1, (List.getElem?_eq_some_iff.1 hp).2, List.map_append]
  refine List.pairwise_append.2 ⟨h, List.pairwise_singleton _ _, fun a ha b hb => ?_⟩
  obtain ⟨q, hq, rfl⟩ := List.mem_map.1 ha
  obtain rfl : b = p.2 := by simpa using hb
  exact hk q hq
theorem apart_succ {ps : List PEv} {k : Nat} {p : PEv} {d : Dot} (hp : ps[k]? = some p) (h : ∀ q ∈ ps.take k, q.2.dot ≠ d) (hk : p.2.dot ≠ d) : ∀ q ∈ ps.take (k + 1), q.2.dot ≠ d := by
  rw [List.take_succ_eq_append_getElem (List.getElem?_eq_some_iff.1 hp).1, (List.getElem?_eq_some_iff.1 hp).2]
  intro q hq
  rcases List.mem_append.1 hq with hq | hq
  · exact h q hq
  · obtain rfl : q = p := by simpa using hq
    exact hk
theorem filter_succ {ps : List PEv} {i : Nat} {p : PEv} (f : Ev → Bool) (hp : ps[i]? = some p) : (((ps.take (i + 1)).map (·.2)).filter f).length = (((ps.take i).map (·.2)).filter f).length + (if f p.2 then 1 else 0) := by
  rw [take_filter f ps i p hp, List.length_append]
  split <;> rfl

set_option maxRecDepth 100000 in
set_option maxHeartbeats 8000000 in
theorem lawWins (oa : Option Addr) (cap : Nat) (ps : List PEv) (work turn : Int) (w : World) (h : EvsAt w (.slice oa ps.length cap) ps) (hl : ps.length ≤ 1099511627776) (hf : ∀ p ∈ ps, p.2.fits) (ht0 : 0 ≤ turn) (ht1 : turn ≤ 255) :
    Calls Try.prog 8 #[.slice oa ps.length cap, .int .i64 work, .int .u8 turn] w fun e w' => e = .returned (.bool true) ∧ RowKit.Below w.heap.size w w' := by
  have HE := Lib.hid h
  have AL := Lib.hid alive09
  have hgr := fun W (hE : EvsAt W (.slice oa ps.length cap) ps) => great_any oa cap ps W hE hl (fun p hp => (hf p hp).2.2.2.2.2.2.2)
  have HGR := Lib.hid hgr
  clear h hgr hf
  go_enter Try.func8, Try.ntmps8
  go_wp2_with fail
  refine (AL.out _).mono ?_
  rintro e w1 ⟨rfl, hb1⟩
  have HE2 := Lib.hid (HE.out.below hb1 (Nat.le_refl _))
  have HB2 := Lib.hid hb1
  clear hb1
  go_wp2_with fail
  refine (HGR.out _ HE2.out).mono ?_
  rintro e w3 ⟨rfl, hb3⟩
  have HE3 := Lib.hid (HE2.out.below hb3 (Nat.le_refl _))
  have HB3 := Lib.hid (HB2.out.trans (hb3.mono HB2.out.size))
  clear hb3 HE2 HB2
  by_cases hbk : 3000 < bulk (ps.map (·.2))
  · rw [decide_eq_true hbk]
    go_wp2_with fail
    go_ret
    exact ⟨rfl, HB3.out⟩
  rw [decide_eq_false hbk]
  by_cases h60 : (60 : Int) < (ps.length : Int)
  · go_wp2_with fail
    go_ret
    exact ⟨rfl, HB3.out⟩
  have hpl : ps.length ≤ 60 := by omega
  have hrem : ∀ p ∈ ps, p.2.rem.length ≤ 1000000 := fun p hp => by
    have := bulk_mem (ps.map (·.2)) p.2 (List.mem_map_of_mem hp)
    omega
  have HREM := Lib.hid hrem
  have hcap : ps.length ≤ cap := by
    obtain ⟨_, _, hv, hc⟩ := HE3.out.1.slice_of
    simp only [Value.slice.injEq] at hv
    omega
  clear hrem hbk
  go_wp2_with fail
  go_loopg [7, 32] ps.length (fun gk s7 s45 wr => ∃ (i q : Nat), s45 = .int .i64 i ∧ i ≤ ps.length ∧ ps.length - i ≤ gk ∧ wr = w3.drewN q ∧ Hid (unlike ((ps.take i).map (·.2))))
  case atStart => exact ⟨0, 0, rfl, Nat.zero_le _, Nat.le_refl _, rfl, by show unlike _; simp [unlike]⟩
  case round =>
    obtain ⟨i, q, rfl, hi, hg, rfl, HU⟩ := hrel
    by_cases hlt : i < ps.length
    · have hltz : (i : Int) < (ps.length : Int) := by omega
      have hcap0 : ¬ cap = 0 := by omega
      obtain ⟨b, off, rfl⟩ := HE3.out.1.plain pcells_len (by decide) (by intro e; rw [e] at hlt; exact absurd hlt (by simp))
      obtain ⟨ra, rn, rc, ev, hp, c0, c1, c2, c3, c4, c5, c6, c7, c8, c9, c10, c11, c12, c13⟩ := HE3.out.1.ev i hlt
      have HP := Lib.hid hp
      clear hp
      have hicap : i ≤ cap := by omega
      go_wp2_with fail
      go_loopg [8, 39] i (fun gk2 s8 s52 wr => ∃ (k q2 : Nat), s52 = .int .i64 k ∧ k ≤ i ∧ i - k ≤ gk2 ∧ wr = w3.drewN q2 ∧ Hid (∀ q ∈ ps.take k, q.2.dot ≠ ev.dot))
      case atStart => exact ⟨0, q, rfl, Nat.zero_le _, Nat.le_refl _, rfl, by show ∀ q ∈ ps.take 0, _; simp⟩
      case round =>
        obtain ⟨k, q2, rfl, hk, hg2, rfl, HN⟩ := hrel
        by_cases hlk : k < i
        · have hlkz : (k : Int) < (i : Int) := by omega
          have hkl : k < ps.length := by omega
          have hklz : (k : Int) < (ps.length : Int) := by omega
          obtain ⟨ra2, rn2, rc2, ev2, hp2, d0, d1, d2, d3, d4, d5, d6, d7, d8, d9, d10, d11, d12, d13⟩ := HE3.out.1.ev k hkl
          have HP2 := Lib.hid hp2
          clear hp2
          by_cases e1 : (ev.dot.node == ev2.dot.node) = true
          · by_cases e2 : (ev.dot.seq == ev2.dot.seq) = true
            · go_wp2_with fail
              go_quiet (fail)
              go_wp2_with fail
              go_ret
              exact ⟨rfl, (HB3.out.trans ((below_drewN w3 q2).mono HB3.out.size)).trans ((below_drewN _ nq).mono HB3.out.size)⟩
            · have e2' : (ev.dot.seq == ev2.dot.seq) = false := by simpa using e2
              have hne : Hid (ev2.dot ≠ ev.dot) := fun h => by rw [h] at e2'; simp at e2'
              clear e2
              go_wp2_with fail
              go_quiet (fail)
              go_wp2_with fail
              go_roundg (i - (k + 1))
              case measure => omega
              case rel => exact ⟨k + 1, q2 + nq, by go_num, by omega, Nat.le_refl _, rfl, apart_succ HP2.out HN.out hne.out⟩
          · have e1' : (ev.dot.node == ev2.dot.node) = false := by simpa using e1
            have hne : Hid (ev2.dot ≠ ev.dot) := fun h => by rw [h] at e1'; simp at e1'
            clear e1
            go_wp2_with fail
            go_quiet (fail)
            go_wp2_with fail
            go_roundg (i - (k + 1))
            case measure => omega
            case rel => exact ⟨k + 1, q2 + nq, by go_num, by omega, Nat.le_refl _, rfl, apart_succ HP2.out HN.out hne.out⟩
        · have hlkz : ¬ (k : Int) < (i : Int) := by omega
          obtain rfl : k = i := by omega
          go_wp2_with fail
          go_roundg (ps.length - (k + 1))
          case measure => omega
          case rel => exact ⟨k + 1, q2, by go_num, by omega, Nat.le_refl _, rfl, unlike_succ HP.out HU.out HN.out⟩
    · have hltz : ¬ (i : Int) < (ps.length : Int) := by omega
      obtain rfl : i = ps.length := by omega
      go_wp2_with fail
      have hU : unlike (ps.map (·.2)) := by have := HU.out; rwa [List.take_length] at this
      have HUA := Lib.hid hU
      have hb4 : RowKit.Below w.heap.size w (w3.drewN q) := HB3.out.trans ((below_drewN w3 _).mono HB3.out.size)
      have HE4 := Lib.hid (HE3.out.below (below_drewN w3 q) (Nat.le_refl _))
      have HB4 := Lib.hid hb4
      clear hU hb4 HU HE3 HB3
      generalize w3.drewN q = w4 at *
      have hw := fun W (hE : EvsAt W (.slice oa ps.length cap) ps) => winner_any oa cap ps work W hE (by omega) HREM.out
      have HW := Lib.hid hw
      clear hw
      obtain ⟨p, d, ok, hwins⟩ := wins_of (ps.map (·.2)) work
      have HWINS := Lib.hid hwins
      clear hwins
      refine (HW.out _ HE4.out).mono ?_
      rintro e w5 ⟨l5, hst5, rfl, hb5⟩
      have hl5 : winV l5 = .tuple #[.agg #[.int .i64 p.mn, .int .i64 p.mx, .int .i64 p.goal, .int .i64 p.slack, .int .i64 p.up, .int .i64 p.down, .int .i64 p.cool], .agg #[.int .i64 d.node, .int .i64 d.seq], .bool ok] := by
        rw [stSort_eq swo_evLater' hst5]
        exact HWINS.out.val
      have HE5 := Lib.hid (HE4.out.below hb5 (Nat.le_refl _))
      have HB5 := Lib.hid (HB4.out.trans (hb5.mono HB4.out.size))
      rw [hl5]
      clear hb5 HE4 HB4 HW hst5 hl5
      go_wp2_with fail
      have hA : ∀ o, ((w5.alloc (.cells #[.int .i64 p.mn, .int .i64 p.mx, .int .i64 p.goal, .int .i64 p.slack, .int .i64 p.up, .int .i64 p.down, .int .i64 p.cool] 43)).alloc (.cells #[.int .i64 d.node, .int .i64 d.seq] 41)).cell? ⟨w5.heap.size, o, none⟩ = (#[.int .i64 p.mn, .int .i64 p.mx, .int .i64 p.goal, .int .i64 p.slack, .int .i64 p.up, .int .i64 p.down, .int .i64 p.cool] : Array Value)[o]? := fun o => by
        unfold World.cell?
        rw [Below.heap_alloc _ _ _ (by simp), heap_alloc_new]
        rfl
      have hD : ∀ o, ((w5.alloc (.cells #[.int .i64 p.mn, .int .i64 p.mx, .int .i64 p.goal, .int .i64 p.slack, .int .i64 p.up, .int .i64 p.down, .int .i64 p.cool] 43)).alloc (.cells #[.int .i64 d.node, .int .i64 d.seq] 41)).cell? ⟨w5.heap.size + 1, o, none⟩ = (#[.int .i64 d.node, .int .i64 d.seq] : Array Value)[o]? := fun o => by
        unfold World.cell?
        rw [show w5.heap.size + 1 = (w5.alloc (.cells #[.int .i64 p.mn, .int .i64 p.mx, .int .i64 p.goal, .int .i64 p.slack, .int .i64 p.up, .int .i64 p.down, .int .i64 p.cool] 43)).heap.size from (World.size_alloc _ _).symm, heap_alloc_new]
        rfl
      have hz : w5.heap.size + 1 < ((w5.alloc (.cells #[.int .i64 p.mn, .int .i64 p.mx, .int .i64 p.goal, .int .i64 p.slack, .int .i64 p.up, .int .i64 p.down, .int .i64 p.cool] 43)).alloc (.cells #[.int .i64 d.node, .int .i64 d.seq] 41)).heap.size := by simp
      have hbA : RowKit.Below w5.heap.size w5 ((w5.alloc (.cells #[.int .i64 p.mn, .int .i64 p.mx, .int .i64 p.goal, .int .i64 p.slack, .int .i64 p.up, .int .i64 p.down, .int .i64 p.cool] 43)).alloc (.cells #[.int .i64 d.node, .int .i64 d.seq] 41)) := ((RowKit.Below.refl _ _).alloc (Nat.le_refl _) _).alloc (by simp) _
      generalize ((w5.alloc (.cells #[.int .i64 p.mn, .int .i64 p.mx, .int .i64 p.goal, .int .i64 p.slack, .int .i64 p.up, .int .i64 p.down, .int .i64 p.cool] 43)).alloc (.cells #[.int .i64 d.node, .int .i64 d.seq] 41)) = wA at *
      have HEA := Lib.hid (HE5.out.below hbA (Nat.le_refl _))
      have HBA := Lib.hid (HB5.out.trans (hbA.mono HB5.out.size))
      clear hbA HE5 HB5
      generalize w5.heap.size = n0 at *
      go_loopg [12, 64] ps.length (fun gk s12 s64 wr => ∃ (i : Nat), s64 = .int .i64 i ∧ s12 = .int .i64 ((((ps.take i).map (·.2)).filter (isSet work)).length : Nat) ∧ i ≤ ps.length ∧ ps.length - i ≤ gk ∧ Hid (RowKit.Below wA.heap.size wA wr))
      case atStart => exact ⟨0, rfl, rfl, Nat.zero_le _, Nat.le_refl _, RowKit.Below.refl _ _⟩
      case round =>
        obtain ⟨i, rfl, rfl, hi, hg, HB⟩ := hrel
        by_cases hlt : i < ps.length
        · have hltz : (i : Int) < (ps.length : Int) := by omega
          have hsl : SlAt pcells wr (.slice oa ps.length cap) ps := HEA.out.1.below pcells_len (by decide) HB.out (Nat.le_refl _)
          obtain ⟨b, off, rfl⟩ := slAt_some hsl i hlt
          obtain ⟨ra, rn, rc, ev, hp, c0, c1, c2, c3, c4, c5, c6, c7, c8, c9, c10, c11, c12, c13⟩ := hsl.ev i hlt
          have hmem : ev ∈ ps.map (·.2) := List.mem_map.2 ⟨_, List.mem_of_getElem? hp, rfl⟩
          have hfl := filter_succ (isSet work) hp
          simp only at hfl
          have hci : (((ps.take i).map (·.2)).filter (isSet work)).length ≤ 60 := Nat.le_trans (List.length_filter_le _ _) (by simp only [List.length_map, List.length_take]; omega)
          have HMEM := Lib.hid hmem
          have HFL := Lib.hid hfl
          generalize (((ps.take i).map (·.2)).filter (isSet work)).length = ci at *
          generalize hcj : (((ps.take (i + 1)).map (·.2)).filter (isSet work)).length = cj at *
          have HCJ := Lib.hid hcj
          clear hsl hp hmem hfl hcj
          by_cases hs : isSet work ev = true
          · have hs' := hs
            simp only [isSet, Bool.and_eq_true, beq_iff_eq] at hs'
            obtain ⟨hk, hw⟩ := hs'
            have hk2 : (ev.kind != 2) = false := by rw [bne_eq_false_iff_eq]; exact hk
            have hw2 : (ev.work != work) = false := by rw [bne_eq_false_iff_eq]; exact hw
            have hcj1 : cj = ci + 1 := by have := HFL.out; rw [if_pos hs] at this; exact this
            have HS := Lib.hid hs
            clear hs hk hw
            go_wp2_with fail
            have hA2 := cells_kept (HB.out.alloc HB.out.size (.cells #[.int .i64 ev.dot.node, .int .i64 ev.dot.seq, .int .i64 ev.time, .int .i64 ev.kind, .int .i64 ev.work, .int .i64 ev.value, .int .i64 ev.pol.mn, .int .i64 ev.pol.mx, .int .i64 ev.pol.goal, .int .i64 ev.pol.slack, .int .i64 ev.pol.up, .int .i64 ev.pol.down, .int .i64 ev.pol.cool, .slice ra rn rc] 46)) (by omega) hA
            have hD2 := cells_kept (HB.out.alloc HB.out.size (.cells #[.int .i64 ev.dot.node, .int .i64 ev.dot.seq, .int .i64 ev.time, .int .i64 ev.kind, .int .i64 ev.work, .int .i64 ev.value, .int .i64 ev.pol.mn, .int .i64 ev.pol.mx, .int .i64 ev.pol.goal, .int .i64 ev.pol.slack, .int .i64 ev.pol.up, .int .i64 ev.pol.down, .int .i64 ev.pol.cool, .slice ra rn rc] 46)) (by omega) hD
            have hE2 : ∀ o, (wr.alloc (.cells #[.int .i64 ev.dot.node, .int .i64 ev.dot.seq, .int .i64 ev.time, .int .i64 ev.kind, .int .i64 ev.work, .int .i64 ev.value, .int .i64 ev.pol.mn, .int .i64 ev.pol.mx, .int .i64 ev.pol.goal, .int .i64 ev.pol.slack, .int .i64 ev.pol.up, .int .i64 ev.pol.down, .int .i64 ev.pol.cool, .slice ra rn rc] 46)).cell? ⟨wr.heap.size, o, none⟩ = (#[.int .i64 ev.dot.node, .int .i64 ev.dot.seq, .int .i64 ev.time, .int .i64 ev.kind, .int .i64 ev.work, .int .i64 ev.value, .int .i64 ev.pol.mn, .int .i64 ev.pol.mx, .int .i64 ev.pol.goal, .int .i64 ev.pol.slack, .int .i64 ev.pol.up, .int .i64 ev.pol.down, .int .i64 ev.pol.cool, .slice ra rn rc] : Array Value)[o]? := fun o => by unfold World.cell?; rw [heap_alloc_new]; rfl
            have hzb : wr.heap.size < (wr.alloc (.cells #[.int .i64 ev.dot.node, .int .i64 ev.dot.seq, .int .i64 ev.time, .int .i64 ev.kind, .int .i64 ev.work, .int .i64 ev.value, .int .i64 ev.pol.mn, .int .i64 ev.pol.mx, .int .i64 ev.pol.goal, .int .i64 ev.pol.slack, .int .i64 ev.pol.up, .int .i64 ev.pol.down, .int .i64 ev.pol.cool, .slice ra rn rc] 46)).heap.size := by simp
            have hbw := HB.out.alloc HB.out.size (.cells #[.int .i64 ev.dot.node, .int .i64 ev.dot.seq, .int .i64 ev.time, .int .i64 ev.kind, .int .i64 ev.work, .int .i64 ev.value, .int .i64 ev.pol.mn, .int .i64 ev.pol.mx, .int .i64 ev.pol.goal, .int .i64 ev.pol.slack, .int .i64 ev.pol.up, .int .i64 ev.pol.down, .int .i64 ev.pol.cool, .slice ra rn rc] 46)
            have hzw := HB.out.size
            generalize wr.alloc (.cells #[.int .i64 ev.dot.node, .int .i64 ev.dot.seq, .int .i64 ev.time, .int .i64 ev.kind, .int .i64 ev.work, .int .i64 ev.value, .int .i64 ev.pol.mn, .int .i64 ev.pol.mx, .int .i64 ev.pol.goal, .int .i64 ev.pol.slack, .int .i64 ev.pol.up, .int .i64 ev.pol.down, .int .i64 ev.pol.cool, .slice ra rn rc] 46) = wb at *
            have HBW := Lib.hid hbw
            have hzw2 := hbw.size
            clear hbw c0 c1 c2 c3 c4 c5 c6 c7 c8 c9 c10 c11 c12 c13 HB
            generalize wr.heap.size = n1 at *
            go_loopg [81] ps.length (fun gk2 s81 wr => ∃ (k : Nat), s81 = .int .i64 k ∧ k ≤ ps.length ∧ ps.length - k ≤ gk2 ∧ Hid (RowKit.Below wb.heap.size wb wr))
            case atStart => exact ⟨0, rfl, Nat.zero_le _, Nat.le_refl _, RowKit.Below.refl _ _⟩
            case round =>
              obtain ⟨k, rfl, hk, hgk, HB2⟩ := hrel
              by_cases hlk : k < ps.length
              · have hlkz : (k : Int) < (ps.length : Int) := by omega
                have hsl2 : SlAt pcells wr (.slice (some ⟨b, off, none⟩) ps.length cap) ps := HEA.out.1.below pcells_len (by decide) (HBW.out.trans (HB2.out.mono hzw2)) (Nat.le_refl _)
                obtain ⟨ra2, rn2, rc2, ev2, hp2, d0, d1, d2, d3, d4, d5, d6, d7, d8, d9, d10, d11, d12, d13⟩ := hsl2.ev k hlk
                have hmem2 : ev2 ∈ ps.map (·.2) := List.mem_map.2 ⟨_, List.mem_of_getElem? hp2, rfl⟩
                have HMEM2 := Lib.hid hmem2
                have hA3 := cells_kept HB2.out (by omega) hA2
                have hD3 := cells_kept HB2.out (by omega) hD2
                have hE3 := cells_kept HB2.out hzb hE2
                have hz3 := HB2.out.size
                have hzn : n0 + 1 < wr.heap.size := by omega
                have hzn0 : n0 < wr.heap.size := by omega
                have hzn1 : n1 < wr.heap.size := by omega
                clear hsl2 hp2 hmem2 hA2 hD2 hE2 hA hD
                have hb3 : ∀ o, RowKit.Below wb.heap.size wb (wr.alloc o) := fun o => HB2.out.alloc HB2.out.size o
                have HB3 := Lib.hid hb3
                clear hb3
                by_cases f1 : (ev2.dot.node == d.node) = true
                · by_cases f2 : (ev2.dot.seq == d.seq) = true
                  · by_cases g1 : (ev.dot.node == d.node) = true
                    · by_cases g2 : (ev.dot.seq == d.seq) = true
                      · go_wp2_with fail
                        go_roundg (ps.length - (k + 1))
                        case measure => omega
                        case rel => exact ⟨k + 1, by go_num, by omega, Nat.le_refl _, HB3.out _⟩
                      · have g2' : (ev.dot.seq == d.seq) = false := by simpa using g2
                        have hlat : evLater ev2 ev = true := HWINS.out.later HUA.out ev HMEM.out HS.out ev2 HMEM2.out (dot_ext (by simpa using f1) (by simpa using f2)) (fun h => by rw [h] at g2'; simp at g2')
                        have hla := later_any (⟨ra2, rn2, rc2⟩, ev2) (⟨ra, rn, rc⟩, ev)
                        simp only at hla
                        rw [hlat] at hla
                        have HLA := Lib.hid hla
                        clear g2 hla hlat
                        go_wp2_with fail
                        refine (HLA.out _).mono ?_
                        rintro e w8 ⟨rfl, hg8⟩
                        have HB8 := Lib.hid ((HB3.out _).trans (hg8.below.mono (HB3.out _).size))
                        clear hg8 HLA
                        go_wp2_with fail
                        go_roundg (ps.length - (k + 1))
                        case measure => omega
                        case rel => exact ⟨k + 1, by go_num, by omega, Nat.le_refl _, HB8⟩
                    · have g1' : (ev.dot.node == d.node) = false := by simpa using g1
                      have hlat : evLater ev2 ev = true := HWINS.out.later HUA.out ev HMEM.out HS.out ev2 HMEM2.out (dot_ext (by simpa using f1) (by simpa using f2)) (fun h => by rw [h] at g1'; simp at g1')
                      have hla := later_any (⟨ra2, rn2, rc2⟩, ev2) (⟨ra, rn, rc⟩, ev)
                      simp only at hla
                      rw [hlat] at hla
                      have HLA := Lib.hid hla
                      clear g1 hla hlat
                      go_wp2_with fail
                      refine (HLA.out _).mono ?_
                      rintro e w8 ⟨rfl, hg8⟩
                      have HB8 := Lib.hid ((HB3.out _).trans (hg8.below.mono (HB3.out _).size))
                      clear hg8 HLA
                      go_wp2_with fail
                      go_roundg (ps.length - (k + 1))
                      case measure => omega
                      case rel => exact ⟨k + 1, by go_num, by omega, Nat.le_refl _, HB8⟩
                  · have f2' : (ev2.dot.seq == d.seq) = false := by simpa using f2
                    clear f2
                    go_wp2_with fail
                    go_roundg (ps.length - (k + 1))
                    case measure => omega
                    case rel => exact ⟨k + 1, by go_num, by omega, Nat.le_refl _, HB3.out _⟩
                · have f1' : (ev2.dot.node == d.node) = false := by simpa using f1
                  clear f1
                  go_wp2_with fail
                  go_roundg (ps.length - (k + 1))
                  case measure => omega
                  case rel => exact ⟨k + 1, by go_num, by omega, Nat.le_refl _, HB3.out _⟩
              · have hlkz : ¬ (k : Int) < (ps.length : Int) := by omega
                obtain rfl : k = ps.length := by omega
                go_wp2_with fail
                go_roundg (ps.length - (i + 1))
                case measure => omega
                case rel => exact ⟨i + 1, by go_num, by rw [HCJ.out, hcj1]; rfl, by omega, Nat.le_refl _, HBW.out.trans (HB2.out.mono hzw2)⟩
          · have hs0 : isSet work ev = false := by simpa using hs
            have hd : ((ev.kind != 2) = true) ∨ ((ev.kind != 2) = false ∧ (ev.work != work) = true) := by
              unfold isSet at hs0
              simp only [bne, Bool.not_eq_true', Bool.not_eq_false']
              cases h1 : (ev.kind == 2) <;> cases h2 : (ev.work == work) <;> simp [h1, h2] at hs0 ⊢
            have hcj1 : cj = ci := by have := HFL.out; rw [if_neg hs] at this; exact this
            clear hs hs0
            rcases hd with h1 | ⟨h1, h2⟩
            all_goals
              go_wp2_with fail
              go_roundg (ps.length - (i + 1))
              case measure => omega
              case rel => exact ⟨i + 1, by go_num, by rw [HCJ.out, hcj1], by omega, Nat.le_refl _, HB.out.alloc HB.out.size _⟩
        · have hltz : ¬ (i : Int) < (ps.length : Int) := by omega
          obtain rfl : i = ps.length := by omega
          have hA2 := cells_kept HB.out (by omega) hA
          have hD2 := cells_kept HB.out (by omega) hD
          have hzr : n0 + 1 < wr.heap.size := by have := HB.out.size; omega
          have HER := Lib.hid (HEA.out.below HB.out (Nat.le_refl _))
          have HBR := Lib.hid (HBA.out.trans (HB.out.mono HBA.out.size))
          have htl : ((ps.take ps.length).map (·.2)).filter (isSet work) = (ps.map (·.2)).filter (isSet work) := by rw [List.take_length]
          rw [htl]
          have hok := HWINS.out.ok
          obtain ⟨cnt, hcn⟩ : ∃ cnt, cnt = ((ps.map (·.2)).filter (isSet work)).length := ⟨_, rfl⟩
          rw [← hcn] at hok ⊢
          have hst := fun W (hE : EvsAt W (.slice oa ps.length cap) ps) => sets_any oa cap ps work W hE (by omega) HREM.out
          have HST := Lib.hid hst
          have HCN := Lib.hid hcn
          clear hA hD HB HEA HBA htl hst hcn
          go_upto_region 29 with fail
          go_cut [114] (fun s114 wx => s114 = .bool false ∧ Hid (RowKit.Below wr.heap.size wr wx))
          case first =>
            by_cases hc : 0 < cnt
            · have hcz : (0 : Int) < (cnt : Int) := by omega
              rw [decide_eq_true hc] at hok
              subst hok
              go_wp2_with fail
              refine (HST.out _ HER.out).mono ?_
              rintro e w8 ⟨v8, q8, rfl, hst8, hacc8, hb8⟩
              have hlen8 : q8.length = cnt := by
                have := congrArg List.length (stSort_eq swo_evLater' hst8)
                rwa [List.length_map, stSort_length, ← HCN.out] at this
              obtain ⟨o8, c8, hv8⟩ := slAt_slice hacc8.row.at
              rw [hlen8] at hv8
              subst hv8
              have HB8 := Lib.hid hb8
              clear hlen8 hst8 hacc8 hb8
              go_wp2_with fail
              go_meet
              exact ⟨rfl, HB8⟩
            · have hcz : ¬ (0 : Int) < (cnt : Int) := by omega
              rw [decide_eq_false hc] at hok
              subst hok
              go_wp2_with fail
              refine (HST.out _ HER.out).mono ?_
              rintro e w8 ⟨v8, q8, rfl, hst8, hacc8, hb8⟩
              have hlen8 : q8.length = cnt := by
                have := congrArg List.length (stSort_eq swo_evLater' hst8)
                rwa [List.length_map, stSort_length, ← HCN.out] at this
              obtain ⟨o8, c8, hv8⟩ := slAt_slice hacc8.row.at
              rw [hlen8] at hv8
              subst hv8
              have HB8 := Lib.hid hb8
              clear hlen8 hst8 hacc8 hb8
              go_wp2_with fail
              go_meet
              exact ⟨rfl, HB8⟩
          case rest =>
            obtain ⟨rfl, HB29⟩ := hcut
            have hA3 := cells_kept HB29.out (by omega) hA2
            have hD3 := cells_kept HB29.out (by omega) hD2
            have hzc : n0 + 1 < wc.heap.size := by have := HB29.out.size; omega
            have HEC := Lib.hid (HER.out.below HB29.out (Nat.le_refl _))
            have HBC := Lib.hid (HBR.out.trans (HB29.out.mono HBR.out.size))
            clear hA2 hD2 HER HBR HB29 HST HCN hok hzr hz
            by_cases hn0 : ((ps.length : Int) == 0) = true
            · go_wp2_with fail
              go_ret
              exact ⟨rfl, HBC.out⟩
            have hn0' : ((ps.length : Int) == 0) = false := by simpa using hn0
            have hn1 : 1 ≤ ps.length := by have hq := hn0'; rw [beq_eq_false_iff_ne] at hq; omega
            obtain ⟨at', hat⟩ : ∃ at' : Nat, turn % (ps.length : Int) = (at' : Int) := ⟨(turn % (ps.length : Int)).toNat, (Int.toNat_of_nonneg (Int.emod_nonneg _ (by omega))).symm⟩
            have hatl : at' < ps.length := by
              have := Int.emod_lt_of_pos turn (show (0 : Int) < (ps.length : Int) by omega)
              omega
            have hatz : (at' : Int) < (ps.length : Int) := by omega
            have hatle : at' ≤ ps.length := by omega
            have hatc : ¬ cap = at' := by omega
            have hatc2 : at' ≤ cap := by omega
            have hcap0 : ¬ cap = 0 := by omega
            obtain ⟨b, off, rfl⟩ := HEC.out.1.plain pcells_len (by decide) (by intro e; rw [e] at hn1; exact absurd hn1 (by simp))
            clear hn0
            go_wp2_with fail
            have hdl : (ps.drop at').length = ps.length - at' := List.length_drop
            have htl : (ps.take at').length = at' := by rw [List.length_take]; omega
            have hED : ∀ W, RowKit.Below wc.heap.size wc W → EvsAt W (.slice (some ⟨b, off + at' * 14, none⟩) (ps.drop at').length (cap - at')) (ps.drop at') := fun W hW => by
              have h := HEC.out.sub at' ps.length (by omega) (Nat.le_refl _)
              unfold sliced at h
              rw [if_neg hatc, List.take_length] at h
              simp only [Option.map_some, Addr.add_lit] at h
              rw [hdl]
              exact h.below hW (Nat.le_refl _)
            have hET : SlAt pcells wc (.slice (some ⟨b, off, none⟩) at' cap) (ps.take at') := by
              have h := HEC.out.1.sub pcells_len (by decide) 0 at' (Nat.zero_le _) (by omega)
              unfold sliced at h
              rw [if_neg hcap0, List.drop_zero] at h
              simp only [Option.map_some, Addr.add_lit, Nat.zero_mul, Nat.add_zero, Nat.sub_zero] at h
              exact h
            have HED := Lib.hid hED
            have HET := Lib.hid hET
            clear hED hET
            go_cut [18, 19, 20] (fun s18 s19 s20 wx => ∃ g1 g2, s18 = .pointer (some ⟨g1, 0, none⟩) ∧ s19 = .pointer (some ⟨g2, 0, none⟩) ∧ s20 = .bool ok ∧ Hid (∀ o, wx.cell? ⟨g1, o, none⟩ = (#[.int .i64 p.mn, .int .i64 p.mx, .int .i64 p.goal, .int .i64 p.slack, .int .i64 p.up, .int .i64 p.down, .int .i64 p.cool] : Array Value)[o]?) ∧ Hid (∀ o, wx.cell? ⟨g2, o, none⟩ = (#[.int .i64 d.node, .int .i64 d.seq] : Array Value)[o]?) ∧ Hid (RowKit.Below wc.heap.size wc wx))
            case rest =>
              obtain ⟨g1, g2, rfl, rfl, rfl, HG1, HG2, HB34⟩ := hcut
              have hA4 := cells_kept HB34.out (by omega) hA3
              have hD4 := cells_kept HB34.out (by omega) hD3
              have hG1 := HG1.out
              have hG2 := HG2.out
              go_wp2_with fail
              go_ret
              exact ⟨rfl, HBC.out.trans (HB34.out.mono HBC.out.size)⟩
            case first =>
              generalize hact : Act.mk _ _ = act
              have s0 : act.eval (.tmp 0) = .slice (some ⟨b, off, none⟩) ps.length cap := by rw [← hact]; rfl
              have s1 : act.eval (.tmp 1) = .int .i64 work := by rw [← hact]; rfl
              have s17 : act.eval (.tmp 17) = .int .i64 at' := by rw [← hact]; rfl
              have hsz : act.tmps.size = 150 := by rw [← hact]; rfl
              obtain ⟨K, hK⟩ : ∃ K : List (Nat × Nat × Value), K = [(0, 124, .slice (some ⟨b, off, none⟩) ps.length cap), (1, 125, .int .i64 at'), (2, 126, .slice (some ⟨b, off + at' * 14, none⟩) (ps.length - at') (cap - at')), (4, 128, .slice (some ⟨b, off, none⟩) ps.length cap), (5, 129, .int .i64 at'), (6, 130, .slice (some ⟨b, off, none⟩) at' cap), (8, 132, .int .i64 work), (9, 133, .tuple #[.agg #[.int .i64 p.mn, .int .i64 p.mx, .int .i64 p.goal, .int .i64 p.slack, .int .i64 p.up, .int .i64 p.down, .int .i64 p.cool], .agg #[.int .i64 d.node, .int .i64 d.seq], .bool ok]), (10, 123, .tuple #[.agg #[.int .i64 p.mn, .int .i64 p.mx, .int .i64 p.goal, .int .i64 p.slack, .int .i64 p.up, .int .i64 p.down, .int .i64 p.cool], .agg #[.int .i64 d.node, .int .i64 d.seq], .bool ok]), (11, 134, .agg #[.int .i64 p.mn, .int .i64 p.mx, .int .i64 p.goal, .int .i64 p.slack, .int .i64 p.up, .int .i64 p.down, .int .i64 p.cool]), (12, 135, .agg #[.int .i64 d.node, .int .i64 d.seq]), (13, 136, .bool ok), (18, 20, .bool ok)] := ⟨_, rfl⟩
              obtain ⟨dse, hds⟩ : ∃ dse, dse = (ps.drop at').map (·.2) := ⟨_, rfl⟩
              obtain ⟨E', hE'⟩ : ∃ E', E' = (ps.drop at').map (·.2) ++ (ps.take at').map (·.2) := ⟨_, rfl⟩
              have hEl : E'.length = ps.length := by rw [hE', List.length_append, List.length_map, List.length_map, hdl, htl]; omega
              have hEw : stSort evLater (E'.filter (isSet work)) = stSort evLater ((ps.map (·.2)).filter (isSet work)) := by
                have hu := HUA.out
                rw [← List.take_append_drop at' ps, List.map_append] at hu ⊢
                rw [hE']
                exact stSort_turn _ hu
              have hEr : ∀ e ∈ E', e.rem.length ≤ 1000000 := fun e he => by
                rw [hE', ← List.map_append] at he
                obtain ⟨z, hz, rfl⟩ := List.mem_map.1 he
                rcases List.mem_append.1 hz with hz | hz
                · exact HREM.out z (List.mem_of_mem_drop hz)
                · exact HREM.out z (List.mem_of_mem_take hz)
              have hwv := HWINS.out.val
              rw [← hEw] at hwv
              have HWV := Lib.hid hwv
              have HER := Lib.hid hEr
              have HEL := Lib.hid hEl
              have HDS := Lib.hid hds
              have HEE := Lib.hid hE'
              clear hwv hEr hEl hds hE' hEw
              refine wp_region_inv (by kernel_rfl) (fun L a' w' => L.size = 19 ∧ Ag [18, 19, 20, 123, 124, 125, 126, 127, 128, 129, 130, 131, 132, 133, 134, 135, 136] act a' ∧ Knows K L a' ∧ WinReg wc 46 41 43 (ps.length - at') dse E' #[.int .i64 0, .int .i64 0, .int .i64 0, .int .i64 0, .int .i64 0, .int .i64 0, .int .i64 0] #[.int .i64 p.mn, .int .i64 p.mx, .int .i64 p.goal, .int .i64 p.slack, .int .i64 p.up, .int .i64 p.down, .int .i64 p.cool] #[.int .i64 0, .int .i64 0] #[.int .i64 d.node, .int .i64 d.seq] (L.getD 3 false) (L.getD 7 false) (L.getD 9 false) (L.getD 14 false) (L.getD 15 false) (L.getD 16 false) (L.getD 17 false) (a'.eval (.tmp 127)) (a'.eval (.tmp 131)) (a'.eval (.tmp 18)) (a'.eval (.tmp 19)) w') ?init ?step ?fin
              case init => exact ⟨rfl, Ag.refl _ _, Knows.none _ _ _, WinReg.start _ _ _ _⟩
              case step =>
                intro L a' w' i hi hI
                obtain ⟨hL, hag, hk, hJ⟩ := hI
                obtain ⟨hun, o0, ho0, _⟩ := mem_ready.1 hi
                have hlt : i < 19 := (Array.getElem?_eq_some_iff.1 ho0).1
                have hun0 := getD_unlisted hun
                have hsa : a'.tmps.size = 150 := hag.size.trans hsz
                have e0 : a'.eval (.tmp 0) = .slice (some ⟨b, off, none⟩) ps.length cap := (hag.out 0 (by decide)).trans s0
                have e1 : a'.eval (.tmp 1) = .int .i64 work := (hag.out 1 (by decide)).trans s1
                have e17 : a'.eval (.tmp 17) = .int .i64 at' := (hag.out 17 (by decide)).trans s17
                clear ho0 hun
                rcases (show i = 0 ∨ i = 1 ∨ i = 2 ∨ i = 3 ∨ i = 4 ∨ i = 5 ∨ i = 6 ∨ i = 7 ∨ i = 8 ∨ i = 9 ∨ i = 10 ∨ i = 11 ∨ i = 12 ∨ i = 13 ∨ i = 14 ∨ i = 15 ∨ i = 16 ∨ i = 17 ∨ i = 18 by omega) with rfl | rfl | rfl | rfl | rfl | rfl | rfl | rfl | rfl | rfl | rfl | rfl | rfl | rfl | rfl | rfl | rfl | rfl | rfl
                · -- 0: pure 124
                  refine step_val (d := 124) (w' := w') (v := .slice (some ⟨b, off, none⟩) ps.length cap) rfl rfl rfl (by generalize a'.eval = ρ at e0 ⊢; go_simp) ⟨set_size hL, hag.put (by decide) _, (hk.put (by rw [hsa]; decide) (by rw [hK]; simp)), by rw [getD_set_ne false (show 0 ≠ 3 by decide), getD_set_ne false (show 0 ≠ 7 by decide), getD_set_ne false (show 0 ≠ 9 by decide), getD_set_ne false (show 0 ≠ 14 by decide), getD_set_ne false (show 0 ≠ 15 by decide), getD_set_ne false (show 0 ≠ 16 by decide), getD_set_ne false (show 0 ≠ 17 by decide), eval_put_ne _ (show 124 ≠ 127 by decide), eval_put_ne _ (show 124 ≠ 131 by decide), eval_put_ne _ (show 124 ≠ 18 by decide), eval_put_ne _ (show 124 ≠ 19 by decide)]; exact hJ⟩
                · -- 1: pure 125
                  refine step_val (d := 125) (w' := w') (v := .int .i64 at') rfl rfl rfl (by generalize a'.eval = ρ at e17 ⊢; go_simp) ⟨set_size hL, hag.put (by decide) _, (hk.put (by rw [hsa]; decide) (by rw [hK]; simp)), by rw [getD_set_ne false (show 1 ≠ 3 by decide), getD_set_ne false (show 1 ≠ 7 by decide), getD_set_ne false (show 1 ≠ 9 by decide), getD_set_ne false (show 1 ≠ 14 by decide), getD_set_ne false (show 1 ≠ 15 by decide), getD_set_ne false (show 1 ≠ 16 by decide), getD_set_ne false (show 1 ≠ 17 by decide), eval_put_ne _ (show 125 ≠ 127 by decide), eval_put_ne _ (show 125 ≠ 131 by decide), eval_put_ne _ (show 125 ≠ 18 by decide), eval_put_ne _ (show 125 ≠ 19 by decide)]; exact hJ⟩
                · -- 2: pure 126
                  have e124 : a'.eval (.tmp 124) = .slice (some ⟨b, off, none⟩) ps.length cap := hk (0, 124, _) (by rw [hK]; simp) (ready_dep hi rfl (e := ⟨0, .data⟩) (by simp) rfl)
                  have e125 : a'.eval (.tmp 125) = .int .i64 at' := hk (1, 125, _) (by rw [hK]; simp) (ready_dep hi rfl (e := ⟨1, .data⟩) (by simp) rfl)
                  refine step_val (d := 126) (w' := w') (v := .slice (some ⟨b, off + at' * 14, none⟩) (ps.length - at') (cap - at')) rfl rfl rfl (by generalize a'.eval = ρ at e124 e125 ⊢; go_simp) ⟨set_size hL, hag.put (by decide) _, (hk.put (by rw [hsa]; decide) (by rw [hK]; simp)), by rw [getD_set_ne false (show 2 ≠ 3 by decide), getD_set_ne false (show 2 ≠ 7 by decide), getD_set_ne false (show 2 ≠ 9 by decide), getD_set_ne false (show 2 ≠ 14 by decide), getD_set_ne false (show 2 ≠ 15 by decide), getD_set_ne false (show 2 ≠ 16 by decide), getD_set_ne false (show 2 ≠ 17 by decide), eval_put_ne _ (show 126 ≠ 127 by decide), eval_put_ne _ (show 126 ≠ 131 by decide), eval_put_ne _ (show 126 ≠ 18 by decide), eval_put_ne _ (show 126 ≠ 19 by decide)]; exact hJ⟩
                · -- 3: copies 127
                  have e126 : a'.eval (.tmp 126) = .slice (some ⟨b, off + at' * 14, none⟩) (ps.length - at') (cap - at') := hk (2, 126, _) (by rw [hK]; simp) (ready_dep hi rfl (e := ⟨2, .data⟩) (by simp) rfl)
                  have hcp := copies_any _ _ _ w' (HED.out w' hJ.below) (by omega) (fun q hq => HREM.out q (List.mem_of_mem_drop hq))
                  rw [hdl, ← HDS.out] at hcp
                  rw [hun0] at hJ
                  refine step_call (d := 127) (f := 12) (args := #[.slice (some ⟨b, off + at' * 14, none⟩) (ps.length - at') (cap - at')]) rfl rfl rfl (by have ef : a'.eval (.func 12) = .func (.func 12) #[] #[] := rfl; generalize a'.eval = ρ at ef e126 ⊢; go_simp) hcp ?_
                  rintro e w2 ⟨oq, cq, qs, rfl, h1, h2, h3, hb⟩
                  refine ⟨_, rfl, ⟨set_size hL, hag.put (by decide) _, (hk.put (by rw [hsa]; decide) (by rw [hK]; simp)), by rw [getD_set_at hL (by decide), getD_set_ne false (show 3 ≠ 7 by decide), getD_set_ne false (show 3 ≠ 9 by decide), getD_set_ne false (show 3 ≠ 14 by decide), getD_set_ne false (show 3 ≠ 15 by decide), getD_set_ne false (show 3 ≠ 16 by decide), getD_set_ne false (show 3 ≠ 17 by decide), eval_put_same _ (by rw [hsa]; decide), eval_put_ne _ (show 127 ≠ 131 by decide), eval_put_ne _ (show 127 ≠ 18 by decide), eval_put_ne _ (show 127 ≠ 19 by decide)]; exact hJ.copies hb h1 h2 h3⟩⟩
                · -- 4: pure 128
                  refine step_val (d := 128) (w' := w') (v := .slice (some ⟨b, off, none⟩) ps.length cap) rfl rfl rfl (by generalize a'.eval = ρ at e0 ⊢; go_simp) ⟨set_size hL, hag.put (by decide) _, (hk.put (by rw [hsa]; decide) (by rw [hK]; simp)), by rw [getD_set_ne false (show 4 ≠ 3 by decide), getD_set_ne false (show 4 ≠ 7 by decide), getD_set_ne false (show 4 ≠ 9 by decide), getD_set_ne false (show 4 ≠ 14 by decide), getD_set_ne false (show 4 ≠ 15 by decide), getD_set_ne false (show 4 ≠ 16 by decide), getD_set_ne false (show 4 ≠ 17 by decide), eval_put_ne _ (show 128 ≠ 127 by decide), eval_put_ne _ (show 128 ≠ 131 by decide), eval_put_ne _ (show 128 ≠ 18 by decide), eval_put_ne _ (show 128 ≠ 19 by decide)]; exact hJ⟩
                · -- 5: pure 129
                  refine step_val (d := 129) (w' := w') (v := .int .i64 at') rfl rfl rfl (by generalize a'.eval = ρ at e17 ⊢; go_simp) ⟨set_size hL, hag.put (by decide) _, (hk.put (by rw [hsa]; decide) (by rw [hK]; simp)), by rw [getD_set_ne false (show 5 ≠ 3 by decide), getD_set_ne false (show 5 ≠ 7 by decide), getD_set_ne false (show 5 ≠ 9 by decide), getD_set_ne false (show 5 ≠ 14 by decide), getD_set_ne false (show 5 ≠ 15 by decide), getD_set_ne false (show 5 ≠ 16 by decide), getD_set_ne false (show 5 ≠ 17 by decide), eval_put_ne _ (show 129 ≠ 127 by decide), eval_put_ne _ (show 129 ≠ 131 by decide), eval_put_ne _ (show 129 ≠ 18 by decide), eval_put_ne _ (show 129 ≠ 19 by decide)]; exact hJ⟩
                · -- 6: pure 130
                  have e128 : a'.eval (.tmp 128) = .slice (some ⟨b, off, none⟩) ps.length cap := hk (4, 128, _) (by rw [hK]; simp) (ready_dep hi rfl (e := ⟨4, .data⟩) (by simp) rfl)
                  have e129 : a'.eval (.tmp 129) = .int .i64 at' := hk (5, 129, _) (by rw [hK]; simp) (ready_dep hi rfl (e := ⟨5, .data⟩) (by simp) rfl)
                  refine step_val (d := 130) (w' := w') (v := .slice (some ⟨b, off, none⟩) at' cap) rfl rfl rfl (by generalize a'.eval = ρ at e128 e129 ⊢; go_simp) ⟨set_size hL, hag.put (by decide) _, (hk.put (by rw [hsa]; decide) (by rw [hK]; simp)), by rw [getD_set_ne false (show 6 ≠ 3 by decide), getD_set_ne false (show 6 ≠ 7 by decide), getD_set_ne false (show 6 ≠ 9 by decide), getD_set_ne false (show 6 ≠ 14 by decide), getD_set_ne false (show 6 ≠ 15 by decide), getD_set_ne false (show 6 ≠ 16 by decide), getD_set_ne false (show 6 ≠ 17 by decide), eval_put_ne _ (show 130 ≠ 127 by decide), eval_put_ne _ (show 130 ≠ 131 by decide), eval_put_ne _ (show 130 ≠ 18 by decide), eval_put_ne _ (show 130 ≠ 19 by decide)]; exact hJ⟩
                · -- 7: app 131
                  have e130 : a'.eval (.tmp 130) = .slice (some ⟨b, off, none⟩) at' cap := hk (6, 130, _) (by rw [hK]; simp) (ready_dep hi rfl (e := ⟨6, .data⟩) (by simp) rfl)
                  have hn : L.getD 3 false = true := (ready_dep hi rfl (e := ⟨3, .data⟩) (by simp) rfl)
                  rw [hun0, hn] at hJ
                  obtain ⟨oq, cq, qs, hv, hq1, hq2, hq3⟩ := hJ.one rfl rfl
                  refine step_app_op (d := 131) pcells 14 pcells_len (by decide) pcells_one rfl rfl rfl _ _ 22 rfl wc.heap.size 46 _ 128 Try.underlying22 infoEv rfl (.slice oq (ps.length - at') cq) qs hv hq3.row _ (ps.take at') e130 (HET.out.below pcells_len (by decide) hJ.below (Nat.le_refl _)) (by omega) (by omega) hJ.below.size ?_
                  intro v2 w2 h2 hg2 _
                  refine ⟨set_size hL, hag.put (by decide) _, (hk.put (by rw [hsa]; decide) (by rw [hK]; simp)), by rw [getD_set_ne false (show 7 ≠ 3 by decide), getD_set_at hL (by decide), getD_set_ne false (show 7 ≠ 9 by decide), getD_set_ne false (show 7 ≠ 14 by decide), getD_set_ne false (show 7 ≠ 15 by decide), getD_set_ne false (show 7 ≠ 16 by decide), getD_set_ne false (show 7 ≠ 17 by decide), eval_put_ne _ (show 131 ≠ 127 by decide), eval_put_same _ (by rw [hsa]; decide), eval_put_ne _ (show 131 ≠ 18 by decide), eval_put_ne _ (show 131 ≠ 19 by decide)]; rw [hn]; exact hJ.app hq3 (fun q hq => HEC.out.2 q (List.mem_of_mem_take hq)) (by rw [List.map_append, hq2, HDS.out, HEE.out]) (by decide) (by decide) h2 hg2⟩
                · -- 8: pure 132
                  refine step_val (d := 132) (w' := w') (v := .int .i64 work) rfl rfl rfl (by generalize a'.eval = ρ at e1 ⊢; go_simp) ⟨set_size hL, hag.put (by decide) _, (hk.put (by rw [hsa]; decide) (by rw [hK]; simp)), by rw [getD_set_ne false (show 8 ≠ 3 by decide), getD_set_ne false (show 8 ≠ 7 by decide), getD_set_ne false (show 8 ≠ 9 by decide), getD_set_ne false (show 8 ≠ 14 by decide), getD_set_ne false (show 8 ≠ 15 by decide), getD_set_ne false (show 8 ≠ 16 by decide), getD_set_ne false (show 8 ≠ 17 by decide), eval_put_ne _ (show 132 ≠ 127 by decide), eval_put_ne _ (show 132 ≠ 131 by decide), eval_put_ne _ (show 132 ≠ 18 by decide), eval_put_ne _ (show 132 ≠ 19 by decide)]; exact hJ⟩
                · -- 9: win 133
                  have hn2 : L.getD 7 false = true := (ready_dep hi rfl (e := ⟨7, .data⟩) (by simp) rfl)
                  have e132 : a'.eval (.tmp 132) = .int .i64 work := hk (8, 132, _) (by rw [hK]; simp) (ready_dep hi rfl (e := ⟨8, .data⟩) (by simp) rfl)
                  rw [hun0, hn2] at hJ
                  obtain ⟨o4, c4, ms, hv4, hE4, hm4⟩ := hJ.two rfl rfl
                  have hml : ms.length ≤ 1000000 := by have h1 := congrArg List.length hm4; rw [List.length_map, HEL.out] at h1; omega
                  have hmr : ∀ q ∈ ms, q.2.rem.length ≤ 1000000 := fun q hq => HER.out q.2 (by rw [← hm4]; exact List.mem_map_of_mem hq)
                  have hx := winner_any o4 c4 ms work w' hE4 hml hmr
                  refine step_call (d := 133) (f := 24) (args := #[.slice o4 ms.length c4, .int .i64 work]) rfl rfl rfl (by have ef : a'.eval (.func 24) = .func (.func 24) #[] #[] := rfl; clear hm4 hml hmr hx hE4; generalize a'.eval = ρ at ef hv4 e132 ⊢; go_simp) hx ?_
                  rintro e w2 ⟨l2, hst2, rfl, hb⟩
                  rw [hm4] at hst2
                  have hw2 : winV l2 = _ := (congrArg winV (stSort_eq swo_evLater' hst2)).trans HWV.out
                  rw [hw2]
                  refine ⟨_, rfl, ⟨set_size hL, hag.put (by decide) _, (hk.put (by rw [hsa]; decide) (by rw [hK]; simp)), by rw [getD_set_ne false (show 9 ≠ 3 by decide), getD_set_ne false (show 9 ≠ 7 by decide), getD_set_at hL (by decide), getD_set_ne false (show 9 ≠ 14 by decide), getD_set_ne false (show 9 ≠ 15 by decide), getD_set_ne false (show 9 ≠ 16 by decide), getD_set_ne false (show 9 ≠ 17 by decide), eval_put_ne _ (show 133 ≠ 127 by decide), eval_put_ne _ (show 133 ≠ 131 by decide), eval_put_ne _ (show 133 ≠ 18 by decide), eval_put_ne _ (show 133 ≠ 19 by decide)]; rw [hn2]; exact hJ.win hb⟩⟩
                · -- 10: pure 123
                  have e133 : a'.eval (.tmp 133) = .tuple #[.agg #[.int .i64 p.mn, .int .i64 p.mx, .int .i64 p.goal, .int .i64 p.slack, .int .i64 p.up, .int .i64 p.down, .int .i64 p.cool], .agg #[.int .i64 d.node, .int .i64 d.seq], .bool ok] := hk (9, 133, _) (by rw [hK]; simp) (ready_dep hi rfl (e := ⟨9, .data⟩) (by simp) rfl)
                  refine step_val (d := 123) (w' := w') (v := .tuple #[.agg #[.int .i64 p.mn, .int .i64 p.mx, .int .i64 p.goal, .int .i64 p.slack, .int .i64 p.up, .int .i64 p.down, .int .i64 p.cool], .agg #[.int .i64 d.node, .int .i64 d.seq], .bool ok]) rfl rfl rfl (by generalize a'.eval = ρ at e133 ⊢; go_simp) ⟨set_size hL, hag.put (by decide) _, (hk.put (by rw [hsa]; decide) (by rw [hK]; simp)), by rw [getD_set_ne false (show 10 ≠ 3 by decide), getD_set_ne false (show 10 ≠ 7 by decide), getD_set_ne false (show 10 ≠ 9 by decide), getD_set_ne false (show 10 ≠ 14 by decide), getD_set_ne false (show 10 ≠ 15 by decide), getD_set_ne false (show 10 ≠ 16 by decide), getD_set_ne false (show 10 ≠ 17 by decide), eval_put_ne _ (show 123 ≠ 127 by decide), eval_put_ne _ (show 123 ≠ 131 by decide), eval_put_ne _ (show 123 ≠ 18 by decide), eval_put_ne _ (show 123 ≠ 19 by decide)]; exact hJ⟩
                · -- 11: pure 134
                  have e123 : a'.eval (.tmp 123) = .tuple #[.agg #[.int .i64 p.mn, .int .i64 p.mx, .int .i64 p.goal, .int .i64 p.slack, .int .i64 p.up, .int .i64 p.down, .int .i64 p.cool], .agg #[.int .i64 d.node, .int .i64 d.seq], .bool ok] := hk (10, 123, _) (by rw [hK]; simp) (ready_dep hi rfl (e := ⟨10, .data⟩) (by simp) rfl)
                  refine step_val (d := 134) (w' := w') (v := .agg #[.int .i64 p.mn, .int .i64 p.mx, .int .i64 p.goal, .int .i64 p.slack, .int .i64 p.up, .int .i64 p.down, .int .i64 p.cool]) rfl rfl rfl (by generalize a'.eval = ρ at e123 ⊢; go_simp) ⟨set_size hL, hag.put (by decide) _, (hk.put (by rw [hsa]; decide) (by rw [hK]; simp)), by rw [getD_set_ne false (show 11 ≠ 3 by decide), getD_set_ne false (show 11 ≠ 7 by decide), getD_set_ne false (show 11 ≠ 9 by decide), getD_set_ne false (show 11 ≠ 14 by decide), getD_set_ne false (show 11 ≠ 15 by decide), getD_set_ne false (show 11 ≠ 16 by decide), getD_set_ne false (show 11 ≠ 17 by decide), eval_put_ne _ (show 134 ≠ 127 by decide), eval_put_ne _ (show 134 ≠ 131 by decide), eval_put_ne _ (show 134 ≠ 18 by decide), eval_put_ne _ (show 134 ≠ 19 by decide)]; exact hJ⟩
                · -- 12: pure 135
                  have e123 : a'.eval (.tmp 123) = .tuple #[.agg #[.int .i64 p.mn, .int .i64 p.mx, .int .i64 p.goal, .int .i64 p.slack, .int .i64 p.up, .int .i64 p.down, .int .i64 p.cool], .agg #[.int .i64 d.node, .int .i64 d.seq], .bool ok] := hk (10, 123, _) (by rw [hK]; simp) (ready_dep hi rfl (e := ⟨10, .data⟩) (by simp) rfl)
                  refine step_val (d := 135) (w' := w') (v := .agg #[.int .i64 d.node, .int .i64 d.seq]) rfl rfl rfl (by generalize a'.eval = ρ at e123 ⊢; go_simp) ⟨set_size hL, hag.put (by decide) _, (hk.put (by rw [hsa]; decide) (by rw [hK]; simp)), by rw [getD_set_ne false (show 12 ≠ 3 by decide), getD_set_ne false (show 12 ≠ 7 by decide), getD_set_ne false (show 12 ≠ 9 by decide), getD_set_ne false (show 12 ≠ 14 by decide), getD_set_ne false (show 12 ≠ 15 by decide), getD_set_ne false (show 12 ≠ 16 by decide), getD_set_ne false (show 12 ≠ 17 by decide), eval_put_ne _ (show 135 ≠ 127 by decide), eval_put_ne _ (show 135 ≠ 131 by decide), eval_put_ne _ (show 135 ≠ 18 by decide), eval_put_ne _ (show 135 ≠ 19 by decide)]; exact hJ⟩
                · -- 13: pure 136
                  have e123 : a'.eval (.tmp 123) = .tuple #[.agg #[.int .i64 p.mn, .int .i64 p.mx, .int .i64 p.goal, .int .i64 p.slack, .int .i64 p.up, .int .i64 p.down, .int .i64 p.cool], .agg #[.int .i64 d.node, .int .i64 d.seq], .bool ok] := hk (10, 123, _) (by rw [hK]; simp) (ready_dep hi rfl (e := ⟨10, .data⟩) (by simp) rfl)
                  refine step_val (d := 136) (w' := w') (v := .bool ok) rfl rfl rfl (by generalize a'.eval = ρ at e123 ⊢; go_simp) ⟨set_size hL, hag.put (by decide) _, (hk.put (by rw [hsa]; decide) (by rw [hK]; simp)), by rw [getD_set_ne false (show 13 ≠ 3 by decide), getD_set_ne false (show 13 ≠ 7 by decide), getD_set_ne false (show 13 ≠ 9 by decide), getD_set_ne false (show 13 ≠ 14 by decide), getD_set_ne false (show 13 ≠ 15 by decide), getD_set_ne false (show 13 ≠ 16 by decide), getD_set_ne false (show 13 ≠ 17 by decide), eval_put_ne _ (show 136 ≠ 127 by decide), eval_put_ne _ (show 136 ≠ 131 by decide), eval_put_ne _ (show 136 ≠ 18 by decide), eval_put_ne _ (show 136 ≠ 19 by decide)]; exact hJ⟩
                · -- 14: allocA 18
                  rw [hun0] at hJ
                  refine step_val (d := 18) (v := .pointer (some ⟨w'.heap.size, 0, none⟩)) (w' := w'.alloc (.cells #[.int .i64 0, .int .i64 0, .int .i64 0, .int .i64 0, .int .i64 0, .int .i64 0, .int .i64 0] 43)) rfl rfl rfl (by go_simp) ⟨set_size hL, hag.put (by decide) _, (hk.put (by rw [hsa]; decide) (by rw [hK]; simp)), by rw [getD_set_ne false (show 14 ≠ 3 by decide), getD_set_ne false (show 14 ≠ 7 by decide), getD_set_ne false (show 14 ≠ 9 by decide), getD_set_at hL (by decide), getD_set_ne false (show 14 ≠ 15 by decide), getD_set_ne false (show 14 ≠ 16 by decide), getD_set_ne false (show 14 ≠ 17 by decide), eval_put_ne _ (show 18 ≠ 127 by decide), eval_put_ne _ (show 18 ≠ 131 by decide), eval_put_same _ (by rw [hsa]; decide), eval_put_ne _ (show 18 ≠ 19 by decide)]; exact hJ.mkA⟩
                · -- 15: allocD 19
                  rw [hun0] at hJ
                  refine step_val (d := 19) (v := .pointer (some ⟨w'.heap.size, 0, none⟩)) (w' := w'.alloc (.cells #[.int .i64 0, .int .i64 0] 41)) rfl rfl rfl (by go_simp) ⟨set_size hL, hag.put (by decide) _, (hk.put (by rw [hsa]; decide) (by rw [hK]; simp)), by rw [getD_set_ne false (show 15 ≠ 3 by decide), getD_set_ne false (show 15 ≠ 7 by decide), getD_set_ne false (show 15 ≠ 9 by decide), getD_set_ne false (show 15 ≠ 14 by decide), getD_set_at hL (by decide), getD_set_ne false (show 15 ≠ 16 by decide), getD_set_ne false (show 15 ≠ 17 by decide), eval_put_ne _ (show 19 ≠ 127 by decide), eval_put_ne _ (show 19 ≠ 131 by decide), eval_put_ne _ (show 19 ≠ 18 by decide), eval_put_same _ (by rw [hsa]; decide)]; exact hJ.mkD⟩
                · -- 16: storeA None
                  have hn : L.getD 14 false = true := (ready_dep hi rfl (e := ⟨14, .data⟩) (by simp) rfl)
                  have e134 : a'.eval (.tmp 134) = .agg #[.int .i64 p.mn, .int .i64 p.mx, .int .i64 p.goal, .int .i64 p.slack, .int .i64 p.up, .int .i64 p.down, .int .i64 p.cool] := hk (11, 134, _) (by rw [hK]; simp) (ready_dep hi rfl (e := ⟨11, .data⟩) (by simp) rfl)
                  have h9 : L.getD 9 false = true := (ready_dep hi rfl (e := ⟨9, .phase⟩) (by simp) rfl)
                  have h7 := hJ.ord2 h9
                  rw [hun0, hn, h9, h7] at hJ
                  obtain ⟨g, hv, hg, hh⟩ := hJ.pa rfl
                  refine step_store rfl rfl rfl 43 _ _ rfl g _ #[.int .i64 p.mn, .int .i64 p.mx, .int .i64 p.goal, .int .i64 p.slack, .int .i64 p.up, .int .i64 p.down, .int .i64 p.cool] hv e134 hh (by kernel_rfl) rfl (by simp [Value.oneCell']) ⟨set_size hL, hag, hk.put_none (by rw [hK]; simp), by rw [getD_set_ne false (show 16 ≠ 3 by decide), getD_set_ne false (show 16 ≠ 7 by decide), getD_set_ne false (show 16 ≠ 9 by decide), getD_set_ne false (show 16 ≠ 14 by decide), getD_set_ne false (show 16 ≠ 15 by decide), getD_set_at hL (by decide), getD_set_ne false (show 16 ≠ 17 by decide)]; rw [hn, h9, h7]; exact hJ.setA (by decide) hv hg hh⟩
                · -- 17: storeD None
                  have hn : L.getD 15 false = true := (ready_dep hi rfl (e := ⟨15, .data⟩) (by simp) rfl)
                  have e135 : a'.eval (.tmp 135) = .agg #[.int .i64 d.node, .int .i64 d.seq] := hk (12, 135, _) (by rw [hK]; simp) (ready_dep hi rfl (e := ⟨12, .data⟩) (by simp) rfl)
                  have h9 : L.getD 9 false = true := (ready_dep hi rfl (e := ⟨9, .phase⟩) (by simp) rfl)
                  have h7 := hJ.ord2 h9
                  rw [hun0, hn, h9, h7] at hJ
                  obtain ⟨g, hv, hg, hh⟩ := hJ.pd rfl
                  refine step_store rfl rfl rfl 41 _ _ rfl g _ #[.int .i64 d.node, .int .i64 d.seq] hv e135 hh (by kernel_rfl) rfl (by simp [Value.oneCell']) ⟨set_size hL, hag, hk.put_none (by rw [hK]; simp), by rw [getD_set_ne false (show 17 ≠ 3 by decide), getD_set_ne false (show 17 ≠ 7 by decide), getD_set_ne false (show 17 ≠ 9 by decide), getD_set_ne false (show 17 ≠ 14 by decide), getD_set_ne false (show 17 ≠ 15 by decide), getD_set_ne false (show 17 ≠ 16 by decide), getD_set_at hL (by decide)]; rw [hn, h9, h7]; exact hJ.setD (by decide) hv hg hh⟩
                · -- 18: pure 20
                  have e136 : a'.eval (.tmp 136) = .bool ok := hk (13, 136, _) (by rw [hK]; simp) (ready_dep hi rfl (e := ⟨13, .data⟩) (by simp) rfl)
                  refine step_val (d := 20) (w' := w') (v := .bool ok) rfl rfl rfl (by generalize a'.eval = ρ at e136 ⊢; go_simp) ⟨set_size hL, hag.put (by decide) _, (hk.put (by rw [hsa]; decide) (by rw [hK]; simp)), by rw [getD_set_ne false (show 18 ≠ 3 by decide), getD_set_ne false (show 18 ≠ 7 by decide), getD_set_ne false (show 18 ≠ 9 by decide), getD_set_ne false (show 18 ≠ 14 by decide), getD_set_ne false (show 18 ≠ 15 by decide), getD_set_ne false (show 18 ≠ 16 by decide), getD_set_ne false (show 18 ≠ 17 by decide), eval_put_ne _ (show 20 ≠ 127 by decide), eval_put_ne _ (show 20 ≠ 131 by decide), eval_put_ne _ (show 20 ≠ 18 by decide), eval_put_ne _ (show 20 ≠ 19 by decide)]; exact hJ⟩
              case fin =>
                intro L a' w' hr hI
                obtain ⟨hL, hag, hk, hJ⟩ := hI
                have hall := all_listed_b hL rfl (by kernel_rfl) hr
                have hfin := Ag.final _ (by rw [hsz]; decide) hag
                have v124 : a'.eval (.tmp 124) = .slice (some ⟨b, off, none⟩) ps.length cap := hk (0, 124, _) (by rw [hK]; simp) (hall 0 (by decide))
                have v125 : a'.eval (.tmp 125) = .int .i64 at' := hk (1, 125, _) (by rw [hK]; simp) (hall 1 (by decide))
                have v126 : a'.eval (.tmp 126) = .slice (some ⟨b, off + at' * 14, none⟩) (ps.length - at') (cap - at') := hk (2, 126, _) (by rw [hK]; simp) (hall 2 (by decide))
                have v128 : a'.eval (.tmp 128) = .slice (some ⟨b, off, none⟩) ps.length cap := hk (4, 128, _) (by rw [hK]; simp) (hall 4 (by decide))
                have v129 : a'.eval (.tmp 129) = .int .i64 at' := hk (5, 129, _) (by rw [hK]; simp) (hall 5 (by decide))
                have v130 : a'.eval (.tmp 130) = .slice (some ⟨b, off, none⟩) at' cap := hk (6, 130, _) (by rw [hK]; simp) (hall 6 (by decide))
                have v132 : a'.eval (.tmp 132) = .int .i64 work := hk (8, 132, _) (by rw [hK]; simp) (hall 8 (by decide))
                have v133 : a'.eval (.tmp 133) = .tuple #[.agg #[.int .i64 p.mn, .int .i64 p.mx, .int .i64 p.goal, .int .i64 p.slack, .int .i64 p.up, .int .i64 p.down, .int .i64 p.cool], .agg #[.int .i64 d.node, .int .i64 d.seq], .bool ok] := hk (9, 133, _) (by rw [hK]; simp) (hall 9 (by decide))
                have v123 : a'.eval (.tmp 123) = .tuple #[.agg #[.int .i64 p.mn, .int .i64 p.mx, .int .i64 p.goal, .int .i64 p.slack, .int .i64 p.up, .int .i64 p.down, .int .i64 p.cool], .agg #[.int .i64 d.node, .int .i64 d.seq], .bool ok] := hk (10, 123, _) (by rw [hK]; simp) (hall 10 (by decide))
                have v134 : a'.eval (.tmp 134) = .agg #[.int .i64 p.mn, .int .i64 p.mx, .int .i64 p.goal, .int .i64 p.slack, .int .i64 p.up, .int .i64 p.down, .int .i64 p.cool] := hk (11, 134, _) (by rw [hK]; simp) (hall 11 (by decide))
                have v135 : a'.eval (.tmp 135) = .agg #[.int .i64 d.node, .int .i64 d.seq] := hk (12, 135, _) (by rw [hK]; simp) (hall 12 (by decide))
                have v136 : a'.eval (.tmp 136) = .bool ok := hk (13, 136, _) (by rw [hK]; simp) (hall 13 (by decide))
                have v20 : a'.eval (.tmp 20) = .bool ok := hk (18, 20, _) (by rw [hK]; simp) (hall 18 (by decide))
                obtain ⟨g1, hg1, _, hh1⟩ := hJ.pa (hall 14 (by decide))
                obtain ⟨g2, hg2, _, hh2⟩ := hJ.pd (hall 15 (by decide))
                rw [hall 16 (by decide), if_pos rfl] at hh1
                rw [hall 17 (by decide), if_pos rfl] at hh2
                have HB5 := Lib.hid hJ.below
                have HC1 := Lib.hid (show ∀ o, w'.cell? ⟨g1, o, none⟩ = (#[.int .i64 p.mn, .int .i64 p.mx, .int .i64 p.goal, .int .i64 p.slack, .int .i64 p.up, .int .i64 p.down, .int .i64 p.cool] : Array Value)[o]? from fun o => by unfold World.cell?; rw [hh1]; rfl)
                have HC2 := Lib.hid (show ∀ o, w'.cell? ⟨g2, o, none⟩ = (#[.int .i64 d.node, .int .i64 d.seq] : Array Value)[o]? from fun o => by unfold World.cell?; rw [hh2]; rfl)
                clear hk hag hJ hr hall hK hh1 hh2
                simp only [List.foldl, hg1, hg2, v124, v125, v126, v128, v129, v130, v132, v133, v123, v134, v135, v136, v20] at hfin
                generalize a'.eval (.tmp 127) = y127 at hfin
                generalize a'.eval (.tmp 131) = y131 at hfin
                subst hfin
                subst hact
                simp only [Act.put, List.setIfInBounds_toArray, List.set_cons_succ, List.set_cons_zero]
                go_step
                go_step
                go_meet
                exact ⟨g1, g2, rfl, rfl, rfl, HC1, HC2, HB5⟩
end Go.Proofs.Ytfbbafmklahmmaa
