/-
  The law WindowTurns walked: it returns true, and turns nothing that was there.
-/
import Derived.Test.YtfbbafmklahmmaaTurnsP
import Derived.Test.YtfbbafmklahmmaaOpenEv
import Derived.Test.YtfbbafmklahmmaaRef07
import Derived.Test.YtfbbafmklahmmaaRegInv
import Derived.Test.YtfbbafmklahmmaaStepEv
import Derived.Deep.DeepCutAuto
namespace Go.Proofs.Ytfbbafmklahmmaa
open Go.Shelf Go.RowKit Go.Lib Go.Sort
set_option linter.unusedVariables false

theorem unlike_succ {ps : List PEv} {i : Nat} {p : PEv} (hp : ps[i]? = some p) (h : unlike ((ps.take i).map (·.2))) (hk : ∀ q ∈ ps.take i, q.2.dot ≠ p.2.dot) : unlike ((ps.take (i + 1)).map (·.2)) := by
  rw [List.take_succ_eq_append_getElem (List.getElem?_eq_some_iff.1 hp).1, (List.getElem?_eq_some_iff.1 hp).2, List.map_append]
  refine List.pairwise_append.2 ⟨h, List.pairwise_singleton _ _, fun a ha b hb => ?_⟩
  obtain ⟨q, hq, rfl⟩ := List.mem_map.1 ha
  obtain rfl : b = p.2 := by simpa using hb
  exact hk q hq
theorem apart_succ {ps : List PEv} {k : Nat} {p : PEv} {d : Dot} (hp : ps[k]? = some p) (h : ∀ q ∈ ps.take k, q.2.dot ≠ d) (hk : p.2.dot ≠ d) : ∀ q ∈ ps.take (k + 1), q.2.dot ≠ d := by
  rw [List.take_succ_eq_append_getElem (List.getElem?_eq_some_iff.1 hp).1, (List.getElem?_eq_some_iff.1 hp).2]
  intro q hq
  rcases List.mem_append.1 hq with hq | hq
  · exact h q hq
  · obtain rfl : q = p := by simpa using hq
    exact hk
theorem dot_ne {a b : Dot} (h : (a.node == b.node && a.seq == b.seq) = false) : b ≠ a := by
  rintro rfl; simp at h

set_option maxRecDepth 100000 in
set_option maxHeartbeats 8000000 in
theorem lawTurns (oa : Option Addr) (cap : Nat) (ps : List PEv) (work size turn : Int) (w : World) (h : EvsAt w (.slice oa ps.length cap) ps) (hl : ps.length ≤ 1099511627776) (hf : ∀ p ∈ ps, p.2.fits) (ht0 : 0 ≤ turn) (ht1 : turn ≤ 255) :
    Calls Try.prog 4 #[.agg #[.slice oa ps.length cap, .int .i64 work, .int .i64 size, .int .u8 turn]] w fun e w' => e = .returned (.bool true) ∧ RowKit.Below w.heap.size w w' := by
  have HE := Lib.hid h
  have AL := Lib.hid alive10
  have hgr := fun W (hE : EvsAt W (.slice oa ps.length cap) ps) => great_any oa cap ps W hE hl (fun p hp => (hf p hp).2.2.2.2.2.2.2)
  have HGR := Lib.hid hgr
  clear h hgr hf
  go_enter Try.func4, Try.ntmps4
  go_wp2_with fail
  refine (AL.out _).mono ?_
  rintro e w1 ⟨rfl, hb1⟩
  obtain ⟨hcell, hfr⟩ := bcell hb1
  have hz1 : w.heap.size < w1.heap.size := by have := hb1.size; simp at this; omega
  have hB1 : RowKit.Below w.heap.size w w1 := ((RowKit.Below.refl _ _).alloc (Nat.le_refl _) _).trans (hb1.mono (by simp))
  have HB1 := Lib.hid hB1
  clear hb1 hB1
  go_wp2_with fail
  go_quiet (fail)
  have hB2 : RowKit.Below w.heap.size w (w1.drewN nq) := HB1.out.trans ⟨rfl, rfl, rfl, Nat.le_refl _, fun _ _ => rfl⟩
  clear hcell hfr hz1 HB1
  generalize w1.drewN nq = w2 at *
  have HE2 := Lib.hid (HE.out.below hB2 (Nat.le_refl _))
  have HB2 := Lib.hid hB2
  clear hB2
  go_wp2_with fail
  refine (HGR.out _ HE2.out).mono ?_
  rintro e w3 ⟨rfl, hb3⟩
  have HE3 := Lib.hid (HE2.out.below hb3 (Nat.le_refl _))
  have HB3 := Lib.hid (HB2.out.trans (hb3.mono HB2.out.size))
  clear hb3 HE2 HB2
  by_cases hbk : 3000 < bulk (ps.map (·.2))
  · rw [decide_eq_true hbk]
    go_wp2_with fail
    go_ret
    exact ⟨rfl, HB3.out⟩
  rw [decide_eq_false hbk]
  by_cases h60 : (60 : Int) < (ps.length : Int)
  · go_wp2_with fail
    go_ret
    exact ⟨rfl, HB3.out⟩
  by_cases hn0 : ((ps.length : Int) == 0) = true
  · go_wp2_with fail
    go_ret
    exact ⟨rfl, HB3.out⟩
  have hn0' : ((ps.length : Int) == 0) = false := by simpa using hn0
  have hn1 : 1 ≤ ps.length := by have hq := hn0'; rw [beq_eq_false_iff_ne] at hq; omega
  have hpl : ps.length ≤ 60 := by omega
  have hrem : ∀ p ∈ ps, p.2.rem.length ≤ 1000000 := fun p hp => by
    have := bulk_mem (ps.map (·.2)) p.2 (List.mem_map_of_mem hp)
    omega
  have HREM := Lib.hid hrem
  clear hrem hbk hn0
  have hcap : ps.length ≤ cap := by
    obtain ⟨_, _, hv, hc⟩ := HE3.out.1.slice_of
    simp only [Value.slice.injEq] at hv
    omega
  have hcap0 : ¬ cap = 0 := by omega
  go_wp2_with fail
  go_loopg [7, 45] ps.length (fun gk s7 s45 wr => ∃ (i q : Nat), s45 = .int .i64 i ∧ i ≤ ps.length ∧ ps.length - i ≤ gk ∧ wr = w3.drewN q ∧ Hid (unlike ((ps.take i).map (·.2))))
  case atStart => exact ⟨0, 0, rfl, Nat.zero_le _, Nat.le_refl _, rfl, by show unlike _; simp [unlike]⟩
  case round =>
    obtain ⟨i, q, rfl, hi, hg, rfl, HU⟩ := hrel
    by_cases hlt : i < ps.length
    · have hltz : (i : Int) < (ps.length : Int) := by omega
      obtain ⟨b, off, rfl⟩ := HE3.out.1.plain pcells_len (by decide) (by intro e; rw [e] at hlt; exact absurd hlt (by simp))
      obtain ⟨ra, rn, rc, ev, hp, c0, c1, c2, c3, c4, c5, c6, c7, c8, c9, c10, c11, c12, c13⟩ := HE3.out.1.ev i hlt
      have HP := Lib.hid hp
      clear hp
      have hicap : i ≤ cap := by omega
      go_wp2_with fail
      go_loopg [8, 52] i (fun gk2 s8 s52 wr => ∃ (k q2 : Nat), s52 = .int .i64 k ∧ k ≤ i ∧ i - k ≤ gk2 ∧ wr = w3.drewN q2 ∧ Hid (∀ q ∈ ps.take k, q.2.dot ≠ ev.dot))
      case atStart => exact ⟨0, q, rfl, Nat.zero_le _, Nat.le_refl _, rfl, by show ∀ q ∈ ps.take 0, _; simp⟩
      case round =>
        obtain ⟨k, q2, rfl, hk, hg2, rfl, HN⟩ := hrel
        by_cases hlk : k < i
        · have hlkz : (k : Int) < (i : Int) := by omega
          have hkl : k < ps.length := by omega
          have hklz : (k : Int) < (ps.length : Int) := by omega
          obtain ⟨ra2, rn2, rc2, ev2, hp2, d0, d1, d2, d3, d4, d5, d6, d7, d8, d9, d10, d11, d12, d13⟩ := HE3.out.1.ev k hkl
          have HP2 := Lib.hid hp2
          clear hp2
          by_cases e1 : (ev.dot.node == ev2.dot.node) = true
          · by_cases e2 : (ev.dot.seq == ev2.dot.seq) = true
            · go_wp2_with fail
              go_quiet (fail)
              go_wp2_with fail
              go_ret
              exact ⟨rfl, (HB3.out.trans ((below_drewN w3 q2).mono HB3.out.size)).trans ((below_drewN _ nq).mono HB3.out.size)⟩
            · have e2' : (ev.dot.seq == ev2.dot.seq) = false := by simpa using e2
              have hne : Hid (ev2.dot ≠ ev.dot) := fun h => by rw [h] at e2'; simp at e2'
              clear e2
              go_wp2_with fail
              go_quiet (fail)
              go_wp2_with fail
              go_roundg (i - (k + 1))
              case measure => omega
              case rel => exact ⟨k + 1, q2 + nq, by go_num, by omega, Nat.le_refl _, rfl, apart_succ HP2.out HN.out hne.out⟩
          · have e1' : (ev.dot.node == ev2.dot.node) = false := by simpa using e1
            have hne : Hid (ev2.dot ≠ ev.dot) := fun h => by rw [h] at e1'; simp at e1'
            clear e1
            go_wp2_with fail
            go_quiet (fail)
            go_wp2_with fail
            go_roundg (i - (k + 1))
            case measure => omega
            case rel => exact ⟨k + 1, q2 + nq, by go_num, by omega, Nat.le_refl _, rfl, apart_succ HP2.out HN.out hne.out⟩
        · have hlkz : ¬ (k : Int) < (i : Int) := by omega
          obtain rfl : k = i := by omega
          go_wp2_with fail
          go_roundg (ps.length - (k + 1))
          case measure => omega
          case rel => exact ⟨k + 1, q2, by go_num, by omega, Nat.le_refl _, rfl, unlike_succ HP.out HU.out HN.out⟩
    · have hltz : ¬ (i : Int) < (ps.length : Int) := by omega
      obtain rfl : i = ps.length := by omega
      go_wp2_with fail
      have hU : unlike (ps.map (·.2)) := by have := HU.out; rwa [List.take_length] at this
      have HUA := Lib.hid hU
      have hb4 : RowKit.Below w.heap.size w (w3.drewN q) := HB3.out.trans ((below_drewN w3 _).mono HB3.out.size)
      have HE4 := Lib.hid (HE3.out.below (below_drewN w3 q) (Nat.le_refl _))
      have HB4 := Lib.hid hb4
      clear hU hb4 HU HE3 HB3
      generalize w3.drewN q = w4 at *
      obtain ⟨at', hat⟩ : ∃ at' : Nat, turn % (ps.length : Int) = (at' : Int) := ⟨(turn % (ps.length : Int)).toNat, (Int.toNat_of_nonneg (Int.emod_nonneg _ (by omega))).symm⟩
      have hatl : at' < ps.length := by
        have := Int.emod_lt_of_pos turn (show (0 : Int) < (ps.length : Int) by omega)
        omega
      have hatz : (at' : Int) < (ps.length : Int) := by omega
      have hatle : at' ≤ ps.length := by omega
      have hatc : ¬ cap = at' := by omega
      have hatc2 : at' ≤ cap := by omega
      obtain ⟨b, off, rfl⟩ := HE4.out.1.plain pcells_len (by decide) (by intro e; rw [e] at hn1; exact absurd hn1 (by simp))
      have hld := fun W (hE : EvsAt W (.slice (some ⟨b, off, none⟩) ps.length cap) ps) => load_any (some ⟨b, off, none⟩) cap ps work size W hE (by omega) HREM.out
      obtain ⟨r, hr⟩ : ∃ r, r = loadOf (ps.map (·.2)) work size := ⟨_, rfl⟩
      rw [← hr] at hld
      have HLD := Lib.hid hld
      have HRR := Lib.hid hr
      clear hld hr
      refine (HLD.out _ HE4.out).mono ?_
      rintro e w5 ⟨rfl, hb5⟩
      have HE5 := Lib.hid (HE4.out.below hb5 (Nat.le_refl _))
      have HB5 := Lib.hid (HB4.out.trans (hb5.mono HB4.out.size))
      clear hb5 HE4 HB4 HLD
      go_wp2_with fail
      have hdl : (ps.drop at').length = ps.length - at' := List.length_drop
      have hED : EvsAt w5.drew (.slice (some ⟨b, off + at' * 14, none⟩) (ps.drop at').length (cap - at')) (ps.drop at') := by
        have h := HE5.out.sub at' ps.length (by omega) (Nat.le_refl _)
        unfold sliced at h
        rw [if_neg hatc, List.take_length] at h
        simp only [Option.map_some, Addr.add_lit] at h
        rw [hdl]
        exact h.below (below_drew (Below.refl _ _)) (Nat.le_refl _)
      have hET : SlAt pcells w5 (.slice (some ⟨b, off, none⟩) at' cap) (ps.take at') := by
        have h := HE5.out.1.sub pcells_len (by decide) 0 at' (Nat.zero_le _) (by omega)
        unfold sliced at h
        rw [if_neg hcap0, List.drop_zero] at h
        simp only [Option.map_some, Addr.add_lit, Nat.zero_mul, Nat.add_zero, Nat.sub_zero] at h
        exact h
      have hcp := copies_any _ _ _ w5.drew hED (by omega) (fun p hp => HREM.out p (List.mem_of_mem_drop hp))
      rw [hdl] at hcp
      have HCP := Lib.hid hcp
      have HET := Lib.hid hET
      have htl : (ps.take at').length = at' := by rw [List.length_take]; omega
      clear hcp hED hET
      go_region_law (first
        | (go_simp
           refine HCP.out.mono ?_
           rintro e w6 ⟨oq, cq, qs, rfl, hql, hqm, hacc, hb6⟩
           have hb6' : RowKit.Below w5.heap.size w5 w6 := (below_drew (Below.refl _ _)).trans hb6
           have HACC := Lib.hid hacc
           have HQM := Lib.hid hqm
           have HB6 := Lib.hid hb6'
           clear hacc hb6 hb6' hqm HCP)
        | (refine step_app pcells 14 pcells_len (by decide) pcells_one _ rfl _ _ 22 rfl w5.heap.size 46 _ 128 Try.underlying22 infoEv rfl (.slice oq (ps.length - at') cq) qs rfl HACC.out.row (.slice (some ⟨b, off, none⟩) at' cap) (ps.take at') rfl (HET.out.below pcells_len (by decide) HB6.out (Nat.le_refl _)) (by omega) (by omega) HB6.out.size ?_
           intro v7 w7 h7 hg7 hv7
           have hb7 : RowKit.Below w5.heap.size w5 w7 := HB6.out.grown hg7 HB6.out.size fun k hk => (HACC.out.row.lt k hk).1
           have hE7 : EvsAt w7 v7 (qs ++ ps.take at') := evs_more h7.at (fun q hq => ((HACC.out.rem q hq).1.kept hg7 (HACC.out.rem q hq).2).at) (fun q hq => (HE5.out.2 q (List.mem_of_mem_take hq)).below Dot.cells_len (by decide) hb7 (Nat.le_refl _))
           have hlq : loadOf ((qs ++ ps.take at').map (·.2)) work size = r := by
             rw [List.map_append, HQM.out, HRR.out]
             have hu := HUA.out
             rw [← List.take_append_drop at' ps, List.map_append] at hu
             rw [loadOf_turn hu, ← List.map_append, List.take_append_drop]
           have hrq : ∀ p ∈ qs ++ ps.take at', p.2.rem.length ≤ 1000000 := fun p hp => by
             rcases List.mem_append.1 hp with hp | hp
             · have h1 : p.2 ∈ qs.map (·.2) := List.mem_map_of_mem hp
               rw [HQM.out] at h1
               obtain ⟨z, hz, he⟩ := List.mem_map.1 h1
               rw [← he]
               exact HREM.out z (List.mem_of_mem_drop hz)
             · exact HREM.out p (List.mem_of_mem_take hp)
           have hlm : (qs ++ ps.take at').length ≤ 1000000 := by rw [List.length_append]; omega
           obtain ⟨o7, c7, rfl⟩ := slAt_slice h7.at
           have hx := load_any o7 c7 (qs ++ ps.take at') work size w7 hE7 hlm hrq
           rw [hlq] at hx
           generalize (qs ++ ps.take at').length = l7 at hx ⊢
           have HX := Lib.hid hx
           have HB7 := Lib.hid hb7
           clear hx hE7 h7 hg7 hv7 hb7 hlq hrq hlm)
        | (go_simp
           refine HX.out.mono ?_
           rintro e w8 ⟨rfl, hb8⟩
           have hE8 := HE5.out.below (HB7.out.trans (hb8.mono HB7.out.size)) (Nat.le_refl _)
           have HE8 := Lib.hid hE8
           have HB8 := Lib.hid (HB5.out.trans ((HB7.out.trans (hb8.mono HB7.out.size)).mono HB5.out.size))
           clear hb8 hE8))
      clear HX HB7 HACC HQM HB6 HET HE5 HB5
      go_wp2_with fail
      go_loopg [16, 109] 8 (fun gk s16 s109 wr => ∃ (i : Nat) (oq : Option Addr) (cq : Nat) (qs : List PEv), s109 = .int .i64 i ∧ s16 = .slice oq qs.length cq ∧ i ≤ 8 ∧ 8 - i ≤ gk ∧ qs.length ≤ i * 60 ∧ Hid (Acc w8.heap.size 46 41 wr (.slice oq qs.length cq) qs) ∧ Hid (qs.map (·.2) = newest (ps.map (·.2)) work size i) ∧ Hid (RowKit.Below w8.heap.size w8 wr))
      case atStart => exact ⟨0, none, 0, [], rfl, rfl, Nat.zero_le _, Nat.le_refl _, Nat.le_refl _, Acc.nil _ _ _ _, by show _ = _; rfl, Below.refl _ _⟩
      case round =>
        obtain ⟨i, oq2, cq2, qs2, rfl, rfl, hi, hg, hql2, HO, HQ, HB⟩ := hrel
        by_cases hlt : i < 8
        · have hltz : (i : Int) < 8 := by omega
          have hof := of_any (some ⟨b, off, none⟩) cap ps work i size wr (HE8.out.below HB.out (Nat.le_refl _)) (by omega) HREM.out
          have HOF := Lib.hid hof
          clear hof
          go_wp2_with fail
          refine HOF.out.mono ?_
          rintro e w9 ⟨v9, qs9, rfl, hqn9, hqm9, hacc9, hb9⟩
          have HACC9 := Lib.hid hacc9
          have HQM9 := Lib.hid hqm9
          have HB9 := Lib.hid hb9
          clear hacc9 hqm9 hb9 HOF
          go_wp2_with (at_builtin; go_loud (refine wpList_app pcells 14 pcells_len (by decide) pcells_one _ rfl _ _ 22 rfl w8.heap.size 46 _ 128 Try.underlying22 infoEv rfl _ qs2 rfl ?h1 v9 qs9 rfl ?h2 ?h3 ?h4 ?h5 ?_))
          case h1 => exact HO.out.row.below HB9.out (Nat.le_refl _)
          case h2 => exact HACC9.out.row.at
          case h3 => omega
          case h4 => omega
          case h5 => exact Nat.le_trans HB.out.size HB9.out.size
          intro v10 w10 h10 hg10 hv10
          have hacc10 : Acc w8.heap.size 46 41 w10 v10 (qs2 ++ qs9) := (HO.out.below HB9.out (Nat.le_refl _)).push (fun q hq => by
            have h := HACC9.out.rem q hq
            refine ⟨h.1.lower HB.out.size, ?_⟩
            cases hx : q.1.val.ownBlock with
            | none => exact .inl rfl
            | some g =>
              refine .inr fun e2 => ?_
              have k1 := (h.1.lt g hx).1
              have k2 := (HO.out.row.lt g e2.symm).2
              omega) h10 hg10 hv10
          have hb10 : RowKit.Below w8.heap.size w8 w10 := (HB.out.trans (HB9.out.mono HB.out.size)).grown hg10 (Nat.le_trans HB.out.size HB9.out.size) fun k hk => (HO.out.row.lt k hk).1
          have hn10 : (qs2 ++ qs9).map (·.2) = newest (ps.map (·.2)) work size (i + 1) := by rw [newest_succ, List.map_append, HQ.out, HQM9.out]
          have hl10 : (qs2 ++ qs9).length ≤ (i + 1) * 60 := by rw [List.length_append]; omega
          obtain ⟨o10, c10, rfl⟩ := slAt_slice h10.at
          have HACC10 := Lib.hid hacc10
          have HB10 := Lib.hid hb10
          have HN10 := Lib.hid hn10
          clear hacc10 hb10 hn10 h10 hg10 hv10
          generalize qs2 ++ qs9 = qs10 at *
          go_wp2_with fail
          go_roundg (8 - (i + 1))
          case measure => omega
          case rel => exact ⟨i + 1, o10, c10, qs10, by go_num, rfl, by omega, Nat.le_refl _, hl10, HACC10, HN10, HB10⟩
        · have hltz : ¬ (i : Int) < 8 := by omega
          obtain rfl : i = 8 := by omega
          have hlq : loadOf (qs2.map (·.2)) work size = r := by rw [HQ.out, loadOf_newest, HRR.out]
          have hrq : ∀ p ∈ qs2, p.2.rem.length ≤ 1000000 := fun p hp => by
            have h1 : p.2 ∈ qs2.map (·.2) := List.mem_map_of_mem hp
            rw [HQ.out] at h1
            obtain ⟨z, hz, he⟩ := List.mem_map.1 (newest_mem h1)
            rw [← he]
            exact HREM.out z hz
          have hx := load_any oq2 cq2 qs2 work size wr HO.out.evs (by omega) hrq
          rw [hlq] at hx
          have HX := Lib.hid hx
          clear hx hlq hrq
          go_wp2_with fail
          refine HX.out.mono ?_
          rintro e w11 ⟨rfl, hb11⟩
          have HB11 := Lib.hid hb11
          clear hb11
          go_wp2_with fail
          go_ret
          exact ⟨rfl, (HB8.out.trans (HB.out.mono HB8.out.size)).trans (HB11.out.mono (Nat.le_trans HB8.out.size HB.out.size))⟩
end Go.Proofs.Ytfbbafmklahmmaa
