/-
  The law PolicyWorks walked: it returns true, and turns nothing that was there.
-/
import Derived.Test.YtflijljekbihfaaWin
import Derived.Test.YtflijljekbihfaaWorks
import Derived.Test.YtflijljekbihfaaCountP
import Derived.Test.YtflijljekbihfaaAlive09
import Derived.Test.YtflijljekbihfaaRef07
import Derived.Test.YtflijljekbihfaaOpenEv
import Derived.Test.YtflijljekbihfaaUnlike
namespace Go.Proofs.Ytflijljekbihfaa
open Go.Shelf Go.RowKit Go.Lib Go.Sort
set_option linter.unusedVariables false

theorem win_ok (evs : List Ev) (work : Int) : ∃ (p : Pol) (d : Dot), winV (stSort evLater (evs.filter (isSet work))) = .tuple #[.agg #[.int .i64 p.mn, .int .i64 p.mx, .int .i64 p.goal, .int .i64 p.slack, .int .i64 p.up, .int .i64 p.down, .int .i64 p.cool], .agg #[.int .i64 d.node, .int .i64 d.seq], .bool (decide (0 < (evs.filter (isSet work)).length))] := by
  have hl : (stSort evLater (evs.filter (isSet work))).length = (evs.filter (isSet work)).length := stSort_length
  rw [← hl]
  cases stSort evLater (evs.filter (isSet work)) with
  | nil => exact ⟨⟨0, 0, 0, 0, 0, 0, 0⟩, ⟨0, 0⟩, rfl⟩
  | cons e l => exact ⟨e.pol, e.dot, by simp [winV]⟩
theorem winner_ok (oa : Option Addr) (cap : Nat) (ps : List PEv) (work : Int) (w : World) (h : EvsAt w (.slice oa ps.length cap) ps) (hl : ps.length ≤ 1000000) (hr : ∀ p ∈ ps, p.2.rem.length ≤ 1000000) :
    ∃ (p : Pol) (d : Dot), Calls Try.prog 11 #[.slice oa ps.length cap, .int .i64 work] w fun e w' => e = .returned (.tuple #[.agg #[.int .i64 p.mn, .int .i64 p.mx, .int .i64 p.goal, .int .i64 p.slack, .int .i64 p.up, .int .i64 p.down, .int .i64 p.cool], .agg #[.int .i64 d.node, .int .i64 d.seq], .bool (decide (0 < ((ps.map (·.2)).filter (isSet work)).length))]) ∧ RowKit.Below w.heap.size w w' := by
  obtain ⟨p, d, hv⟩ := win_ok (ps.map (·.2)) work
  refine ⟨p, d, (winner_any oa cap ps work w h hl hr).mono ?_⟩
  rintro e w' ⟨l, h1, h2, h3⟩
  exact ⟨by rw [h2, stSort_eq swo_evLater h1, hv], h3⟩
theorem sets_len {ps qs : List PEv} {work : Int} (h : stableOf evLater ((ps.map (·.2)).filter (isSet work)) (qs.map (·.2))) : qs.length = ((ps.map (·.2)).filter (isSet work)).length := by
  have h1 := congrArg List.length (stSort_eq swo_evLater h)
  rwa [stSort_length, List.length_map] at h1
theorem mem_take_succ (l : List Int) (j : Nat) (x : Int) (hj : j < l.length) (b : Bool) (hb : b = decide (x ∈ l.take j)) : (b || l[j]'hj == x) = decide (x ∈ l.take (j + 1)) := by
  subst hb
  rw [List.take_succ_eq_append_getElem hj]
  rw [Bool.eq_iff_iff]
  simp only [Bool.or_eq_true, decide_eq_true_eq, beq_iff_eq, List.mem_append, List.mem_singleton]
  constructor
  · rintro (h | h)
    · exact .inl h
    · exact .inr h.symm
  · rintro (h | h)
    · exact .inl h
    · exact .inr h.symm
set_option maxRecDepth 100000 in
set_option maxHeartbeats 8000000 in
theorem lawWorks (oa : Option Addr) (cap : Nat) (ps : List PEv) (w : World) (h : EvsAt w (.slice oa ps.length cap) ps) (hl : ps.length ≤ 1099511627776) (hf : ∀ p ∈ ps, p.2.fits) :
    Calls Try.prog 4 #[.slice oa ps.length cap] w fun e w' => e = .returned (.bool true) ∧ RowKit.Below w.heap.size w w' := by
  have HE := Lib.hid h
  have AL := Lib.hid alive09
  have hgr := fun W (hE : EvsAt W (.slice oa ps.length cap) ps) => great_any oa cap ps W hE hl (fun p hp => (hf p hp).2.2.2.2.2.2.2)
  have HGR := Lib.hid hgr
  clear h hgr hf
  go_enter Try.func4, Try.ntmps4
  go_wp2_with fail
  refine (AL.out _).mono ?_
  rintro e w1 ⟨rfl, hb1⟩
  have HE2 := Lib.hid (HE.out.below hb1 (Nat.le_refl _))
  have HB2 := Lib.hid hb1
  clear hb1
  go_wp2_with fail
  refine (HGR.out _ HE2.out).mono ?_
  rintro e w3 ⟨rfl, hb3⟩
  have HE3 := Lib.hid (HE2.out.below hb3 (Nat.le_refl _))
  have HB3 := Lib.hid (HB2.out.trans (hb3.mono HB2.out.size))
  clear hb3 HE2 HB2
  by_cases hbk : 3000 < bulk (ps.map (·.2))
  · rw [decide_eq_true hbk]
    go_wp2_with fail
    go_ret
    exact ⟨rfl, HB3.out⟩
  rw [decide_eq_false hbk]
  by_cases h200 : (200 : Int) < (ps.length : Int)
  · go_wp2_with fail
    go_ret
    exact ⟨rfl, HB3.out⟩
  have hpl : ps.length ≤ 200 := by omega
  have hrem : ∀ p ∈ ps, p.2.rem.length ≤ 1000000 := fun p hp => by
    have := bulk_mem (ps.map (·.2)) p.2 (List.mem_map_of_mem hp)
    omega
  have HREM := Lib.hid hrem
  have hwo := works_any oa cap ps w3 HE3.out (by omega)
  have HWO := Lib.hid hwo
  clear hrem hbk hwo
  go_wp2_with fail
  refine HWO.out.mono ?_
  rintro e w4 ⟨o4, c4, l4, rfl, hi4, hn4, hs4, hb4⟩
  have HE4 := Lib.hid (HE3.out.below hb4 (Nat.le_refl _))
  have HB4 := Lib.hid (HB3.out.trans (hb4.mono HB3.out.size))
  have HS4 := Lib.hid hs4
  have HI4 := Lib.hid hi4
  clear hb4 hs4 hi4 HE3 HB3 HWO
  go_wp2_with fail
  go_loopg [5, 33] ps.length (fun gk s5 s33 wr => ∃ (i n : Nat), s33 = .int .i64 i ∧ s5 = .int .i64 n ∧ i ≤ ps.length ∧ ps.length - i ≤ gk ∧ n ≤ i ∧ Hid (n = (((ps.take i).map (·.2)).filter fun e => e.kind == 2).length) ∧ Hid (Below w4.heap.size w4 wr))
  case atStart => exact ⟨0, 0, rfl, rfl, Nat.zero_le _, Nat.le_refl _, Nat.le_refl _, by show _ = _; rfl, Below.refl _ _⟩
  case round =>
    obtain ⟨i, n, rfl, rfl, hi, hg, hni, HN, HB⟩ := hrel
    by_cases hlt : i < ps.length
    · have hltz : (i : Int) < (ps.length : Int) := by omega
      have hsl : SlAt pcells wr (.slice oa ps.length cap) ps := HE4.out.1.below pcells_len (by decide) HB.out (Nat.le_refl _)
      obtain ⟨b, off, rfl⟩ := hsl.plain pcells_len (by decide) (by intro e; rw [e] at hlt; exact absurd hlt (by simp))
      obtain ⟨ra, rn, rc, ev, hp, c0, c1, c2, c3, c4, c5, c6, c7, c8, c9, c10, c11, c12, c13⟩ := hsl.ev i hlt
      have htk := take_filter (fun e => e.kind == 2) ps i _ hp
      simp only at htk
      have HTK := Lib.hid htk
      clear hsl hp htk
      by_cases hk : (ev.kind == 2) = true
      · have HK := Lib.hid hk
        go_wp2_with fail
        go_roundg (ps.length - (i + 1))
        case measure => omega
        case rel => exact ⟨i + 1, n + 1, by go_num, by go_num, by omega, Nat.le_refl _, by omega, by show _ = _; rw [HTK.out, List.length_append, ← HN.out, if_pos HK.out]; rfl, HB.out.trans ((Below.refl _ _).alloc HB.out.size _)⟩
      · have hk' : (ev.kind == 2) = false := by simpa using hk
        have HK := Lib.hid hk
        clear hk
        go_wp2_with fail
        go_roundg (ps.length - (i + 1))
        case measure => omega
        case rel => exact ⟨i + 1, n, by go_num, rfl, by omega, Nat.le_refl _, by omega, by show _ = _; rw [HTK.out, List.length_append, ← HN.out, if_neg HK.out]; rfl, HB.out.trans ((Below.refl _ _).alloc HB.out.size _)⟩
    · have hltz : ¬ (i : Int) < (ps.length : Int) := by omega
      obtain rfl : i = ps.length := by omega
      have hn : n = setsOf (ps.map (·.2)) l4 := by
        have := HN.out
        rw [List.take_length] at this
        rw [this, setsOf_all HI4.out]
      have HN2 := Lib.hid hn
      have HE5 := Lib.hid (HE4.out.below HB.out (Nat.le_refl _))
      have HB5 := Lib.hid (HB4.out.trans (HB.out.mono HB4.out.size))
      have HS5 := Lib.hid (HS4.out.below icells_len (by decide) HB.out (Nat.le_refl _))
      clear hn HN HE4 HB4 HS4 HB
      generalize wr = w5 at *
      go_wp2_with fail
      go_loopg [4, 45] l4.length (fun gk s4 s45 wr => ∃ (i m : Nat), s45 = .int .i64 i ∧ s4 = .int .i64 m ∧ i ≤ l4.length ∧ l4.length - i ≤ gk ∧ m ≤ i * 200 ∧ Hid (m = setsOf (ps.map (·.2)) (l4.take i)) ∧ Hid (Below w5.heap.size w5 wr))
      case atStart => exact ⟨0, 0, rfl, rfl, Nat.zero_le _, Nat.le_refl _, Nat.zero_le _, by show _ = _; rfl, Below.refl _ _⟩
      case round =>
        obtain ⟨i, m, rfl, rfl, hi2, hg2, hmi, HM, HB⟩ := hrel
        by_cases hlt2 : i < l4.length
        · have hltz2 : (i : Int) < (l4.length : Int) := by omega
          have hsl := HS5.out.below icells_len (by decide) HB.out (Nat.le_refl _)
          obtain ⟨b2, off2, rfl⟩ := hsl.plain icells_len (by decide) (by intro e; rw [e] at hlt2; exact absurd hlt2 (by simp))
          have hall : ∀ j (hj : j < l4.length), wr.cell? ⟨b2, off2 + j, none⟩ = some (.int .i64 (l4[j]'hj)) := fun j hj => by
            have := hsl.cell icells_len (i := j) (c := 0) hj (by decide)
            simpa [icells] using this
          have d0 := hall i hlt2
          have hE6 := HE5.out.below HB.out (Nat.le_refl _)
          obtain ⟨p, d, hw⟩ := winner_ok oa cap ps (l4[i]'hlt2) wr hE6 (by omega) HREM.out
          have hok : decide (0 < ((ps.map (·.2)).filter (isSet (l4[i]'hlt2))).length) = true := decide_eq_true ((isWorks_iff HI4.out _).1 (List.getElem_mem hlt2))
          rw [hok] at hw
          have hm2 : setsOf (ps.map (·.2)) (l4.take (i + 1)) = m + ((ps.map (·.2)).filter (isSet (l4[i]'hlt2))).length := by
            rw [List.take_succ_eq_append_getElem hlt2, setsOf_snoc, ← HM.out]
          have hprev : ∀ (k : Nat) (hk : k < l4.length), k < i → l4[k]'hk < l4[i]'hlt2 := fun k hk hki => List.pairwise_iff_getElem.1 HI4.out.rises k i hk hlt2 hki
          have hst := fun W (hE : EvsAt W (.slice oa ps.length cap) ps) => sets_any oa cap ps (l4[i]'hlt2) W hE (by omega) HREM.out
          have hbz := (hsl.lt icells_len (by decide) (by intro e; rw [e] at hlt2; exact absurd hlt2 (by simp))) b2 rfl
          have HALL := Lib.hid hall
          have HPREV := Lib.hid hprev
          have HW := Lib.hid hw
          have HM2 := Lib.hid hm2
          have HST := Lib.hid hst
          have HE6 := Lib.hid hE6
          clear hall hprev hw hm2 hst hok hsl hE6
          generalize hx : l4[i]'hlt2 = x at *
          go_wp2_with fail
          refine HW.out.mono ?_
          rintro e w7 ⟨rfl, hb7⟩
          have HB7 := Lib.hid (HB.out.trans (hb7.mono HB.out.size))
          have HE7 := Lib.hid (HE6.out.below hb7 (Nat.le_refl _))
          obtain ⟨hcell, hfr⟩ := bcell hb7
          have hall7 := fun j hj => (hcell b2 (off2 + j) hbz).trans (HALL.out j hj)
          have hz7 : b2 < w7.heap.size := by have := hb7.size; omega
          clear hb7 hcell hfr HALL HW HE6 d0
          cases i with
          | zero =>
            clear hall7
            go_wp2_with fail
            refine (HST.out _ (HE7.out.below (((Below.refl _ _).alloc (Nat.le_refl _) _).alloc (by simp) _) (Nat.le_refl _))).mono ?_
            rintro e w8 ⟨v8, q8, rfl, hst8, hacc8, hb8⟩
            obtain ⟨o8, c8, rfl⟩ := slAt_slice hacc8.row.at
            have hlen8 := sets_len hst8
            have hle8 := List.length_filter_le (isSet x) (ps.map (·.2))
            rw [List.length_map, ← hlen8] at hle8
            have hb5 : Below w5.heap.size w5 w8 := ((HB7.out.alloc HB7.out.size _).alloc (by have := HB7.out.size; simp; omega) _).trans (hb8.mono (by have := HB7.out.size; simp; omega))
            have hm8 := HM2.out
            rw [← hlen8] at hm8
            have HM8 := Lib.hid hm8
            have HB8 := Lib.hid hb5
            clear hst8 hacc8 hb8 hb5 hm8 HM2 hlen8
            generalize q8.length = r at *
            go_wp2_with fail
            go_roundg (l4.length - (0 + 1))
            case measure => omega
            case rel => exact ⟨0 + 1, m + r, by go_num, by go_num, by omega, Nat.le_refl _, by omega, HM8.out.symm, HB8⟩
          | succ k =>
            have hkl : k < l4.length := by omega
            have d7 := hall7 k hkl
            have hlt7 := HPREV.out k hkl (by omega)
            clear hall7
            generalize l4[k]'hkl = y at *
            have hge : ¬ x ≤ y := by omega
            go_wp2_with fail
            refine (HST.out _ (HE7.out.below (((Below.refl _ _).alloc (Nat.le_refl _) _).alloc (by simp) _) (Nat.le_refl _))).mono ?_
            rintro e w8 ⟨v8, q8, rfl, hst8, hacc8, hb8⟩
            obtain ⟨o8, c8, rfl⟩ := slAt_slice hacc8.row.at
            have hlen8 := sets_len hst8
            have hle8 := List.length_filter_le (isSet x) (ps.map (·.2))
            rw [List.length_map, ← hlen8] at hle8
            have hb5 : Below w5.heap.size w5 w8 := ((HB7.out.alloc HB7.out.size _).alloc (by have := HB7.out.size; simp; omega) _).trans (hb8.mono (by have := HB7.out.size; simp; omega))
            have hm8 := HM2.out
            rw [← hlen8] at hm8
            have HM8 := Lib.hid hm8
            have HB8 := Lib.hid hb5
            clear hst8 hacc8 hb8 hb5 hm8 HM2 hlen8
            generalize q8.length = r at *
            go_wp2_with fail
            go_roundg (l4.length - ((k + 1) + 1))
            case measure => omega
            case rel => exact ⟨(k + 1) + 1, m + r, by go_num, by go_num, by omega, Nat.le_refl _, by omega, HM8.out.symm, HB8⟩
        · have hltz2 : ¬ (i : Int) < (l4.length : Int) := by omega
          obtain rfl : i = l4.length := by omega
          have hm2 : m = n := by
            have := HM.out
            rw [List.take_length] at this
            rw [this, HN2.out]
          subst hm2
          have HE6 := Lib.hid (HE5.out.below HB.out (Nat.le_refl _))
          have HB6 := Lib.hid (HB5.out.trans (HB.out.mono HB5.out.size))
          have HS6 := Lib.hid (HS5.out.below icells_len (by decide) HB.out (Nat.le_refl _))
          clear HE5 HB5 HS5 HB HM HN2
          generalize wr = w6 at *
          go_wp2_with fail
          go_loopg [13] 10 (fun gk s13 wr => ∃ (x : Int), s13 = .int .i64 x ∧ -1 ≤ x ∧ x ≤ 9 ∧ (9 - x).toNat ≤ gk ∧ Hid (Below w6.heap.size w6 wr))
          case atStart => exact ⟨-1, rfl, by omega, by omega, by omega, Below.refl _ _⟩
          case round =>
            obtain ⟨x, rfl, hx1, hx2, hg3, HB⟩ := hrel
            by_cases hx8 : x ≤ 8
            · have hE7 := HE6.out.below HB.out (Nat.le_refl _)
              obtain ⟨p, d, hw⟩ := winner_ok oa cap ps x wr hE7 (by omega) HREM.out
              have hok : decide (0 < ((ps.map (·.2)).filter (isSet x)).length) = decide (x ∈ l4) := decide_eq_decide.2 (isWorks_iff HI4.out x).symm
              rw [hok] at hw
              generalize hbb : decide (x ∈ l4) = bb at hw
              have HS7 := Lib.hid (HS6.out.below icells_len (by decide) HB.out (Nat.le_refl _))
              have HBB := Lib.hid hbb
              have HW := Lib.hid hw
              have HB7 := Lib.hid HB.out
              clear hw hok hbb hE7 HB
              generalize wr = w7 at *
              go_wp2_with fail
              go_loopg [14, 85] l4.length (fun gk2 s14 s85 wr => ∃ (j : Nat) (is : Bool), s85 = .int .i64 j ∧ s14 = .bool is ∧ j ≤ l4.length ∧ l4.length - j ≤ gk2 ∧ wr = w7 ∧ Hid (is = decide (x ∈ l4.take j)))
              case atStart => exact ⟨0, false, rfl, rfl, Nat.zero_le _, Nat.le_refl _, rfl, by show _ = _; simp⟩
              case round =>
                obtain ⟨j, is, rfl, rfl, hj, hg4, rfl, HIS⟩ := hrel
                by_cases hlj : j < l4.length
                · have hljz : (j : Int) < (l4.length : Int) := by omega
                  have hsl := HS7.out
                  obtain ⟨b2, off2, rfl⟩ := hsl.plain icells_len (by decide) (by intro e; rw [e] at hlj; exact absurd hlj (by simp))
                  have d0 : wr.cell? ⟨b2, off2 + j, none⟩ = some (.int .i64 (l4[j]'hlj)) := by
                    have := hsl.cell icells_len (i := j) (c := 0) hlj (by decide)
                    simpa [icells] using this
                  have HNX := Lib.hid (mem_take_succ l4 j x hlj is HIS.out)
                  clear hsl
                  generalize l4[j]'hlj = y at *
                  cases is with
                  | true =>
                    have hn : true = decide (x ∈ l4.take (j + 1)) := by rw [← HNX.out]; rfl
                    have HN := Lib.hid hn
                    clear hn
                    go_wp2_with fail
                    go_roundg (l4.length - (j + 1))
                    case measure => omega
                    case rel => exact ⟨j + 1, true, by go_num, rfl, by omega, Nat.le_refl _, rfl, HN⟩
                  | false =>
                    have hn : (y == x) = decide (x ∈ l4.take (j + 1)) := by rw [← HNX.out]; rfl
                    generalize hyx : (y == x) = yx at *
                    have HN := Lib.hid hn
                    clear hn
                    go_wp2_with fail
                    go_roundg (l4.length - (j + 1))
                    case measure => omega
                    case rel => exact ⟨j + 1, yx, by go_num, rfl, by omega, Nat.le_refl _, rfl, HN⟩
                · have hljz : ¬ (j : Int) < (l4.length : Int) := by omega
                  obtain rfl : j = l4.length := by omega
                  have his : is = bb := by rw [HIS.out, List.take_length]; exact HBB.out
                  subst his
                  go_wp2_with fail
                  refine HW.out.mono ?_
                  rintro e w8 ⟨rfl, hb8⟩
                  have HB8 := Lib.hid (HB7.out.trans (hb8.mono HB7.out.size))
                  clear hb8 HW
                  go_wp2_with fail
                  go_roundg ((9 - (x + 1)).toNat)
                  case measure => omega
                  case rel => exact ⟨x + 1, by go_num, by omega, by omega, Nat.le_refl _, (HB8.out.alloc HB8.out.size _).alloc (by have := HB8.out.size; simp; omega) _⟩
            · have hx9 : x = 9 := by omega
              subst hx9
              have HB9 := Lib.hid (HB6.out.trans (HB.out.mono HB6.out.size))
              go_wp2_with fail
              go_ret
              exact ⟨rfl, HB9.out⟩
end Go.Proofs.Ytflijljekbihfaa
