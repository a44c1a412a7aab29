/-
  ActCools walked: behind a write nothing is planned for Cool ticks; then it is again, step by step, until what is asked for is there.
-/
import Derived.Test.YtjgbflclhkeibaaMAllP
import Derived.Test.YtjgbflclhkeibaaMCoolP
import Derived.BigQuiet
import Derived.Deep.QuietTactic
import Derived.BigRegion
namespace Go.Proofs.Ytjgbflclhkeibaa
open Go.Shelf Go.RowKit Go.Lib Go.Sort
set_option linter.unusedVariables false
set_option maxRecDepth 100000 in
set_option maxHeartbeats 16000000 in
theorem actCools_any (q : Pol) (load now keep : Int) (l0 : 0 ≤ load) (l1 : load ≤ 65535) (n0 : 0 ≤ now) (n1 : now ≤ 255) (k0 : 0 ≤ keep) (k1 : keep ≤ 255) (w : World) :
    Calls Try.prog 5 #[.agg #[.int .i64 q.mn, .int .i64 q.mx, .int .i64 q.goal, .int .i64 q.slack, .int .i64 q.up, .int .i64 q.down, .int .i64 q.cool, .int .u16 load, .int .u8 now, .int .u8 keep]] w fun e w' => e = .returned (.bool true) ∧ Below w.heap.size w w' := by
  have hal := fun W => alive24_any W
  have HAL := Lib.hid hal
  clear hal
  go_enter Try.func5, Try.ntmps5
  go_wp2_with fail
  refine (HAL.out _).mono ?_
  rintro e w1 ⟨rfl, hb1⟩
  have hrow : w1.heap[w.heap.size]? = some (.cells #[.int .i64 q.mn, .int .i64 q.mx, .int .i64 q.goal, .int .i64 q.slack, .int .i64 q.up, .int .i64 q.down, .int .i64 q.cool, .int .u16 load, .int .u8 now, .int .u8 keep] 60) := (hb1.block _ (by simp)).trans (heap_alloc_new w _)
  have m0 : w1.cell? ⟨w.heap.size, 0, none⟩ = some (.int .i64 q.mn) := cell_of_row _ _ 0 _ _ _ hrow
  have m1 : w1.cell? ⟨w.heap.size, 1, none⟩ = some (.int .i64 q.mx) := cell_of_row _ _ 1 _ _ _ hrow
  have m2 : w1.cell? ⟨w.heap.size, 2, none⟩ = some (.int .i64 q.goal) := cell_of_row _ _ 2 _ _ _ hrow
  have m3 : w1.cell? ⟨w.heap.size, 3, none⟩ = some (.int .i64 q.slack) := cell_of_row _ _ 3 _ _ _ hrow
  have m4 : w1.cell? ⟨w.heap.size, 4, none⟩ = some (.int .i64 q.up) := cell_of_row _ _ 4 _ _ _ hrow
  have m5 : w1.cell? ⟨w.heap.size, 5, none⟩ = some (.int .i64 q.down) := cell_of_row _ _ 5 _ _ _ hrow
  have m6 : w1.cell? ⟨w.heap.size, 6, none⟩ = some (.int .i64 q.cool) := cell_of_row _ _ 6 _ _ _ hrow
  have m7 : w1.cell? ⟨w.heap.size, 7, none⟩ = some (.int .u16 load) := cell_of_row _ _ 7 _ _ _ hrow
  have m8 : w1.cell? ⟨w.heap.size, 8, none⟩ = some (.int .u8 now) := cell_of_row _ _ 8 _ _ _ hrow
  have m9 : w1.cell? ⟨w.heap.size, 9, none⟩ = some (.int .u8 keep) := cell_of_row _ _ 9 _ _ _ hrow
  have hwlt : w.heap.size < w1.heap.size := (Array.getElem?_eq_some_iff.1 hrow).1
  have HB1 := Lib.hid (((Below.refl w.heap.size w).alloc (Nat.le_refl _) (.cells #[.int .i64 q.mn, .int .i64 q.mx, .int .i64 q.goal, .int .i64 q.slack, .int .i64 q.up, .int .i64 q.down, .int .i64 q.cool, .int .u16 load, .int .u8 now, .int .u8 keep] 60)).trans (hb1.mono (by simp)))
  clear hb1 hrow
  go_wp2_with fail
  go_region
  go_wp2_with fail
  obtain ⟨cl, hcl⟩ : ∃ cl, wrap64 ((IntKind.u64.wrap q.cool).tmod 20) = cl := ⟨_, rfl⟩
  have hcl0 : 0 ≤ cl ∧ cl ≤ 19 := by
    rw [← hcl, IntKind.wrap_u64]
    have h1 := Int.emod_nonneg q.cool (show (18446744073709551616 : Int) ≠ 0 by decide)
    have h2 := Int.tmod_nonneg (20 : Int) h1
    have h3 := Int.tmod_lt_of_pos (q.cool % 18446744073709551616) (show (0 : Int) < 20 by decide)
    unfold wrap64
    omega
  rw [hcl]
  obtain ⟨p, e1, e2, e3, e4, e5, e6, e7⟩ : ∃ p : Pol, p.mn = q.mn ∧ p.mx = q.mx ∧ p.goal = q.goal ∧ p.slack = 0 ∧ p.up = q.up ∧ p.down = q.down ∧ p.cool = cl := ⟨⟨q.mn, q.mx, q.goal, 0, q.up, q.down, cl⟩, rfl, rfl, rfl, rfl, rfl, rfl, rfl⟩
  rw [← e7] at hcl0
  simp only [← e1, ← e2, ← e3, ← e5, ← e6, ← e7]
  clear hcl m0 m1 m2 m3 m4 m5 m6 m7 m8 m9 e1 e2 e3 e5 e6 e7
  have hpb0 : (w1.alloc (.cells #[.int .i64 p.mn, .int .i64 p.mx, .int .i64 p.goal, .int .i64 0, .int .i64 p.up, .int .i64 p.down, .int .i64 p.cool] 31)).drew.heap[w1.heap.size]? = some (.cells #[.int .i64 p.mn, .int .i64 p.mx, .int .i64 p.goal, .int .i64 0, .int .i64 p.up, .int .i64 p.down, .int .i64 p.cool] 31) := heap_alloc_new w1 _
  have HB2 := Lib.hid (below_drew (HB1.out.alloc HB1.out.size (.cells #[.int .i64 p.mn, .int .i64 p.mx, .int .i64 p.goal, .int .i64 0, .int .i64 p.up, .int .i64 p.down, .int .i64 p.cool] 31)))
  have hpbs := HB1.out.size
  generalize (w1.alloc (.cells #[.int .i64 p.mn, .int .i64 p.mx, .int .i64 p.goal, .int .i64 0, .int .i64 p.up, .int .i64 p.down, .int .i64 p.cool] 31)).drew = w2 at *
  generalize w1.heap.size = pb at *
  have hpblt : pb < w2.heap.size := (Array.getElem?_eq_some_iff.1 hpb0).1
  have HPB := Lib.hid hpb0
  have hask := policyAsked_any p load w2
  rw [e4] at hask
  obtain ⟨A, hA⟩ : ∃ A, (asked p load).1 = A := ⟨_, rfl⟩
  rw [hA] at hask
  have hkz : 1 ≤ keep % 16 + 1 ∧ keep % 16 + 1 ≤ 16 := by omega
  have HC0 := Lib.hid hcl0
  have HE4 := Lib.hid e4
  clear HB1 HAL hpb0 hcl0
  by_cases hpr : p.right
  · have hcd : (asked p load).2 = 0 := asked_ok hpr load
    rw [hcd] at hask
    have HASK := Lib.hid hask
    have HPR := Lib.hid hpr
    have HAA := Lib.hid hA
    have HAb := Lib.hid (show 0 ≤ A ∧ A ≤ 1000 by rw [← hA]; exact asked_bd hpr load)
    clear hask hcd hpr hA
    have hri : (⟨5, 4, keep % 16 + 1, 0⟩ : ACfg).right := by unfold ACfg.right; simp; omega
    have hnw := fun W => actNew_right ⟨5, 4, keep % 16 + 1, 0⟩ hri W
    have hkn := fun W => known_any p load W
    rw [e4] at hkn
    have HNW := Lib.hid hnw
    have HRI := Lib.hid hri
    have HKN := Lib.hid hkn
    clear hnw hri hkn e4
    refine HASK.out.mono ?_
    rintro e w3 ⟨rfl, hb3⟩
    have HB3 := Lib.hid (HB2.out.trans (hb3.mono HB2.out.size))
    have HP3 := Lib.hid ((hb3.block pb hpblt).trans HPB.out)
    have hz3 : pb < w3.heap.size := Nat.lt_of_lt_of_le hpblt hb3.size
    clear hb3 HB2 HPB HASK
    go_wp2_with fail
    refine (HNW.out _).mono ?_
    rintro e w4 ⟨ab, rfl, hab, ha4, hb4⟩
    have HA4 := Lib.hid ha4
    have HB4 := Lib.hid (HB3.out.trans (hb4.mono HB3.out.size))
    have HP4 := Lib.hid ((hb4.block pb hz3).trans HP3.out)
    have hz4 : pb < w4.heap.size := Nat.lt_of_lt_of_le hz3 hb4.size
    have hwab : w.heap.size ≤ ab := Nat.le_trans HB3.out.size hab
    have hpab : pb ≠ ab := by omega
    have habl := ha4.lt
    have hcc := cell_of_row _ _ 0 _ _ _ HP4.out
    have d0 : w4.cell? ⟨pb, 0, none⟩ = some (.int .i64 p.mn) := cell_of_row _ _ 0 _ _ _ HP4.out
    have d1 : w4.cell? ⟨pb, 1, none⟩ = some (.int .i64 p.mx) := cell_of_row _ _ 1 _ _ _ HP4.out
    have d2 : w4.cell? ⟨pb, 2, none⟩ = some (.int .i64 p.goal) := cell_of_row _ _ 2 _ _ _ HP4.out
    have d3 : w4.cell? ⟨pb, 3, none⟩ = some (.int .i64 0) := cell_of_row _ _ 3 _ _ _ HP4.out
    have d4 : w4.cell? ⟨pb, 4, none⟩ = some (.int .i64 p.up) := cell_of_row _ _ 4 _ _ _ HP4.out
    have d5 : w4.cell? ⟨pb, 5, none⟩ = some (.int .i64 p.down) := cell_of_row _ _ 5 _ _ _ HP4.out
    have d6 : w4.cell? ⟨pb, 6, none⟩ = some (.int .i64 p.cool) := cell_of_row _ _ 6 _ _ _ HP4.out
    clear ha4 hb4 HB3 HP3 HNW hcc
    go_wp2_with fail
    refine (HKN.out _).mono ?_
    rintro e w5 ⟨eb, rfl, heb, he5, hb5⟩
    have hst : ActSt ab eb ⟨5, 4, keep % 16 + 1, 0⟩ p load 0 w w5 Trk.none := ⟨HB4.out.trans (hb5.mono HB4.out.size), hwab, by omega, he5, _, _, HA4.out.below hb5, rfl⟩
    have HST := Lib.hid hst
    have HP5 := Lib.hid ((hb5.block pb hz4).trans HP4.out)
    clear hst he5 hb5 HB4 HA4 HP4 d0 d1 d2 d3 d4 d5 d6 heb HKN
    go_wp2_with fail
    have HST0 := Lib.hid (show Below w.heap.size w w5 from HST.out.below)
    go_loopg [12, 13, 60] 30000 (fun gk s12 s13 s60 wr => ∃ (tick : Nat) (at' wrote : Int) (t : Trk), s60 = .int .i64 tick ∧ s12 = .int .i64 at' ∧ s13 = .int .i64 wrote ∧ 30000 - tick ≤ gk ∧ Hid (ActSt ab eb ⟨5, 4, keep % 16 + 1, 0⟩ p load 0 w wr t) ∧ Hid (w5.grownBy wr (some ab)) ∧ Hid (CoolSt A (keep % 16 + 1) p.cool tick at' wrote t))
    case atStart => exact ⟨0, now, -1, Trk.none, rfl, rfl, rfl, Nat.le_refl _, HST.out, World.grownBy.refl _ _, cool_start HAb.out.1 HAb.out.2 n0 n1 hkz.2 (by omega)⟩
    case round =>
      obtain ⟨tick, at', wrote, t, rfl, rfl, rfl, hg, HT, HG, HCS⟩ := hrel
      obtain ⟨hlt, hcA, hcB⟩ := cool_step (tick := (tick : Int)) HPR.out HE4.out l0 l1 hkz.1 hkz.2 HAA.out.symm HC0.out.2 (by omega) HCS.out
      have hltz : (tick : Int) < 30000 := hlt
      have hpl := HT.out.plan (by decide) HRI.out (show (0 : Int) ≤ 0 ∧ (0 : Int) < 18446744073709551616 by decide) 5 at' tick
      rw [show ((0 : Nat) : Int) = 0 from rfl] at hpl
      have hwr := HCS.out.wr
      have hc1 := HC0.out
      have hww : wrap64 (wrote + p.cool) = wrote + p.cool := by unfold wrap64; omega
      have hcell : ∀ W, wr.grownBy W (some ab) → W.cell? ⟨pb, 6, none⟩ = some (.int .i64 p.cool) := fun W hW => cell_of_row _ _ 6 _ _ _ (((HG.out.trans hW).block pb (Array.getElem?_eq_some_iff.1 HP5.out).1 (fun e => hpab (Option.some.inj e))).trans HP5.out)
      have HCELL := Lib.hid hcell
      clear hcell
      by_cases hcd : 0 ≤ wrote ∧ (tick : Int) < wrote + p.cool
      · obtain ⟨hr, hcs2⟩ := hcA hcd
        rw [hr] at hpl
        have HPL := Lib.hid hpl
        have HCS2 := Lib.hid hcs2
        have hw0 : wrote ≥ 0 := hcd.1
        have hw1 : (tick : Int) < wrote + p.cool := hcd.2
        have hb0 : decide (wrote ≥ 0) = true := decide_eq_true hw0
        have hb1 : decide ((tick : Int) < wrote + p.cool) = true := decide_eq_true hw1
        clear hcA hcB hr hpl hcs2 hcd hwr hc1
        go_wp2_with fail
        refine HPL.out.mono ?_
        rintro e w7 ⟨rfl, hst7, hg7⟩
        have c6 := HCELL.out _ hg7
        have HST7 := Lib.hid hst7
        have HG7 := Lib.hid hg7
        clear hst7 hg7 HPL
        go_wp2_with fail
        go_roundg (30000 - (tick + 1))
        case measure => omega
        case rel => exact ⟨tick + 1, at', wrote, t, by go_num, rfl, rfl, Nat.le_refl _, HST7.out, HG.out.trans HG7.out, by have := HCS2.out; rwa [Int.natCast_add]⟩
      · obtain ⟨n, f, t', hr, hout⟩ := hcB hcd
        rw [hr] at hpl
        simp only at hpl
        have HPL := Lib.hid hpl
        have hnb : (decide (wrote ≥ 0) = false ∧ wrote = -1) ∨ (decide (wrote ≥ 0) = true ∧ wrote ≥ 0 ∧ decide ((tick : Int) < wrote + p.cool) = false) := by
          rcases hwr with ⟨h1, _⟩ | ⟨h1, _⟩
          · exact .inl ⟨by rw [h1]; rfl, h1⟩
          · exact .inr ⟨decide_eq_true h1, h1, decide_eq_false fun h => hcd ⟨h1, h⟩⟩
        clear hcA hcB hr hpl hcd hwr hc1
        rcases hout with ⟨rfl, hout⟩ | ⟨rfl, hcs2⟩
        · obtain ⟨y1, hy1⟩ : ∃ y, decide ((t'.wished.length : Int) > keep % 16) = y := ⟨_, rfl⟩
          obtain ⟨y2, hy2⟩ : ∃ y, (at' == A) = y := ⟨_, rfl⟩
          have hys : (y1 = true ∧ y2 = true) ∨ (y1 = false ∧ CoolSt A (keep % 16 + 1) p.cool (tick + 1) at' wrote t') ∨ (y1 = true ∧ y2 = false ∧ CoolSt A (keep % 16 + 1) p.cool (tick + 1) at' wrote t') := by
            rcases hout with ⟨h1, h2⟩ | ⟨h1, h2, h3⟩
            · exact .inl ⟨by rw [← hy1]; exact decide_eq_true (by omega), by rw [← hy2]; exact beq_iff_eq.2 h1⟩
            · cases y1 with
              | false => exact .inr (.inl ⟨rfl, h3⟩)
              | true =>
                refine .inr (.inr ⟨rfl, ?_, h3⟩)
                rw [← hy2]
                have hx := of_decide_eq_true hy1
                by_cases hz : at' = A
                · exact absurd ⟨hz, by omega⟩ h1
                · exact beq_false_of_ne hz
          clear hout
          rcases hys with ⟨rfl, rfl⟩ | ⟨rfl, hcs2⟩ | ⟨rfl, rfl, hcs2⟩
          · rcases hnb with ⟨hb0, hw0⟩ | ⟨hb0, hw0, hb1⟩
            all_goals
              go_wp2_with fail
              refine HPL.out.mono ?_
              rintro e w7 ⟨rfl, hst7, hg7⟩
              have c6 := HCELL.out _ hg7
              have HST7 := Lib.hid hst7
              have HG7 := Lib.hid hg7
              clear hst7 hg7 HPL
              go_wp2_with fail
              refine (HST7.out.recent (by decide)).mono ?_
              rintro e w8 ⟨v8, rfl, ho8, hst8, hg8⟩
              obtain ⟨o8, c8, rfl⟩ := slAt_slice ho8.at
              have HST8 := Lib.hid hst8
              clear ho8 hst8 hg8 HST7
              go_wp2_with fail
              go_ret
              exact ⟨rfl, HST8.out.below⟩
          · have HCS2 := Lib.hid hcs2
            clear hcs2
            rcases hnb with ⟨hb0, hw0⟩ | ⟨hb0, hw0, hb1⟩
            all_goals
              go_wp2_with fail
              refine HPL.out.mono ?_
              rintro e w7 ⟨rfl, hst7, hg7⟩
              have c6 := HCELL.out _ hg7
              have HST7 := Lib.hid hst7
              have HG7 := Lib.hid hg7
              clear hst7 hg7 HPL
              go_wp2_with fail
              refine (HST7.out.recent (by decide)).mono ?_
              rintro e w8 ⟨v8, rfl, ho8, hst8, hg8⟩
              obtain ⟨o8, c8, rfl⟩ := slAt_slice ho8.at
              have HST8 := Lib.hid hst8
              have HG8 := Lib.hid hg8
              clear ho8 hst8 hg8 HST7
              go_wp2_with fail
              go_roundg (30000 - (tick + 1))
              case measure => omega
              case rel => exact ⟨tick + 1, at', wrote, t', by go_num, rfl, (by first | rfl | rw [hw0]), Nat.le_refl _, HST8.out, (HG.out.trans HG7.out).trans HG8.out, by have := HCS2.out; rwa [Int.natCast_add]⟩
          · have HCS2 := Lib.hid hcs2
            clear hcs2
            rcases hnb with ⟨hb0, hw0⟩ | ⟨hb0, hw0, hb1⟩
            all_goals
              go_wp2_with fail
              refine HPL.out.mono ?_
              rintro e w7 ⟨rfl, hst7, hg7⟩
              have c6 := HCELL.out _ hg7
              have HST7 := Lib.hid hst7
              have HG7 := Lib.hid hg7
              clear hst7 hg7 HPL
              go_wp2_with fail
              refine (HST7.out.recent (by decide)).mono ?_
              rintro e w8 ⟨v8, rfl, ho8, hst8, hg8⟩
              obtain ⟨o8, c8, rfl⟩ := slAt_slice ho8.at
              have HST8 := Lib.hid hst8
              have HG8 := Lib.hid hg8
              clear ho8 hst8 hg8 HST7
              go_wp2_with fail
              go_roundg (30000 - (tick + 1))
              case measure => omega
              case rel => exact ⟨tick + 1, at', wrote, t', by go_num, rfl, (by first | rfl | rw [hw0]), Nat.le_refl _, HST8.out, (HG.out.trans HG7.out).trans HG8.out, by have := HCS2.out; rwa [Int.natCast_add]⟩
        · have HCS2 := Lib.hid hcs2
          clear hcs2
          rcases hnb with ⟨hb0, hw0⟩ | ⟨hb0, hw0, hb1⟩
          all_goals
            go_wp2_with fail
            refine HPL.out.mono ?_
            rintro e w7 ⟨rfl, hst7, hg7⟩
            have c6 := HCELL.out _ hg7
            have HST7 := Lib.hid hst7
            have HG7 := Lib.hid hg7
            clear hst7 hg7 HPL
            go_wp2_with fail
            refine (HST7.out.done (by decide) tick).mono ?_
            rintro e w8 ⟨rfl, hst8, hg8⟩
            have HST8 := Lib.hid hst8
            have HG8 := Lib.hid hg8
            clear hst8 hg8 HST7
            go_wp2_with fail
            go_roundg (30000 - (tick + 1))
            case measure => omega
            case rel => exact ⟨tick + 1, n, tick, _, by go_num, rfl, rfl, Nat.le_refl _, HST8.out, (HG.out.trans HG7.out).trans HG8.out, by have := HCS2.out; rwa [Int.natCast_add]⟩
  · have hcd : (asked p load).2 = 2 := by unfold asked; rw [if_neg hpr]
    rw [hcd] at hask
    have HASK := Lib.hid hask
    clear hask hcd hpr hA
    refine HASK.out.mono ?_
    rintro e w3 ⟨rfl, hb3⟩
    have HB3 := Lib.hid (HB2.out.trans (hb3.mono HB2.out.size))
    clear hb3 HB2
    go_wp2_with fail
    go_ret
    exact ⟨rfl, HB3.out⟩
end Go.Proofs.Ytjgbflclhkeibaa
