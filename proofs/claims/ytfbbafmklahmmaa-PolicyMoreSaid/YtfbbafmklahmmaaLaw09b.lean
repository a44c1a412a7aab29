/-
  The law PolicyMore walked: it returns true, and turns nothing that was there.
-/
import Derived.Test.YtfbbafmklahmmaaAlive09
import Derived.Test.YtfbbafmklahmmaaMore
import Derived.Test.YtfbbafmklahmmaaOpen
import Derived.Deep.DeepCutAuto
namespace Go.Proofs.Ytfbbafmklahmmaa
open Go.Shelf Go.RowKit Go.Lib Go.Sort
set_option linter.unusedVariables false
set_option maxHeartbeats 4000000 in
theorem lawMore_no (p : Pol) (a b : Int) (hp : ¬ p.right) (w : World) : Calls Try.prog 9 #[.agg #[.int .i64 p.mn, .int .i64 p.mx, .int .i64 p.goal, .int .i64 p.slack, .int .i64 p.up, .int .i64 p.down, .int .i64 p.cool], .int .i64 a, .int .i64 b] w fun e w' => e = .returned (.bool true) ∧ RowKit.Below w.heap.size w w' := by
  have a1 := policyAsked_any p a
  have a2 := policyAsked_any p b
  have a3 := rightPolicy_any p
  rw [Pol.rightB_false hp] at a3
  unfold asked at a1 a2
  rw [if_neg hp] at a1 a2
  have A1 := Lib.hid a1
  have A2 := Lib.hid a2
  have A3 := Lib.hid a3
  have AL := Lib.hid alive09
  clear a1 a2 a3 hp
  go_enter Try.func9, Try.ntmps9
  go_wp2_with fail
  refine (AL.out _).mono ?_
  rintro e w1 ⟨rfl, hb1⟩
  obtain ⟨hcell1, hfr1⟩ := bcell hb1
  have hz1 : w.heap.size < w1.heap.size := by have := hb1.size; simp at this; omega
  have HB1 := Lib.hid hb1
  clear hb1
  go_wp2_with fail
  refine (A1.out _).mono ?_
  rintro e w2 ⟨rfl, hb2⟩
  obtain ⟨hcell2, hfr2⟩ := bcell hb2
  have hz2 : w.heap.size < w2.heap.size := by have := hb2.size; omega
  have HB2 := Lib.hid hb2
  clear hb2
  go_wp2_with fail
  refine (A2.out _).mono ?_
  rintro e w3 ⟨rfl, hb3⟩
  obtain ⟨hcell3, hfr3⟩ := bcell hb3
  have hz3 : w.heap.size < w3.heap.size := by have := hb3.size; omega
  have HB3 := Lib.hid hb3
  clear hb3
  go_wp2_with fail
  refine (A3.out _).mono ?_
  rintro e w4 ⟨rfl, hb4⟩
  have HB4 := Lib.hid hb4
  clear hb4
  go_wp2_with fail
  go_ret
  refine ⟨rfl, ?_⟩
  have b1 := ((RowKit.Below.refl w.heap.size w).alloc (Nat.le_refl _) _).trans (HB1.out.mono (by simp))
  have b2 := b1.trans (HB2.out.mono b1.size)
  have b3 := b2.trans (HB3.out.mono b2.size)
  exact b3.trans (HB4.out.mono b3.size)

set_option maxRecDepth 100000 in
set_option maxHeartbeats 8000000 in
theorem lawMore_yes (p : Pol) (a b : Int) (hp : p.right) (w : World) : Calls Try.prog 9 #[.agg #[.int .i64 p.mn, .int .i64 p.mx, .int .i64 p.goal, .int .i64 p.slack, .int .i64 p.up, .int .i64 p.down, .int .i64 p.cool], .int .i64 a, .int .i64 b] w fun e w' => e = .returned (.bool true) ∧ RowKit.Below w.heap.size w w' := by
  have a1 := policyAsked_any p a
  have a2 := policyAsked_any p b
  have a3 := rightPolicy_any p
  have mf := more_facts p hp a b
  rw [Pol.rightB_true hp] at a3
  have e1 : (asked p a).2 = 0 := by unfold asked; rw [if_pos hp]
  have e2 : (asked p b).2 = 0 := by unfold asked; rw [if_pos hp]
  rw [e1] at a1
  rw [e2] at a2
  generalize (asked p a).1 = n at a1 mf
  generalize (asked p b).1 = m at a2 mf
  obtain ⟨x, hx⟩ : ∃ x, x = min (max a 0) 1099511627776 := ⟨_, rfl⟩
  rw [← hx] at mf
  obtain ⟨lo, hi, mono, enough, none⟩ := mf
  have hp' := hp
  unfold Pol.right at hp'
  have g0 : 0 ≤ n := by omega
  have g1 : n ≤ 1000 := by omega
  have g2 : 1 ≤ p.goal := by omega
  have g3 : p.goal ≤ 1073741824 := by omega
  have m1 : 0 ≤ n * p.goal := Int.mul_nonneg g0 (by omega)
  have m2 : n * p.goal ≤ 1000 * 1073741824 := Int.mul_le_mul g1 g3 (by omega) (by omega)
  have m3 : (n - 1) * p.goal = n * p.goal - p.goal := by rw [Int.sub_mul, Int.one_mul]
  have m4 : -1073741824 ≤ (n - 1) * p.goal := by omega
  have m5 : (n - 1) * p.goal ≤ 1073741824000 := by omega
  have MO := Lib.hid mono
  have EN := Lib.hid enough
  have NO := Lib.hid none
  have HX := Lib.hid hx
  have A1 := Lib.hid a1
  have A2 := Lib.hid a2
  have A3 := Lib.hid a3
  have AL := Lib.hid alive09
  clear a1 a2 a3 hp hp' e1 e2 mono enough none hx m3
  go_enter Try.func9, Try.ntmps9
  go_wp2_with fail
  refine (AL.out _).mono ?_
  rintro e w1 ⟨rfl, hb1⟩
  obtain ⟨hcell1, hfr1⟩ := bcell hb1
  have hz1 : w.heap.size < w1.heap.size := by have := hb1.size; simp at this; omega
  have HB1 := Lib.hid hb1
  clear hb1
  go_wp2_with fail
  refine (A1.out _).mono ?_
  rintro e w2 ⟨rfl, hb2⟩
  obtain ⟨hcell2, hfr2⟩ := bcell hb2
  have hz2 : w.heap.size < w2.heap.size := by have := hb2.size; omega
  have HB2 := Lib.hid hb2
  clear hb2
  go_wp2_with fail
  refine (A2.out _).mono ?_
  rintro e w3 ⟨rfl, hb3⟩
  obtain ⟨hcell3, hfr3⟩ := bcell hb3
  have hz3 : w.heap.size < w3.heap.size := by have := hb3.size; omega
  have HB3 := Lib.hid hb3
  clear hb3
  go_wp2_with fail
  refine (A3.out _).mono ?_
  rintro e w4 ⟨rfl, hb4⟩
  obtain ⟨hcell4, hfr4⟩ := bcell hb4
  have hz4 : w.heap.size < w4.heap.size := by have := hb4.size; omega
  have HB4 := Lib.hid hb4
  clear hb4
  have hfin : RowKit.Below w.heap.size w w4 := by
    have b1 := ((RowKit.Below.refl w.heap.size w).alloc (Nat.le_refl _) (.cells #[.int .i64 p.mn, .int .i64 p.mx, .int .i64 p.goal, .int .i64 p.slack, .int .i64 p.up, .int .i64 p.down, .int .i64 p.cool] 43)).trans (HB1.out.mono (by simp))
    have b2 := b1.trans (HB2.out.mono b1.size)
    have b3 := b2.trans (HB3.out.mono b2.size)
    exact b3.trans (HB4.out.mono b3.size)
  have HF := Lib.hid hfin
  clear hfin
  go_upto_region 7 with fail
  go_cut [61] (fun s61 wx => wx = w4 ∧ s61 = .bool false)
  case first =>
    have t1 : ¬ n < p.mn := by omega
    have t2 : ¬ p.mx < n := by omega
    by_cases hab : a ≤ b
    · have t3 : ¬ m < n := by have := MO.out hab; omega
      go_wp2_with fail
      go_meet
      exact ⟨rfl, rfl⟩
    · go_wp2_with fail
      go_meet
      exact ⟨rfl, rfl⟩
  case rest =>
    obtain ⟨rfl, rfl⟩ := hcut
    go_upto_region 9 with fail
    go_cut [1] (fun s1 wx => wx = wc ∧ s1 = .int .i64 x)
    case first =>
      rcases (show a < 0 ∨ a = 0 ∨ (0 < a ∧ a < 1099511627776) ∨ a = 1099511627776 ∨ 1099511627776 < a by omega) with h | h | ⟨h, h'⟩ | h | h
      case' inr.inl => subst h
      case' inr.inr.inr.inl => subst h
      all_goals
        go_wp2_with fail
        go_meet
        have hx := HX.out
        refine ⟨rfl, ?_⟩
        congr 1
        omega
    case rest =>
      obtain ⟨rfl, rfl⟩ := hcut
      by_cases h1 : p.mx ≤ n
      · by_cases h2 : n ≤ p.mn
        · go_wp2_with fail
          go_ret
          exact ⟨rfl, HF.out⟩
        · have h3 : (n - 1) * p.goal < x := NO.out.resolve_left h2
          go_wp2_with fail
          go_ret
          exact ⟨rfl, HF.out⟩
      · have h4 : x ≤ n * p.goal := EN.out.resolve_left h1
        by_cases h2 : n ≤ p.mn
        · go_wp2_with fail
          go_ret
          exact ⟨rfl, HF.out⟩
        · have h3 : (n - 1) * p.goal < x := NO.out.resolve_left h2
          go_wp2_with fail
          go_ret
          exact ⟨rfl, HF.out⟩
theorem lawMore (p : Pol) (a b : Int) (hfit : p.fits) (ha : I64 a) (hb : I64 b) (w : World) : Calls Try.prog 9 #[.agg #[.int .i64 p.mn, .int .i64 p.mx, .int .i64 p.goal, .int .i64 p.slack, .int .i64 p.up, .int .i64 p.down, .int .i64 p.cool], .int .i64 a, .int .i64 b] w fun e w' => e = .returned (.bool true) ∧ RowKit.Below w.heap.size w w' := by
  by_cases hp : p.right
  · exact lawMore_yes p a b hp w
  · exact lawMore_no p a b hp w
end Go.Proofs.Ytfbbafmklahmmaa
