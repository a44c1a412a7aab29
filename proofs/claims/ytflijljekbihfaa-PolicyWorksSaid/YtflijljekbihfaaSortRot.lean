/-
  slices' swapRange and rotate at the element types that the program sorts: what they leave is a rotation of a part of the row.
-/
import Derived.Test.YtflijljekbihfaaSortIns
import Derived.Test.YtflijljekbihfaaSortRow
namespace Go.Proofs.Ytflijljekbihfaa
open Go.Shelf Go.RowKit Go.Lib Go.Sort
set_option linter.unusedVariables false
set_option maxHeartbeats 4000000 in
set_option maxRecDepth 1000000 in
theorem swapRangeLa {P : Program} {k : Nat} (L : StLa P k) {α : Type} [Inhabited α] (enc : α → List Value) (fv : Value) (blk off cap a b n : Nat) (d0 d : Array α) (w0 w : World)
    (R : RowK enc k w0 blk off d0) (hs : d0.size = d.size) (S : SWK enc k w0 blk off d w) (ha : a + n ≤ d.size) (hb : b + n ≤ d.size) (hsz : d.size < 4611686018427387904) :
    Calls P 56 #[.slice (some ⟨blk, off, none⟩) d.size cap, .int .i64 a, .int .i64 b, .int .i64 n, fv] w fun e w' =>
      e = .returned (.tuple #[]) ∧ SWK enc k w0 blk off (swpN d a b n) w' := by
  have mixed := L.mixed; have aE := L.aE; have zE := L.zE; have t0 := L.t0; have a0 := L.a0; have z0 := L.z0; have v0 := L.v0; have t3 := L.t3; have a3 := L.a3; have z3 := L.z3; have v3 := L.v3; have t4 := L.t4; have a4 := L.a4; have z4 := L.z4; have v4 := L.v4; have t22 := L.t22; have a22 := L.a22; have z22 := L.z22; have v22 := L.v22; have t25 := L.t25; have a25 := L.a25; have z25 := L.z25; have v25 := L.v25; have u22 := run_underlying L.t22
  have FG := L.fSwap
  have S0 : Aside _ := S
  clear S
  go_enter FG, Try.ntmps56
  go_wp2
  go_loopg [10] n (fun gk s10 wr => ∃ (i : Nat), s10 = .int .i64 i ∧ i ≤ n ∧ n - i ≤ gk ∧ Aside (SWK enc k w0 blk off (swpN d a b i) wr))
  case atStart => exact ⟨0, rfl, Nat.zero_le _, Nat.le_refl _, S0⟩
  case round =>
    clear S0
    obtain ⟨i, rfl, hin, hg, S1⟩ := hrel
    by_cases hlt : i < n
    · have hltz : (i : Int) < (n : Int) := by omega
      have hds := size_swpN d a b i
      have HD : Hid _ := hds
      have hdi : (swpN d a b i).size ≤ d.size := by omega
      have hdi2 : d.size ≤ (swpN d a b i).size := by omega
      clear hds
      have ea : ((a : Int) + (i : Int)).toNat = a + i := by omega
      have pa : (0 : Int) ≤ (a : Int) + (i : Int) := by omega
      have ba : (a : Int) + (i : Int) < (d.size : Int) := by omega
      have ra : IntKind.i64.wrap ((a : Int) + (i : Int)) = (a : Int) + (i : Int) := by rw [IntKind.wrap_i64]; omega
      have eb : ((b : Int) + (i : Int)).toNat = b + i := by omega
      have pb : (0 : Int) ≤ (b : Int) + (i : Int) := by omega
      have bb : (b : Int) + (i : Int) < (d.size : Int) := by omega
      have rb : IntKind.i64.wrap ((b : Int) + (i : Int)) = (b : Int) + (i : Int) := by rw [IntKind.wrap_i64]; omega
      obtain ⟨dj, hdj⟩ : ∃ x, x = swpN d a b i := ⟨_, rfl⟩
      rw [← hdj] at S1 hdi hdi2 HD
      have HDJ : Hid _ := hdj
      clear hdj
      have S2 : Aside (SWK enc k w0 blk off (swp dj (a + i) (b + i)) ((wr.drew.setCells blk (off + (a + i) * k) (enc dj[b + i]!)).setCells blk (off + (b + i) * k) (enc dj[a + i]!))) := S1.out.swapped R (a + i) (b + i) (by omega) (by omega)
      have la := S1.out.ld1 R (by omega) P (a + i) (by omega)
      have lb := S1.out.ld1 R (by omega) P (b + i) (by omega)
      have sa := S1.out.st1 R (by omega) P (a + i) (by omega) dj[b + i]!
      have sb := S1.out.st2 R (by omega) P (a + i) (b + i) (by omega) (by omega) dj[b + i]! dj[a + i]!
      have na : (enc dj[a + i]!).length = k := R.hk _
      have nb : (enc dj[b + i]!).length = k := R.hk _
      generalize enc dj[a + i]! = cI at S2 la sb na
      generalize enc dj[b + i]! = cJ at S2 lb sa sb nb
      clear S1
      go_wp2_with fail
      go_big_region_o
      clear la lb sa sb
      generalize (wr.drew.setCells blk (off + (a + i) * k) cJ).setCells blk (off + (b + i) * k) cI = w2 at S2 ⊢
      go_wp2
      go_roundg (n - (i + 1))
      case measure => omega
      case rel => exact ⟨i + 1, by go_num, by omega, by omega, by rw [swpN, ← HDJ.out]; exact S2⟩
    · have hltz : ¬ (i : Int) < (n : Int) := by omega
      go_wp2
      go_end0
      obtain rfl : i = n := by omega
      exact ⟨rfl, S1.out⟩

set_option maxHeartbeats 4000000 in
set_option maxRecDepth 1000000 in
theorem rotateLa {P : Program} {k : Nat} (L : StLa P k) {α : Type} [Inhabited α] (enc : α → List Value) (fv : Value) (blk off cap a m b : Nat) (d0 d : Array α) (w0 w : World)
    (R : RowK enc k w0 blk off d0) (hs : d0.size = d.size) (S : SWK enc k w0 blk off d w) (ha : a < m) (hm : m < b) (hb : b ≤ d.size) (hsz : d.size < 4611686018427387904) :
    Calls P 49 #[.slice (some ⟨blk, off, none⟩) d.size cap, .int .i64 a, .int .i64 m, .int .i64 b, fv] w fun e w' =>
      e = .returned (.tuple #[]) ∧ SWK enc k w0 blk off (rotA d a m b) w' := by
  have mixed := L.mixed; have aE := L.aE; have zE := L.zE; have t0 := L.t0; have a0 := L.a0; have z0 := L.z0; have v0 := L.v0; have t3 := L.t3; have a3 := L.a3; have z3 := L.z3; have v3 := L.v3; have t4 := L.t4; have a4 := L.a4; have z4 := L.z4; have v4 := L.v4; have t22 := L.t22; have a22 := L.a22; have z22 := L.z22; have v22 := L.v22; have t25 := L.t25; have a25 := L.a25; have z25 := L.z25; have v25 := L.v25; have u22 := run_underlying L.t22
  have FG := L.fRot
  have eS : ∀ args w, (callFunc 56 args).run P w = .ok (.enter 56 args) w := enters_of L.fSwap (by kernel_rfl) rfl
  have S0 : Aside _ := S
  clear S
  have c1 : (m : Int) - (a : Int) = ((m - a : Nat) : Int) := by omega
  have c2 : (b : Int) - (m : Int) = ((b - m : Nat) : Int) := by omega
  go_enter FG, Try.ntmps49
  go_wp2
  go_loopg [10, 11] (b - a) (fun gk s10 s11 wr => ∃ (i j : Nat) (dk : Array α), s10 = .int .i64 i ∧ s11 = .int .i64 j ∧ 0 < i ∧ 0 < j ∧ i ≤ m - a ∧ j ≤ b - m ∧ i + j ≤ gk ∧ dk.size = d.size ∧ Aside (SWK enc k w0 blk off dk wr) ∧ Hid (rotA dk (m - i) m (m + j) = rotA d a m b))
  case atStart => exact ⟨m - a, b - m, d, by first | rfl | rw [c1], by first | rfl | rw [c2], by omega, by omega, Nat.le_refl _, Nat.le_refl _, by omega, rfl, S0, by show _ = _; congr 1 <;> omega⟩
  case round =>
    clear S0 c1 c2
    obtain ⟨i, j, dk, rfl, rfl, hi0, hj0, him, hjm, hg, hds, S1, HE⟩ := hrel
    have HD : Hid _ := hds
    have hd1 : dk.size ≤ d.size := by omega
    have hd2 : d.size ≤ dk.size := by omega
    have q1 : (m : Int) - (i : Int) = ((m - i : Nat) : Int) := by omega
    have r1 : IntKind.i64.wrap ((m : Int) - (i : Int)) = ((m - i : Nat) : Int) := by rw [IntKind.wrap_i64]; omega
    have q2 : (m : Int) + (j : Int) - (i : Int) = ((m + j - i : Nat) : Int) := by omega
    have Q1 := Lib.hid q1
    have Q2 := Lib.hid q2
    clear q1 q2 hds r1
    by_cases hij : i = j
    · subst hij
      have hne : ((i : Int) != (i : Int)) = false := by simp
      have hcall := swapRangeLa L enc fv blk off cap (m - i) m i d0 dk w0 wr R (by rw [HD.out]; exact hs) S1.out (by omega) (by omega) (by omega)
      rw [HD.out] at hcall
      have HC := Lib.hid hcall
      clear hcall
      go_wp2_with fail
      rw [Q1.out]
      refine HC.out.mono ?_
      rintro e w1 ⟨rfl, S3⟩
      have S4 : Aside _ := S3
      clear S3
      go_wp2
      go_end0
      refine ⟨rfl, ?_⟩
      rw [← HE.out, ← rot_eq dk m i (by omega) (by omega)]
      exact S4.out
    · have hne : ((i : Int) != (j : Int)) = true := by simp; omega
      by_cases hgt : j < i
      · have hgtz : (j : Int) < (i : Int) := by omega
        have hcall := swapRangeLa L enc fv blk off cap (m - i) m j d0 dk w0 wr R (by rw [HD.out]; exact hs) S1.out (by omega) (by omega) (by omega)
        rw [HD.out] at hcall
        have HC := Lib.hid hcall
        clear hcall
        go_wp2_with fail
        rw [Q1.out]
        refine HC.out.mono ?_
        rintro e w1 ⟨rfl, S3⟩
        have S4 : Aside _ := S3
        clear S3
        go_wp2
        go_roundg (i - j + j)
        case measure => omega
        case rel => exact ⟨i - j, j, _, by congr 1; omega, rfl, by omega, by omega, by omega, by omega, by omega, by rw [size_swpN]; exact HD.out, S4, by show _ = _; rw [← HE.out]; exact rot_gt dk m i j (by omega) (by omega) hgt⟩
      · have hgtz : ¬ (j : Int) < (i : Int) := by omega
        have hcall := swapRangeLa L enc fv blk off cap (m - i) (m + j - i) i d0 dk w0 wr R (by rw [HD.out]; exact hs) S1.out (by omega) (by omega) (by omega)
        rw [HD.out] at hcall
        have HC := Lib.hid hcall
        clear hcall
        go_wp2_with fail
        rw [Q1.out, Q2.out]
        refine HC.out.mono ?_
        rintro e w1 ⟨rfl, S3⟩
        have S4 : Aside _ := S3
        clear S3
        go_wp2
        go_roundg (i + (j - i))
        case measure => omega
        case rel => exact ⟨i, j - i, _, rfl, by congr 1; omega, by omega, by omega, by omega, by omega, by omega, by rw [size_swpN]; exact HD.out, S4, by show _ = _; rw [← HE.out]; exact rot_lt dk m i j (by omega) (by omega) (by omega)⟩


end Go.Proofs.Ytflijljekbihfaa
