/-
  slices' symMerge at the element types that the program sorts: two sorted neighbours are merged, and no class of equals is turned.
-/
import Derived.Test.YtjgbflclhkeibaaGreatMSortRow
namespace Go.Proofs.YtjgbflclhkeibaaGreat
open Go.Shelf Go.RowKit Go.Lib Go.Sort
set_option linter.unusedVariables false
set_option maxHeartbeats 8000000 in
set_option maxRecDepth 1000000 in
theorem symAEv {P : Program} {k : Nat} (L : StEv P k) {α : Type} [Inhabited α] (enc : α → List Value) (cf : α → α → Int) (hO : SWO (ltOf cf)) (g : Nat) (cb : Array Value) (blk off cap a m b : Nat) (d0 d : Array α) (w0 w : World)
    (eg : ∀ args w, (callFunc g args).run P w = .ok (.enter g args) w) (hcmp : CmpLays P g cb enc k cf blk off d0.size w0) (R : RowK enc k w0 blk off d0) (hs : d0.size = d.size) (S : SWK enc k w0 blk off d w)
    (hm : m = a + 1) (hmb : m < b) (hb : b ≤ d.size) (hsz : d.size < 4611686018427387904) (hB : SortedIn (ltOf cf) m b d) :
    Calls P 131 #[.slice (some ⟨blk, off, none⟩) d.size cap, .int .i64 a, .int .i64 m, .int .i64 b, .func (.func g) #[] cb] w fun e w' =>
      e = .returned (.tuple #[]) ∧ ∃ d', SymPost (ltOf cf) a b d d' ∧ SWK enc k w0 blk off d' w' := by
  have mixed := L.mixed; have aE := L.aE; have zE := L.zE; have t0 := L.t0; have a0 := L.a0; have z0 := L.z0; have v0 := L.v0; have t3 := L.t3; have a3 := L.a3; have z3 := L.z3; have v3 := L.v3; have t4 := L.t4; have a4 := L.a4; have z4 := L.z4; have v4 := L.v4; have t5 := L.t5; have a5 := L.a5; have z5 := L.z5; have v5 := L.v5; have t22 := L.t22; have a22 := L.a22; have z22 := L.z22; have v22 := L.v22; have t25 := L.t25; have a25 := L.a25; have z25 := L.z25; have v25 := L.v25; have u22 := run_underlying L.t22
  have t99 := run_underlying L.t5
  have FG := L.fSym
  have HC := Lib.hid hcmp
  have S0 := Lib.hid S
  have HS := Lib.hid hs
  have HB := Lib.hid hB
  have HM := Lib.hid hm
  have am : a < m := by omega
  have am1 : m ≤ a + 1 := by omega
  have one : (((m : Int) - (a : Int)) == 1) = true := by rw [beq_iff_eq]; omega
  clear hcmp S hB hm hs
  go_enter FG, Tryz.ntmps131
  go_wp2
  go_loopg [10, 11] (b - m) (fun gk s10 s11 wr => ∃ (i j : Nat), s10 = .int .i64 i ∧ s11 = .int .i64 j ∧ m ≤ i ∧ i ≤ j ∧ j ≤ b ∧ j - i ≤ gk ∧ Hid (SWK enc k w0 blk off d wr) ∧ Hid (∀ t, m ≤ t → t < i → ltOf cf d[t]! d[a]! = true) ∧ Hid (∀ t, j ≤ t → t < b → ltOf cf d[t]! d[a]! = false))
  case atStart => exact ⟨m, b, rfl, rfl, Nat.le_refl _, by omega, Nat.le_refl _, Nat.le_refl _, S0, fun t h1 h2 => by omega, fun t h1 h2 => by omega⟩
  case round =>
    clear S0
    obtain ⟨i, j, rfl, rfl, hmi, hij, hjb, hg, S1, HL, HR⟩ := hrel
    by_cases hlt : i < j
    · have hltz : (i : Int) < (j : Int) := by omega
      obtain ⟨h, hh⟩ : ∃ h : Nat, ((i : Int) + (j : Int)) / 2 = (h : Int) := ⟨(i + j) / 2, by omega⟩
      have hih : i ≤ h := by omega
      have hhj : h < j := by omega
      have step := left_step hO d a b i j h (by rw [← HM.out]; exact HB.out) (by omega) hih hhj hjb
      have ST := Lib.hid step
      clear step
      have ba : (h : Int) < (d.size : Int) := by omega
      have pa : (0 : Int) ≤ (h : Int) := by omega
      have bc : (a : Int) < (d.size : Int) := by omega
      have pc : (0 : Int) ≤ (a : Int) := by omega
      obtain ⟨x, hx⟩ : ∃ x, x = d[h]! := ⟨_, rfl⟩
      obtain ⟨y, hy⟩ : ∃ x, x = d[a]! := ⟨_, rfl⟩
      have la := S1.out.ld R (by rw [HS.out]) P (h) (by omega)
      have lb := S1.out.ld R (by rw [HS.out]) P (a) (by omega)
      rw [← hx] at la
      rw [← hy] at lb
      have hc := S1.out.cmp HC.out HS.out.symm x y
      have HX := Lib.hid hx
      have HY := Lib.hid hy
      clear hx hy
      by_cases hlv : cf x y < 0
      · go_wp2_with fail
        go_quiet_grown (first | (go_at_fn g; refine Calls.grown_of (hc _ _)))
        have S2 := Lib.hid (S1.out.grown nq osq)
        clear la lb hc S1
        generalize grow (wr.drewN nq) osq = w2 at S2 ⊢
        clear nq osq
        go_wp2
        go_roundg (j - (h + 1))
        case measure => omega
        case rel => exact ⟨h + 1, j, by go_num, rfl, by omega, by omega, by omega, Nat.le_refl _, S2, fun t h1 h2 => by
          by_cases c : t < i
          · exact HL.out t h1 c
          · exact ST.out.1 (by rw [← HX.out, ← HY.out]; exact decide_eq_true hlv) t (by omega) h2, HR⟩
      · go_wp2_with fail
        go_quiet_grown (first | (go_at_fn g; refine Calls.grown_of (hc _ _)))
        have S2 := Lib.hid (S1.out.grown nq osq)
        clear la lb hc S1
        generalize grow (wr.drewN nq) osq = w2 at S2 ⊢
        clear nq osq
        go_wp2
        go_roundg (h - i)
        case measure => omega
        case rel => exact ⟨i, h, rfl, by go_num, by omega, by omega, by omega, Nat.le_refl _, S2, HL, fun t h1 h2 => by
          by_cases c : t < j
          · exact ST.out.2 (by rw [← HX.out, ← HY.out]; exact decide_eq_false (by omega)) t h1 c
          · exact HR.out t (by omega) h2⟩
    · have hltz : ¬ (i : Int) < (j : Int) := by omega
      obtain rfl : i = j := by omega
      have hfin : SymPost (ltOf cf) a b d (rotA d a (a + 1) i) := sym_left hO d a b i hb (by omega) hjb (by rw [← HM.out]; exact HB.out) (fun t h1 h2 => HL.out t (by rw [HM.out]; exact h1) h2) HR.out
      have HF := Lib.hid hfin
      have W0 : Hid (d = rotA d a (a + 1) (a + 1)) := (rotA_triv d a (a + 1) (a + 1) (by omega) (by omega) (by omega) (.inr rfl)).symm
      clear hfin HL HR
      go_wp2
      go_loopg [13] (i - a) (fun gk s13 wr2 => ∃ (t : Nat) (dk : Array α), s13 = .int .i64 t ∧ a ≤ t ∧ t + 1 ≤ i ∧ i - t ≤ gk ∧ Hid (dk.size = d.size) ∧ Hid (SWK enc k w0 blk off dk wr2) ∧ Hid (dk = rotA d a (a + 1) (t + 1)))
      case atStart => exact ⟨a, d, rfl, Nat.le_refl _, by omega, Nat.le_refl _, rfl, S1, W0⟩
      case round =>
        clear S1
        obtain ⟨t, dk, rfl, hat, hti, hg2, HD, S2, HE⟩ := hrel
        have hd1 : d.size ≤ dk.size := by rw [HD.out]; exact Nat.le_refl _
        by_cases hlt2 : t + 1 < i
        · have hltz2 : (t : Int) < (i : Int) - 1 := by omega
          have ea : ((t : Int) + 1).toNat = t + 1 := by omega
          have pa : (0 : Int) ≤ (t : Int) + 1 := by omega
          have ba : (t : Int) + 1 < (d.size : Int) := by omega
          have ra : IntKind.i64.wrap ((t : Int) + 1) = (t : Int) + 1 := by rw [IntKind.wrap_i64]; omega
          have pb : (0 : Int) ≤ (t : Int) := by omega
          have bb : (t : Int) < (d.size : Int) := by omega
          have SS : Hid (SWK enc k w0 blk off (swp dk t (t + 1)) ((wr.drew.setCells blk (off + t * k) (enc dk[(t + 1)]!)).setCells blk (off + (t + 1) * k) (enc dk[t]!))) := S2.out.swapped R t (t + 1) (by omega) (by omega)
          have la := S2.out.ld1 R (by rw [HD.out]; exact HS.out.symm) P t (by omega)
          have lb := S2.out.ld1 R (by rw [HD.out]; exact HS.out.symm) P (t + 1) (by omega)
          have sa := S2.out.st1 R (by rw [HD.out]; exact HS.out.symm) P t (by omega) dk[(t + 1)]!
          have sb := S2.out.st2 R (by rw [HD.out]; exact HS.out.symm) P t (t + 1) (by omega) (by omega) dk[(t + 1)]! dk[t]!
          have na : (enc dk[t]!).length = k := R.hk _
          have nb : (enc dk[(t + 1)]!).length = k := R.hk _
          generalize enc dk[t]! = cI at SS la sb na
          generalize enc dk[(t + 1)]! = cJ at SS lb sa sb nb
          clear S2
          go_wp2_with fail
          go_big_region_o
          clear la lb sa sb
          generalize (wr.drew.setCells blk (off + t * k) cJ).setCells blk (off + (t + 1) * k) cI = w2 at SS ⊢
          go_wp2
          go_roundg (i - (t + 1))
          case measure => omega
          case rel => exact ⟨t + 1, _, by go_num, by omega, by omega, Nat.le_refl _, by show _ = _; rw [size_swp]; exact HD.out, SS, by
            show _ = _
            rw [HE.out]
            have hsz2 := size_rotA d a (a + 1) (t + 1) (by omega) (by omega) (by omega)
            refine arr_ext (by rw [size_swp, hsz2, size_rotA _ _ _ _ (by omega) (by omega) (by omega)]) fun u hu => ?_
            rw [swp_get _ (by omega) (by omega), rotA_get _ _ _ _ (by omega) (by omega) (by omega), rotA_get _ _ _ _ (by omega) (by omega) (by omega), rotA_get _ _ _ _ (by omega) (by omega) (by omega), rotA_get _ _ _ _ (by omega) (by omega) (by omega)]
            repeat' split
            all_goals first | rfl | omega | (congr 1; omega)⟩
        · have hltz2 : ¬ (t : Int) < (i : Int) - 1 := by omega
          go_wp2
          (try simp only [Exit.inBlock, Exit.then])
          refine bodyPost_ret (results_none rfl _ _ _) rfl ?_
          obtain rfl : i = t + 1 := by omega
          exact ⟨rfl, rotA d a (a + 1) (t + 1), HF.out, by rw [← HE.out]; exact S2.out⟩

set_option maxHeartbeats 8000000 in
set_option maxRecDepth 1000000 in
theorem symBEv {P : Program} {k : Nat} (L : StEv P k) {α : Type} [Inhabited α] (enc : α → List Value) (cf : α → α → Int) (hO : SWO (ltOf cf)) (g : Nat) (cb : Array Value) (blk off cap a m b : Nat) (d0 d : Array α) (w0 w : World)
    (eg : ∀ args w, (callFunc g args).run P w = .ok (.enter g args) w) (hcmp : CmpLays P g cb enc k cf blk off d0.size w0) (R : RowK enc k w0 blk off d0) (hs : d0.size = d.size) (S : SWK enc k w0 blk off d w)
    (ham : a + 1 < m) (hm : b = m + 1) (hb : b ≤ d.size) (hsz : d.size < 4611686018427387904) (hA : SortedIn (ltOf cf) a m d) :
    Calls P 131 #[.slice (some ⟨blk, off, none⟩) d.size cap, .int .i64 a, .int .i64 m, .int .i64 b, .func (.func g) #[] cb] w fun e w' =>
      e = .returned (.tuple #[]) ∧ ∃ d', SymPost (ltOf cf) a b d d' ∧ SWK enc k w0 blk off d' w' := by
  have mixed := L.mixed; have aE := L.aE; have zE := L.zE; have t0 := L.t0; have a0 := L.a0; have z0 := L.z0; have v0 := L.v0; have t3 := L.t3; have a3 := L.a3; have z3 := L.z3; have v3 := L.v3; have t4 := L.t4; have a4 := L.a4; have z4 := L.z4; have v4 := L.v4; have t5 := L.t5; have a5 := L.a5; have z5 := L.z5; have v5 := L.v5; have t22 := L.t22; have a22 := L.a22; have z22 := L.z22; have v22 := L.v22; have t25 := L.t25; have a25 := L.a25; have z25 := L.z25; have v25 := L.v25; have u22 := run_underlying L.t22
  have t99 := run_underlying L.t5
  have FG := L.fSym
  have HC := Lib.hid hcmp
  have S0 := Lib.hid S
  have HS := Lib.hid hs
  have HA := Lib.hid hA
  have HM := Lib.hid hm
  have hmb : m < b := by omega
  have hmb2 : b ≤ m + 1 := by omega
  have one : (((m : Int) - (a : Int)) == 1) = false := by rw [beq_eq_false_iff_ne]; omega
  have two : (((b : Int) - (m : Int)) == 1) = true := by rw [beq_iff_eq]; omega
  clear hcmp S hA hm hs
  go_enter FG, Tryz.ntmps131
  go_wp2
  go_loopg [14, 15] (m - a) (fun gk s10 s11 wr => ∃ (i j : Nat), s10 = .int .i64 i ∧ s11 = .int .i64 j ∧ a ≤ i ∧ i ≤ j ∧ j ≤ m ∧ j - i ≤ gk ∧ Hid (SWK enc k w0 blk off d wr) ∧ Hid (∀ t, a ≤ t → t < i → ltOf cf d[m]! d[t]! = false) ∧ Hid (∀ t, j ≤ t → t < m → ltOf cf d[m]! d[t]! = true))
  case atStart => exact ⟨a, m, rfl, rfl, Nat.le_refl _, by omega, Nat.le_refl _, Nat.le_refl _, S0, fun t h1 h2 => by omega, fun t h1 h2 => by omega⟩
  case round =>
    clear S0
    obtain ⟨i, j, rfl, rfl, hmi, hij, hjb, hg, S1, HL, HR⟩ := hrel
    by_cases hlt : i < j
    · have hltz : (i : Int) < (j : Int) := by omega
      obtain ⟨h, hh⟩ : ∃ h : Nat, ((i : Int) + (j : Int)) / 2 = (h : Int) := ⟨(i + j) / 2, by omega⟩
      have hih : i ≤ h := by omega
      have hhj : h < j := by omega
      have step := right_step hO d a m i j h HA.out hmi hih hhj hjb
      have ST := Lib.hid step
      clear step
      have ba : (m : Int) < (d.size : Int) := by omega
      have pa : (0 : Int) ≤ (m : Int) := by omega
      have bc : (h : Int) < (d.size : Int) := by omega
      have pc : (0 : Int) ≤ (h : Int) := by omega
      obtain ⟨x, hx⟩ : ∃ x, x = d[m]! := ⟨_, rfl⟩
      obtain ⟨y, hy⟩ : ∃ x, x = d[h]! := ⟨_, rfl⟩
      have la := S1.out.ld R (by rw [HS.out]) P (m) (by omega)
      have lb := S1.out.ld R (by rw [HS.out]) P (h) (by omega)
      rw [← hx] at la
      rw [← hy] at lb
      have hc := S1.out.cmp HC.out HS.out.symm x y
      have HX := Lib.hid hx
      have HY := Lib.hid hy
      clear hx hy
      by_cases hlv : cf x y < 0
      · go_wp2_with fail
        go_quiet_grown (first | (go_at_fn g; refine Calls.grown_of (hc _ _)))
        have S2 := Lib.hid (S1.out.grown nq osq)
        clear la lb hc S1
        generalize grow (wr.drewN nq) osq = w2 at S2 ⊢
        clear nq osq
        go_wp2
        go_roundg (h - i)
        case measure => omega
        case rel => exact ⟨i, h, rfl, by go_num, by omega, by omega, by omega, Nat.le_refl _, S2, HL, fun t h1 h2 => by
          by_cases c : t < j
          · exact ST.out.2 (by rw [← HX.out, ← HY.out]; exact decide_eq_true hlv) t h1 c
          · exact HR.out t (by omega) h2⟩
      · have hdn : decide (cf x y < 0) = false := decide_eq_false hlv
        go_wp2_with fail
        go_quiet_grown (first | (go_at_fn g; refine Calls.grown_of (hc _ _)))
        have S2 := Lib.hid (S1.out.grown nq osq)
        clear la lb hc S1
        generalize grow (wr.drewN nq) osq = w2 at S2 ⊢
        clear nq osq
        go_wp2
        go_roundg (j - (h + 1))
        case measure => omega
        case rel => exact ⟨h + 1, j, by go_num, rfl, by omega, by omega, by omega, Nat.le_refl _, S2, fun t h1 h2 => by
          by_cases c : t < i
          · exact HL.out t h1 c
          · exact ST.out.1 (by rw [← HX.out, ← HY.out]; exact decide_eq_false (by omega)) t (by omega) h2, HR⟩
    · have hltz : ¬ (i : Int) < (j : Int) := by omega
      obtain rfl : i = j := by omega
      have hfin : SymPost (ltOf cf) a b d (rotA d i m (m + 1)) := by rw [HM.out]; exact sym_right hO d a m i (by omega) hmi hjb HA.out HL.out HR.out
      have HF := Lib.hid hfin
      have W0 : Hid (d = rotA d m m (m + 1)) := (rotA_triv d m m (m + 1) (by omega) (by omega) (by omega) (.inl rfl)).symm
      clear hfin HL HR
      go_wp2
      go_loopg [17] (m - i) (fun gk s13 wr2 => ∃ (t : Nat) (dk : Array α), s13 = .int .i64 t ∧ i ≤ t ∧ t ≤ m ∧ t - i ≤ gk ∧ Hid (dk.size = d.size) ∧ Hid (SWK enc k w0 blk off dk wr2) ∧ Hid (dk = rotA d t m (m + 1)))
      case atStart => exact ⟨m, d, rfl, by omega, Nat.le_refl _, Nat.le_refl _, rfl, S1, W0⟩
      case round =>
        clear S1
        obtain ⟨t, dk, rfl, hit, htm, hg2, HD, S2, HE⟩ := hrel
        have hd1 : d.size ≤ dk.size := by rw [HD.out]; exact Nat.le_refl _
        by_cases hlt2 : i < t
        · have hltz2 : (i : Int) < (t : Int) := by omega
          obtain ⟨u, rfl⟩ : ∃ u, t = u + 1 := ⟨t - 1, by omega⟩
          have hltz3 : (i : Int) < (u : Int) + 1 := by omega
          have hwp : IntKind.i64.wrap (u : Int) = (u : Int) := by rw [IntKind.wrap_i64]; omega
          have ea : ((u : Int) + 1).toNat = u + 1 := by omega
          have pa : (0 : Int) ≤ (u : Int) + 1 := by omega
          have ba : (u : Int) + 1 < (d.size : Int) := by omega
          have ra : IntKind.i64.wrap ((u : Int) + 1) = (u : Int) + 1 := by rw [IntKind.wrap_i64]; omega
          have pb : (0 : Int) ≤ (u : Int) := by omega
          have bb : (u : Int) < (d.size : Int) := by omega
          have SS : Hid (SWK enc k w0 blk off (swp dk (u + 1) u) ((wr.drew.setCells blk (off + (u + 1) * k) (enc dk[u]!)).setCells blk (off + u * k) (enc dk[(u + 1)]!))) := S2.out.swapped R (u + 1) u (by omega) (by omega)
          have la := S2.out.ld1 R (by rw [HD.out]; exact HS.out.symm) P (u + 1) (by omega)
          have lb := S2.out.ld1 R (by rw [HD.out]; exact HS.out.symm) P u (by omega)
          have sa := S2.out.st1 R (by rw [HD.out]; exact HS.out.symm) P (u + 1) (by omega) dk[u]!
          have sb := S2.out.st2 R (by rw [HD.out]; exact HS.out.symm) P (u + 1) u (by omega) (by omega) dk[u]! dk[(u + 1)]!
          have na : (enc dk[(u + 1)]!).length = k := R.hk _
          have nb : (enc dk[u]!).length = k := R.hk _
          generalize enc dk[(u + 1)]! = cI at SS la sb na
          generalize enc dk[u]! = cJ at SS lb sa sb nb
          clear S2
          go_wp2_with fail
          go_big_region_o
          clear la lb sa sb
          generalize (wr.drew.setCells blk (off + (u + 1) * k) cJ).setCells blk (off + u * k) cI = w2 at SS ⊢
          go_wp2
          go_roundg (u - i)
          case measure => omega
          case rel => exact ⟨u, _, by first | rfl | go_num | (congr 1; omega), by omega, by omega, Nat.le_refl _, by show _ = _; rw [size_swp]; exact HD.out, SS, by
            show _ = _
            rw [HE.out]
            have hsz2 := size_rotA d (u + 1) m (m + 1) (by omega) (by omega) (by omega)
            refine arr_ext (by rw [size_swp, hsz2, size_rotA _ _ _ _ (by omega) (by omega) (by omega)]) fun v hv => ?_
            rw [swp_get _ (by omega) (by omega), rotA_get _ _ _ _ (by omega) (by omega) (by omega), rotA_get _ _ _ _ (by omega) (by omega) (by omega), rotA_get _ _ _ _ (by omega) (by omega) (by omega), rotA_get _ _ _ _ (by omega) (by omega) (by omega)]
            repeat' split
            all_goals first | rfl | omega | (congr 1; omega)⟩
        · have hltz2 : ¬ (i : Int) < (t : Int) := by omega
          go_wp2
          (try simp only [Exit.inBlock, Exit.then])
          refine bodyPost_ret (results_none rfl _ _ _) rfl ?_
          obtain rfl : i = t := by omega
          exact ⟨rfl, rotA d i m (m + 1), HF.out, by rw [← HE.out]; exact S2.out⟩


set_option maxHeartbeats 8000000 in
set_option maxRecDepth 1000000 in
theorem symALa {P : Program} {k : Nat} (L : StLa P k) {α : Type} [Inhabited α] (enc : α → List Value) (cf : α → α → Int) (hO : SWO (ltOf cf)) (g : Nat) (cb : Array Value) (blk off cap a m b : Nat) (d0 d : Array α) (w0 w : World)
    (eg : ∀ args w, (callFunc g args).run P w = .ok (.enter g args) w) (hcmp : CmpLays P g cb enc k cf blk off d0.size w0) (R : RowK enc k w0 blk off d0) (hs : d0.size = d.size) (S : SWK enc k w0 blk off d w)
    (hm : m = a + 1) (hmb : m < b) (hb : b ≤ d.size) (hsz : d.size < 4611686018427387904) (hB : SortedIn (ltOf cf) m b d) :
    Calls P 119 #[.slice (some ⟨blk, off, none⟩) d.size cap, .int .i64 a, .int .i64 m, .int .i64 b, .func (.func g) #[] cb] w fun e w' =>
      e = .returned (.tuple #[]) ∧ ∃ d', SymPost (ltOf cf) a b d d' ∧ SWK enc k w0 blk off d' w' := by
  have mixed := L.mixed; have aE := L.aE; have zE := L.zE; have t0 := L.t0; have a0 := L.a0; have z0 := L.z0; have v0 := L.v0; have t3 := L.t3; have a3 := L.a3; have z3 := L.z3; have v3 := L.v3; have t4 := L.t4; have a4 := L.a4; have z4 := L.z4; have v4 := L.v4; have t5 := L.t5; have a5 := L.a5; have z5 := L.z5; have v5 := L.v5; have t22 := L.t22; have a22 := L.a22; have z22 := L.z22; have v22 := L.v22; have t25 := L.t25; have a25 := L.a25; have z25 := L.z25; have v25 := L.v25; have u22 := run_underlying L.t22
  have t99 := run_underlying L.t5
  have FG := L.fSym
  have HC := Lib.hid hcmp
  have S0 := Lib.hid S
  have HS := Lib.hid hs
  have HB := Lib.hid hB
  have HM := Lib.hid hm
  have am : a < m := by omega
  have am1 : m ≤ a + 1 := by omega
  have one : (((m : Int) - (a : Int)) == 1) = true := by rw [beq_iff_eq]; omega
  clear hcmp S hB hm hs
  go_enter FG, Tryz.ntmps119
  go_wp2
  go_loopg [10, 11] (b - m) (fun gk s10 s11 wr => ∃ (i j : Nat), s10 = .int .i64 i ∧ s11 = .int .i64 j ∧ m ≤ i ∧ i ≤ j ∧ j ≤ b ∧ j - i ≤ gk ∧ Hid (SWK enc k w0 blk off d wr) ∧ Hid (∀ t, m ≤ t → t < i → ltOf cf d[t]! d[a]! = true) ∧ Hid (∀ t, j ≤ t → t < b → ltOf cf d[t]! d[a]! = false))
  case atStart => exact ⟨m, b, rfl, rfl, Nat.le_refl _, by omega, Nat.le_refl _, Nat.le_refl _, S0, fun t h1 h2 => by omega, fun t h1 h2 => by omega⟩
  case round =>
    clear S0
    obtain ⟨i, j, rfl, rfl, hmi, hij, hjb, hg, S1, HL, HR⟩ := hrel
    by_cases hlt : i < j
    · have hltz : (i : Int) < (j : Int) := by omega
      obtain ⟨h, hh⟩ : ∃ h : Nat, ((i : Int) + (j : Int)) / 2 = (h : Int) := ⟨(i + j) / 2, by omega⟩
      have hih : i ≤ h := by omega
      have hhj : h < j := by omega
      have step := left_step hO d a b i j h (by rw [← HM.out]; exact HB.out) (by omega) hih hhj hjb
      have ST := Lib.hid step
      clear step
      have ba : (h : Int) < (d.size : Int) := by omega
      have pa : (0 : Int) ≤ (h : Int) := by omega
      have bc : (a : Int) < (d.size : Int) := by omega
      have pc : (0 : Int) ≤ (a : Int) := by omega
      obtain ⟨x, hx⟩ : ∃ x, x = d[h]! := ⟨_, rfl⟩
      obtain ⟨y, hy⟩ : ∃ x, x = d[a]! := ⟨_, rfl⟩
      have la := S1.out.ld R (by rw [HS.out]) P (h) (by omega)
      have lb := S1.out.ld R (by rw [HS.out]) P (a) (by omega)
      rw [← hx] at la
      rw [← hy] at lb
      have hc := S1.out.cmp HC.out HS.out.symm x y
      have HX := Lib.hid hx
      have HY := Lib.hid hy
      clear hx hy
      by_cases hlv : cf x y < 0
      · go_wp2_with fail
        go_quiet_grown (first | (go_at_fn g; refine Calls.grown_of (hc _ _)))
        have S2 := Lib.hid (S1.out.grown nq osq)
        clear la lb hc S1
        generalize grow (wr.drewN nq) osq = w2 at S2 ⊢
        clear nq osq
        go_wp2
        go_roundg (j - (h + 1))
        case measure => omega
        case rel => exact ⟨h + 1, j, by go_num, rfl, by omega, by omega, by omega, Nat.le_refl _, S2, fun t h1 h2 => by
          by_cases c : t < i
          · exact HL.out t h1 c
          · exact ST.out.1 (by rw [← HX.out, ← HY.out]; exact decide_eq_true hlv) t (by omega) h2, HR⟩
      · go_wp2_with fail
        go_quiet_grown (first | (go_at_fn g; refine Calls.grown_of (hc _ _)))
        have S2 := Lib.hid (S1.out.grown nq osq)
        clear la lb hc S1
        generalize grow (wr.drewN nq) osq = w2 at S2 ⊢
        clear nq osq
        go_wp2
        go_roundg (h - i)
        case measure => omega
        case rel => exact ⟨i, h, rfl, by go_num, by omega, by omega, by omega, Nat.le_refl _, S2, HL, fun t h1 h2 => by
          by_cases c : t < j
          · exact ST.out.2 (by rw [← HX.out, ← HY.out]; exact decide_eq_false (by omega)) t h1 c
          · exact HR.out t (by omega) h2⟩
    · have hltz : ¬ (i : Int) < (j : Int) := by omega
      obtain rfl : i = j := by omega
      have hfin : SymPost (ltOf cf) a b d (rotA d a (a + 1) i) := sym_left hO d a b i hb (by omega) hjb (by rw [← HM.out]; exact HB.out) (fun t h1 h2 => HL.out t (by rw [HM.out]; exact h1) h2) HR.out
      have HF := Lib.hid hfin
      have W0 : Hid (d = rotA d a (a + 1) (a + 1)) := (rotA_triv d a (a + 1) (a + 1) (by omega) (by omega) (by omega) (.inr rfl)).symm
      clear hfin HL HR
      go_wp2
      go_loopg [13] (i - a) (fun gk s13 wr2 => ∃ (t : Nat) (dk : Array α), s13 = .int .i64 t ∧ a ≤ t ∧ t + 1 ≤ i ∧ i - t ≤ gk ∧ Hid (dk.size = d.size) ∧ Hid (SWK enc k w0 blk off dk wr2) ∧ Hid (dk = rotA d a (a + 1) (t + 1)))
      case atStart => exact ⟨a, d, rfl, Nat.le_refl _, by omega, Nat.le_refl _, rfl, S1, W0⟩
      case round =>
        clear S1
        obtain ⟨t, dk, rfl, hat, hti, hg2, HD, S2, HE⟩ := hrel
        have hd1 : d.size ≤ dk.size := by rw [HD.out]; exact Nat.le_refl _
        by_cases hlt2 : t + 1 < i
        · have hltz2 : (t : Int) < (i : Int) - 1 := by omega
          have ea : ((t : Int) + 1).toNat = t + 1 := by omega
          have pa : (0 : Int) ≤ (t : Int) + 1 := by omega
          have ba : (t : Int) + 1 < (d.size : Int) := by omega
          have ra : IntKind.i64.wrap ((t : Int) + 1) = (t : Int) + 1 := by rw [IntKind.wrap_i64]; omega
          have pb : (0 : Int) ≤ (t : Int) := by omega
          have bb : (t : Int) < (d.size : Int) := by omega
          have SS : Hid (SWK enc k w0 blk off (swp dk t (t + 1)) ((wr.drew.setCells blk (off + t * k) (enc dk[(t + 1)]!)).setCells blk (off + (t + 1) * k) (enc dk[t]!))) := S2.out.swapped R t (t + 1) (by omega) (by omega)
          have la := S2.out.ld1 R (by rw [HD.out]; exact HS.out.symm) P t (by omega)
          have lb := S2.out.ld1 R (by rw [HD.out]; exact HS.out.symm) P (t + 1) (by omega)
          have sa := S2.out.st1 R (by rw [HD.out]; exact HS.out.symm) P t (by omega) dk[(t + 1)]!
          have sb := S2.out.st2 R (by rw [HD.out]; exact HS.out.symm) P t (t + 1) (by omega) (by omega) dk[(t + 1)]! dk[t]!
          have na : (enc dk[t]!).length = k := R.hk _
          have nb : (enc dk[(t + 1)]!).length = k := R.hk _
          generalize enc dk[t]! = cI at SS la sb na
          generalize enc dk[(t + 1)]! = cJ at SS lb sa sb nb
          clear S2
          go_wp2_with fail
          go_big_region_o
          clear la lb sa sb
          generalize (wr.drew.setCells blk (off + t * k) cJ).setCells blk (off + (t + 1) * k) cI = w2 at SS ⊢
          go_wp2
          go_roundg (i - (t + 1))
          case measure => omega
          case rel => exact ⟨t + 1, _, by go_num, by omega, by omega, Nat.le_refl _, by show _ = _; rw [size_swp]; exact HD.out, SS, by
            show _ = _
            rw [HE.out]
            have hsz2 := size_rotA d a (a + 1) (t + 1) (by omega) (by omega) (by omega)
            refine arr_ext (by rw [size_swp, hsz2, size_rotA _ _ _ _ (by omega) (by omega) (by omega)]) fun u hu => ?_
            rw [swp_get _ (by omega) (by omega), rotA_get _ _ _ _ (by omega) (by omega) (by omega), rotA_get _ _ _ _ (by omega) (by omega) (by omega), rotA_get _ _ _ _ (by omega) (by omega) (by omega), rotA_get _ _ _ _ (by omega) (by omega) (by omega)]
            repeat' split
            all_goals first | rfl | omega | (congr 1; omega)⟩
        · have hltz2 : ¬ (t : Int) < (i : Int) - 1 := by omega
          go_wp2
          (try simp only [Exit.inBlock, Exit.then])
          refine bodyPost_ret (results_none rfl _ _ _) rfl ?_
          obtain rfl : i = t + 1 := by omega
          exact ⟨rfl, rotA d a (a + 1) (t + 1), HF.out, by rw [← HE.out]; exact S2.out⟩

set_option maxHeartbeats 8000000 in
set_option maxRecDepth 1000000 in
theorem symBLa {P : Program} {k : Nat} (L : StLa P k) {α : Type} [Inhabited α] (enc : α → List Value) (cf : α → α → Int) (hO : SWO (ltOf cf)) (g : Nat) (cb : Array Value) (blk off cap a m b : Nat) (d0 d : Array α) (w0 w : World)
    (eg : ∀ args w, (callFunc g args).run P w = .ok (.enter g args) w) (hcmp : CmpLays P g cb enc k cf blk off d0.size w0) (R : RowK enc k w0 blk off d0) (hs : d0.size = d.size) (S : SWK enc k w0 blk off d w)
    (ham : a + 1 < m) (hm : b = m + 1) (hb : b ≤ d.size) (hsz : d.size < 4611686018427387904) (hA : SortedIn (ltOf cf) a m d) :
    Calls P 119 #[.slice (some ⟨blk, off, none⟩) d.size cap, .int .i64 a, .int .i64 m, .int .i64 b, .func (.func g) #[] cb] w fun e w' =>
      e = .returned (.tuple #[]) ∧ ∃ d', SymPost (ltOf cf) a b d d' ∧ SWK enc k w0 blk off d' w' := by
  have mixed := L.mixed; have aE := L.aE; have zE := L.zE; have t0 := L.t0; have a0 := L.a0; have z0 := L.z0; have v0 := L.v0; have t3 := L.t3; have a3 := L.a3; have z3 := L.z3; have v3 := L.v3; have t4 := L.t4; have a4 := L.a4; have z4 := L.z4; have v4 := L.v4; have t5 := L.t5; have a5 := L.a5; have z5 := L.z5; have v5 := L.v5; have t22 := L.t22; have a22 := L.a22; have z22 := L.z22; have v22 := L.v22; have t25 := L.t25; have a25 := L.a25; have z25 := L.z25; have v25 := L.v25; have u22 := run_underlying L.t22
  have t99 := run_underlying L.t5
  have FG := L.fSym
  have HC := Lib.hid hcmp
  have S0 := Lib.hid S
  have HS := Lib.hid hs
  have HA := Lib.hid hA
  have HM := Lib.hid hm
  have hmb : m < b := by omega
  have hmb2 : b ≤ m + 1 := by omega
  have one : (((m : Int) - (a : Int)) == 1) = false := by rw [beq_eq_false_iff_ne]; omega
  have two : (((b : Int) - (m : Int)) == 1) = true := by rw [beq_iff_eq]; omega
  clear hcmp S hA hm hs
  go_enter FG, Tryz.ntmps119
  go_wp2
  go_loopg [14, 15] (m - a) (fun gk s10 s11 wr => ∃ (i j : Nat), s10 = .int .i64 i ∧ s11 = .int .i64 j ∧ a ≤ i ∧ i ≤ j ∧ j ≤ m ∧ j - i ≤ gk ∧ Hid (SWK enc k w0 blk off d wr) ∧ Hid (∀ t, a ≤ t → t < i → ltOf cf d[m]! d[t]! = false) ∧ Hid (∀ t, j ≤ t → t < m → ltOf cf d[m]! d[t]! = true))
  case atStart => exact ⟨a, m, rfl, rfl, Nat.le_refl _, by omega, Nat.le_refl _, Nat.le_refl _, S0, fun t h1 h2 => by omega, fun t h1 h2 => by omega⟩
  case round =>
    clear S0
    obtain ⟨i, j, rfl, rfl, hmi, hij, hjb, hg, S1, HL, HR⟩ := hrel
    by_cases hlt : i < j
    · have hltz : (i : Int) < (j : Int) := by omega
      obtain ⟨h, hh⟩ : ∃ h : Nat, ((i : Int) + (j : Int)) / 2 = (h : Int) := ⟨(i + j) / 2, by omega⟩
      have hih : i ≤ h := by omega
      have hhj : h < j := by omega
      have step := right_step hO d a m i j h HA.out hmi hih hhj hjb
      have ST := Lib.hid step
      clear step
      have ba : (m : Int) < (d.size : Int) := by omega
      have pa : (0 : Int) ≤ (m : Int) := by omega
      have bc : (h : Int) < (d.size : Int) := by omega
      have pc : (0 : Int) ≤ (h : Int) := by omega
      obtain ⟨x, hx⟩ : ∃ x, x = d[m]! := ⟨_, rfl⟩
      obtain ⟨y, hy⟩ : ∃ x, x = d[h]! := ⟨_, rfl⟩
      have la := S1.out.ld R (by rw [HS.out]) P (m) (by omega)
      have lb := S1.out.ld R (by rw [HS.out]) P (h) (by omega)
      rw [← hx] at la
      rw [← hy] at lb
      have hc := S1.out.cmp HC.out HS.out.symm x y
      have HX := Lib.hid hx
      have HY := Lib.hid hy
      clear hx hy
      by_cases hlv : cf x y < 0
      · go_wp2_with fail
        go_quiet_grown (first | (go_at_fn g; refine Calls.grown_of (hc _ _)))
        have S2 := Lib.hid (S1.out.grown nq osq)
        clear la lb hc S1
        generalize grow (wr.drewN nq) osq = w2 at S2 ⊢
        clear nq osq
        go_wp2
        go_roundg (h - i)
        case measure => omega
        case rel => exact ⟨i, h, rfl, by go_num, by omega, by omega, by omega, Nat.le_refl _, S2, HL, fun t h1 h2 => by
          by_cases c : t < j
          · exact ST.out.2 (by rw [← HX.out, ← HY.out]; exact decide_eq_true hlv) t h1 c
          · exact HR.out t (by omega) h2⟩
      · have hdn : decide (cf x y < 0) = false := decide_eq_false hlv
        go_wp2_with fail
        go_quiet_grown (first | (go_at_fn g; refine Calls.grown_of (hc _ _)))
        have S2 := Lib.hid (S1.out.grown nq osq)
        clear la lb hc S1
        generalize grow (wr.drewN nq) osq = w2 at S2 ⊢
        clear nq osq
        go_wp2
        go_roundg (j - (h + 1))
        case measure => omega
        case rel => exact ⟨h + 1, j, by go_num, rfl, by omega, by omega, by omega, Nat.le_refl _, S2, fun t h1 h2 => by
          by_cases c : t < i
          · exact HL.out t h1 c
          · exact ST.out.1 (by rw [← HX.out, ← HY.out]; exact decide_eq_false (by omega)) t (by omega) h2, HR⟩
    · have hltz : ¬ (i : Int) < (j : Int) := by omega
      obtain rfl : i = j := by omega
      have hfin : SymPost (ltOf cf) a b d (rotA d i m (m + 1)) := by rw [HM.out]; exact sym_right hO d a m i (by omega) hmi hjb HA.out HL.out HR.out
      have HF := Lib.hid hfin
      have W0 : Hid (d = rotA d m m (m + 1)) := (rotA_triv d m m (m + 1) (by omega) (by omega) (by omega) (.inl rfl)).symm
      clear hfin HL HR
      go_wp2
      go_loopg [17] (m - i) (fun gk s13 wr2 => ∃ (t : Nat) (dk : Array α), s13 = .int .i64 t ∧ i ≤ t ∧ t ≤ m ∧ t - i ≤ gk ∧ Hid (dk.size = d.size) ∧ Hid (SWK enc k w0 blk off dk wr2) ∧ Hid (dk = rotA d t m (m + 1)))
      case atStart => exact ⟨m, d, rfl, by omega, Nat.le_refl _, Nat.le_refl _, rfl, S1, W0⟩
      case round =>
        clear S1
        obtain ⟨t, dk, rfl, hit, htm, hg2, HD, S2, HE⟩ := hrel
        have hd1 : d.size ≤ dk.size := by rw [HD.out]; exact Nat.le_refl _
        by_cases hlt2 : i < t
        · have hltz2 : (i : Int) < (t : Int) := by omega
          obtain ⟨u, rfl⟩ : ∃ u, t = u + 1 := ⟨t - 1, by omega⟩
          have hltz3 : (i : Int) < (u : Int) + 1 := by omega
          have hwp : IntKind.i64.wrap (u : Int) = (u : Int) := by rw [IntKind.wrap_i64]; omega
          have ea : ((u : Int) + 1).toNat = u + 1 := by omega
          have pa : (0 : Int) ≤ (u : Int) + 1 := by omega
          have ba : (u : Int) + 1 < (d.size : Int) := by omega
          have ra : IntKind.i64.wrap ((u : Int) + 1) = (u : Int) + 1 := by rw [IntKind.wrap_i64]; omega
          have pb : (0 : Int) ≤ (u : Int) := by omega
          have bb : (u : Int) < (d.size : Int) := by omega
          have SS : Hid (SWK enc k w0 blk off (swp dk (u + 1) u) ((wr.drew.setCells blk (off + (u + 1) * k) (enc dk[u]!)).setCells blk (off + u * k) (enc dk[(u + 1)]!))) := S2.out.swapped R (u + 1) u (by omega) (by omega)
          have la := S2.out.ld1 R (by rw [HD.out]; exact HS.out.symm) P (u + 1) (by omega)
          have lb := S2.out.ld1 R (by rw [HD.out]; exact HS.out.symm) P u (by omega)
          have sa := S2.out.st1 R (by rw [HD.out]; exact HS.out.symm) P (u + 1) (by omega) dk[u]!
          have sb := S2.out.st2 R (by rw [HD.out]; exact HS.out.symm) P (u + 1) u (by omega) (by omega) dk[u]! dk[(u + 1)]!
          have na : (enc dk[(u + 1)]!).length = k := R.hk _
          have nb : (enc dk[u]!).length = k := R.hk _
          generalize enc dk[(u + 1)]! = cI at SS la sb na
          generalize enc dk[u]! = cJ at SS lb sa sb nb
          clear S2
          go_wp2_with fail
          go_big_region_o
          clear la lb sa sb
          generalize (wr.drew.setCells blk (off + (u + 1) * k) cJ).setCells blk (off + u * k) cI = w2 at SS ⊢
          go_wp2
          go_roundg (u - i)
          case measure => omega
          case rel => exact ⟨u, _, by first | rfl | go_num | (congr 1; omega), by omega, by omega, Nat.le_refl _, by show _ = _; rw [size_swp]; exact HD.out, SS, by
            show _ = _
            rw [HE.out]
            have hsz2 := size_rotA d (u + 1) m (m + 1) (by omega) (by omega) (by omega)
            refine arr_ext (by rw [size_swp, hsz2, size_rotA _ _ _ _ (by omega) (by omega) (by omega)]) fun v hv => ?_
            rw [swp_get _ (by omega) (by omega), rotA_get _ _ _ _ (by omega) (by omega) (by omega), rotA_get _ _ _ _ (by omega) (by omega) (by omega), rotA_get _ _ _ _ (by omega) (by omega) (by omega), rotA_get _ _ _ _ (by omega) (by omega) (by omega)]
            repeat' split
            all_goals first | rfl | omega | (congr 1; omega)⟩
        · have hltz2 : ¬ (i : Int) < (t : Int) := by omega
          go_wp2
          (try simp only [Exit.inBlock, Exit.then])
          refine bodyPost_ret (results_none rfl _ _ _) rfl ?_
          obtain rfl : i = t := by omega
          exact ⟨rfl, rotA d i m (m + 1), HF.out, by rw [← HE.out]; exact S2.out⟩


end Go.Proofs.YtjgbflclhkeibaaGreat
