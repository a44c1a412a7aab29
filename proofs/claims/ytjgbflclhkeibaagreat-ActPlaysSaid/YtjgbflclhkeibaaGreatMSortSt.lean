/-
  slices' stableCmpFunc at the element types that the program sorts: the row is sorted, and no class of equals is turned.
  slices.SortStableFunc at the element types that the program sorts, onto a row of one's own, nil too: it holds the sorted list, no class of equals is turned, nothing else is.
-/
import Derived.Test.YtjgbflclhkeibaaGreatSortSymC
namespace Go.Proofs.YtjgbflclhkeibaaGreat
open Go.Shelf Go.RowKit Go.Lib Go.Sort
set_option linter.unusedVariables false
theorem cmpLays_onEv {P : Program} {k : Nat} {α : Type} [Inhabited α] {enc : α → List Value} {cf : α → α → Int} {g : Nat} {cb : Array Value} {blk off size : Nat} {d0 dk : Array α} {w0 W : World} (hcmp : CmpLays P g cb enc k cf blk off size w0) (R : RowK enc k w0 blk off d0) (hs : dk.size = size) (S : SWK enc k w0 blk off dk W) : CmpLays P g cb enc k cf blk off size W := by
  intro m os dj hj x y
  obtain ⟨n, os', h⟩ := S.on R.hblk m dj os (by rw [hj, hs])
  rw [h]
  exact hcmp n os' dj hj x y

set_option maxHeartbeats 8000000 in
set_option maxRecDepth 1000000 in
theorem stableEv {P : Program} {k : Nat} (L : StEv P k) {α : Type} [Inhabited α] (enc : α → List Value) (cf : α → α → Int) (hO : SWO (ltOf cf)) (g : Nat) (cb : Array Value) (blk off cap : Nat) (d : Array α) (w0 : World)
    (eg : ∀ args w, (callFunc g args).run P w = .ok (.enter g args) w) (hcmp : CmpLays P g cb enc k cf blk off d.size w0) (R : RowK enc k w0 blk off d) (hsz : d.size ≤ 1000000000) :
    Calls P 121 #[.slice (some ⟨blk, off, none⟩) d.size cap, .int .i64 d.size, .func (.func g) #[] cb] w0 fun e w' =>
      e = .returned (.tuple #[]) ∧ ∃ d', d'.size = d.size ∧ stableOf (ltOf cf) d.toList d'.toList ∧ SWK enc k w0 blk off d' w' := by
  have mixed := L.mixed; have aE := L.aE; have zE := L.zE; have t0 := L.t0; have a0 := L.a0; have z0 := L.z0; have v0 := L.v0; have t3 := L.t3; have a3 := L.a3; have z3 := L.z3; have v3 := L.v3; have t4 := L.t4; have a4 := L.a4; have z4 := L.z4; have v4 := L.v4; have t5 := L.t5; have a5 := L.a5; have z5 := L.z5; have v5 := L.v5; have t22 := L.t22; have a22 := L.a22; have z22 := L.z22; have v22 := L.v22; have t25 := L.t25; have a25 := L.a25; have z25 := L.z25; have v25 := L.v25; have u22 := run_underlying L.t22
  have FG := L.fSt
  have eI : ∀ args w, (callFunc 130 args).run P w = .ok (.enter 130 args) w := enters_of L.fIns (by kernel_rfl) rfl
  have eM : ∀ args w, (callFunc 131 args).run P w = .ok (.enter 131 args) w := enters_of L.fSym (by kernel_rfl) rfl
  have ins : ∀ (a b : Nat) (dk : Array α) (wr : World), dk.size = d.size → SWK enc k w0 blk off dk wr → a ≤ b → b ≤ d.size → Calls P 130 #[.slice (some ⟨blk, off, none⟩) d.size cap, .int .i64 a, .int .i64 b, .func (.func g) #[] cb] wr fun e w' =>
      e = .returned (.tuple #[]) ∧ Hid (SWK enc k w0 blk off (Sort.insertionSort (ltOf cf) dk a b) w') := by
    intro a b dk wr hs S hab hb
    have h := insEv L enc R.hk R.h1 cf g cb blk off cap a b dk wr eg (by rw [hs]; exact cmpLays_onEv hcmp R hs S) (S.holds R.hblk R.hH hs) (S.lt R.hblk) hab (by omega) (by omega)
    rw [hs] at h
    exact h.mono fun e w' ⟨he, n, os, hw⟩ => ⟨he, by show SWK _ _ _ _ _ _ _; rw [hw]; exact S.on R.hblk n _ os (by rw [(insertion_out hO dk a b hab (by omega)).1])⟩
  have sym : ∀ (a m b : Nat) (dk : Array α) (wr : World), dk.size = d.size → SWK enc k w0 blk off dk wr → a < m → m < b → b ≤ d.size → SortedIn (ltOf cf) a m dk → SortedIn (ltOf cf) m b dk →
      Calls P 131 #[.slice (some ⟨blk, off, none⟩) d.size cap, .int .i64 a, .int .i64 m, .int .i64 b, .func (.func g) #[] cb] wr fun e w' =>
      e = .returned (.tuple #[]) ∧ ∃ d', Hid (SymPost (ltOf cf) a b dk d') ∧ Hid (SWK enc k w0 blk off d' w') := fun a m b dk wr hs S h1 h2 h3 h4 h5 =>
    symMergeEv L enc cf hO g cb blk off cap d w0 eg hcmp R (b - a) a m b dk wr (Nat.le_refl _) hs.symm S h1 h2 (by omega) (by omega) h4 h5
  have INS := Lib.hid ins
  have SYM := Lib.hid sym
  have S0 : Hid (SWK enc k w0 blk off d w0) := SWK.start R.hH
  clear ins sym hcmp
  go_enter FG, Tryz.ntmps121
  go_wp2
  go_loopg [7, 8] d.size (fun gk s7 s8 wr => ∃ (c a b : Nat) (dk : Array α), s7 = .int .i64 a ∧ s8 = .int .i64 b ∧ Hid (a = c * 20) ∧ a + 20 ≤ b ∧ b ≤ a + 20 ∧ a ≤ d.size ∧ d.size - a ≤ gk ∧ Hid (dk.size = d.size) ∧ Hid (SWK enc k w0 blk off dk wr) ∧ Hid (Stab (ltOf cf) d dk) ∧ Hid (Blk (ltOf cf) 20 0 a dk))
  case atStart => exact ⟨0, 0, 20, d, rfl, rfl, rfl, by omega, by omega, Nat.zero_le _, Nat.le_refl _, rfl, S0, Stab.refl _ _, Blk.none _ _ _ _⟩
  case round =>
    clear S0
    obtain ⟨c, a, b, dk, rfl, rfl, HA, hb1, hb2, han, hg, HD, S1, HST, HB⟩ := hrel
    by_cases hlt : b ≤ d.size
    · have hltz : (b : Int) ≤ (d.size : Int) := by omega
      have hcall := INS.out a b dk wr HD.out S1.out (by omega) hlt
      have HCL := Lib.hid hcall
      clear hcall
      have ho := insertion_out hO dk a b (by omega) (by rw [HD.out]; exact hlt)
      have HO := Lib.hid ho
      have hst := insertion_stab hO dk a b (by rw [HD.out]; exact hlt)
      have HS2 := Lib.hid hst
      clear ho hst
      go_wp2_with fail
      refine HCL.out.mono ?_
      rintro e w1 ⟨rfl, S2⟩
      go_wp2_with fail
      go_roundg (d.size - b)
      case measure => omega
      case rel => exact ⟨c + 1, b, b + 20, _, rfl, by go_num, by show _ = _; have := HA.out; omega, by omega, by omega, hlt, Nat.le_refl _, by show _ = _; rw [HO.out.1]; exact HD.out, S2, HST.out.trans HS2.out, by
        have := HA.out
        refine Blk.more (c0 := c) (by omega) (by rw [← this]; exact HB.out) (fun t ht => HO.out.2.1 t (.inl (by omega))) (by rw [← this]; exact HO.out.2.2)⟩
    · have hltz : ¬ (b : Int) ≤ (d.size : Int) := by omega
      have hcall := INS.out a d.size dk wr HD.out S1.out han (Nat.le_refl _)
      have HCL := Lib.hid hcall
      clear hcall
      have ho := insertion_out hO dk a d.size han (by rw [HD.out]; exact Nat.le_refl _)
      have HO := Lib.hid ho
      have hst := insertion_stab hO dk a d.size (by rw [HD.out]; exact Nat.le_refl _)
      have HS2 := Lib.hid (HST.out.trans hst)
      have hbl : Blk (ltOf cf) 20 0 d.size (Sort.insertionSort (ltOf cf) dk a d.size) := by
        have := HA.out
        refine Blk.more (c0 := c) (by omega) (by rw [← this]; exact HB.out) (fun t ht => HO.out.2.1 t (.inl (by omega))) (by rw [← this]; exact HO.out.2.2)
      have HBL := Lib.hid hbl
      have hsz2 : (Sort.insertionSort (ltOf cf) dk a d.size).size = d.size := by rw [HO.out.1]; exact HD.out
      have HZ := Lib.hid hsz2
      clear ho hst hbl hsz2 HB HST HO
      go_wp2_with fail
      refine HCL.out.mono ?_
      rintro e w1 ⟨rfl, S2⟩
      go_wp2_with fail
      go_loopg [6] (d.size - 20) (fun gk s6 wr => ∃ (bs : Nat) (dk : Array α), s6 = .int .i64 bs ∧ 20 ≤ bs ∧ bs ≤ 2 * d.size + 20 ∧ d.size - bs ≤ gk ∧ Hid (dk.size = d.size) ∧ Hid (SWK enc k w0 blk off dk wr) ∧ Hid (Stab (ltOf cf) d dk) ∧ Hid (Blk (ltOf cf) bs 0 d.size dk))
      case atStart => exact ⟨20, _, rfl, Nat.le_refl _, by omega, by omega, HZ, S2, HS2, HBL⟩
      case round =>
        clear S1 S2 HS2 HBL HZ HD
        obtain ⟨bs, dk, rfl, hbs, hbs2, hg2, HD, S1, HST, HB⟩ := hrel
        by_cases hlt : bs < d.size
        · have hltz : (bs : Int) < (d.size : Int) := by omega
          go_wp2_with fail
          go_loopg [7, 8] d.size (fun gk s7 s8 wr => ∃ (c a b : Nat) (dk : Array α), s7 = .int .i64 a ∧ s8 = .int .i64 b ∧ Hid (a = c * (2 * bs)) ∧ a + 2 * bs ≤ b ∧ b ≤ a + 2 * bs ∧ a ≤ d.size ∧ d.size - a ≤ gk ∧ Hid (dk.size = d.size) ∧ Hid (SWK enc k w0 blk off dk wr) ∧ Hid (Stab (ltOf cf) d dk) ∧ Hid (Blk (ltOf cf) (2 * bs) 0 a dk) ∧ Hid (Blk (ltOf cf) bs a d.size dk))
          case atStart => exact ⟨0, 0, 2 * bs, dk, rfl, by congr 1, by show _ = _; simp, by omega, by omega, Nat.zero_le _, Nat.le_refl _, HD, S1, HST, Blk.none _ _ _ _, HB⟩
          case round =>
            clear S1 HST HB HD
            obtain ⟨c, a, b, dk, rfl, rfl, HA, hb1, hb2, han, hg3, HD, S1, HST, HB1, HB2⟩ := hrel
            have q1 : (a : Int) + (bs : Int) = ((a + bs : Nat) : Int) := by omega
            have Q1 := Lib.hid q1
            clear q1
            have hc1 : Hid (a = (2 * c) * bs) := by show _ = _; rw [HA.out, ← Nat.mul_assoc, Nat.mul_comm c 2]
            have hc2 : Hid (a + bs = (2 * c + 1) * bs) := by show _ = _; rw [Nat.add_mul, Nat.one_mul, ← hc1.out]
            by_cases hlt2 : b ≤ d.size
            · have hltz2 : (b : Int) ≤ (d.size : Int) := by omega
              have hcall := SYM.out a (a + bs) b dk wr HD.out S1.out (by omega) (by omega) hlt2 (HB2.out.at (2 * c) a (a + bs) hc1.out (Nat.le_refl _) (Nat.le_refl _) (by omega)) (HB2.out.at (2 * c + 1) (a + bs) b hc2.out (by omega) (by omega) hlt2)
              have HCL := Lib.hid hcall
              clear hcall
              go_wp2_with fail
              rw [Q1.out]
              refine HCL.out.mono ?_
              rintro e w1 ⟨rfl, d2, P2, S2⟩
              go_wp2_with fail
              go_roundg (d.size - b)
              case measure => omega
              case rel => exact ⟨c + 1, b, b + 2 * bs, d2, rfl, by go_num, by show _ = _; have := HA.out; rw [Nat.add_mul, Nat.one_mul, ← this]; omega, by omega, by omega, hlt2, Nat.le_refl _, by show _ = _; rw [P2.out.size]; exact HD.out, S2, HST.out.trans P2.out.stab, by
                have := HA.out
                exact Blk.more (c0 := c) (by rw [Nat.add_mul, Nat.one_mul, ← this]; omega) (by rw [← this]; exact HB1.out) (fun t ht => P2.out.out t (.inl (by omega))) (by rw [← this]; exact P2.out.sorted),
                (HB2.out.from (by omega)).keep fun t h1 h2 => P2.out.out t (.inr h1)⟩
            · have hltz2 : ¬ (b : Int) ≤ (d.size : Int) := by omega
              by_cases hm : a + bs < d.size
              · have hmz : (a : Int) + (bs : Int) < (d.size : Int) := by omega
                have hcall := SYM.out a (a + bs) d.size dk wr HD.out S1.out (by omega) hm (Nat.le_refl _) (HB2.out.at (2 * c) a (a + bs) hc1.out (Nat.le_refl _) (Nat.le_refl _) (by omega)) (HB2.out.at (2 * c + 1) (a + bs) d.size hc2.out (by omega) (by omega) (Nat.le_refl _))
                have HCL := Lib.hid hcall
                clear hcall
                go_wp2_with fail
                rw [Q1.out]
                refine HCL.out.mono ?_
                rintro e w1 ⟨rfl, d2, P2, S2⟩
                go_wp2_with fail
                go_roundg (d.size - 2 * bs)
                case measure => omega
                case rel => exact ⟨2 * bs, d2, by congr 1; omega, by omega, by omega, Nat.le_refl _, by show _ = _; rw [P2.out.size]; exact HD.out, S2, HST.out.trans P2.out.stab, by
                  have := HA.out
                  exact Blk.more (c0 := c) (by rw [Nat.add_mul, Nat.one_mul, ← this]; omega) (by rw [← this]; exact HB1.out) (fun t ht => P2.out.out t (.inl (by omega))) (by rw [← this]; exact P2.out.sorted)⟩
              · have hmz : ¬ (a : Int) + (bs : Int) < (d.size : Int) := by omega
                go_wp2_with fail
                go_roundg (d.size - 2 * bs)
                case measure => omega
                case rel => exact ⟨2 * bs, dk, by congr 1; omega, by omega, by omega, Nat.le_refl _, HD, S1, HST, by
                  have := HA.out
                  exact Blk.more (c0 := c) (by rw [Nat.add_mul, Nat.one_mul, ← this]; omega) (by rw [← this]; exact HB1.out) (fun t ht => rfl) (by rw [← this]; exact HB2.out.at (2 * c) a d.size hc1.out (Nat.le_refl _) (by omega) (Nat.le_refl _))⟩
        · have hltz : ¬ (bs : Int) < (d.size : Int) := by omega
          go_wp2_with fail
          go_end0
          refine ⟨rfl, dk, HD.out, ⟨sortedL_of ?_, HST.out⟩, S1.out⟩
          rw [HD.out]
          exact HB.out.at 0 0 d.size (by simp) (Nat.le_refl _) (by omega) (Nat.le_refl _)


theorem cmpLays_onLa {P : Program} {k : Nat} {α : Type} [Inhabited α] {enc : α → List Value} {cf : α → α → Int} {g : Nat} {cb : Array Value} {blk off size : Nat} {d0 dk : Array α} {w0 W : World} (hcmp : CmpLays P g cb enc k cf blk off size w0) (R : RowK enc k w0 blk off d0) (hs : dk.size = size) (S : SWK enc k w0 blk off dk W) : CmpLays P g cb enc k cf blk off size W := by
  intro m os dj hj x y
  obtain ⟨n, os', h⟩ := S.on R.hblk m dj os (by rw [hj, hs])
  rw [h]
  exact hcmp n os' dj hj x y

set_option maxHeartbeats 8000000 in
set_option maxRecDepth 1000000 in
theorem stableLa {P : Program} {k : Nat} (L : StLa P k) {α : Type} [Inhabited α] (enc : α → List Value) (cf : α → α → Int) (hO : SWO (ltOf cf)) (g : Nat) (cb : Array Value) (blk off cap : Nat) (d : Array α) (w0 : World)
    (eg : ∀ args w, (callFunc g args).run P w = .ok (.enter g args) w) (hcmp : CmpLays P g cb enc k cf blk off d.size w0) (R : RowK enc k w0 blk off d) (hsz : d.size ≤ 1000000000) :
    Calls P 97 #[.slice (some ⟨blk, off, none⟩) d.size cap, .int .i64 d.size, .func (.func g) #[] cb] w0 fun e w' =>
      e = .returned (.tuple #[]) ∧ ∃ d', d'.size = d.size ∧ stableOf (ltOf cf) d.toList d'.toList ∧ SWK enc k w0 blk off d' w' := by
  have mixed := L.mixed; have aE := L.aE; have zE := L.zE; have t0 := L.t0; have a0 := L.a0; have z0 := L.z0; have v0 := L.v0; have t3 := L.t3; have a3 := L.a3; have z3 := L.z3; have v3 := L.v3; have t4 := L.t4; have a4 := L.a4; have z4 := L.z4; have v4 := L.v4; have t5 := L.t5; have a5 := L.a5; have z5 := L.z5; have v5 := L.v5; have t22 := L.t22; have a22 := L.a22; have z22 := L.z22; have v22 := L.v22; have t25 := L.t25; have a25 := L.a25; have z25 := L.z25; have v25 := L.v25; have u22 := run_underlying L.t22
  have FG := L.fSt
  have eI : ∀ args w, (callFunc 118 args).run P w = .ok (.enter 118 args) w := enters_of L.fIns (by kernel_rfl) rfl
  have eM : ∀ args w, (callFunc 119 args).run P w = .ok (.enter 119 args) w := enters_of L.fSym (by kernel_rfl) rfl
  have ins : ∀ (a b : Nat) (dk : Array α) (wr : World), dk.size = d.size → SWK enc k w0 blk off dk wr → a ≤ b → b ≤ d.size → Calls P 118 #[.slice (some ⟨blk, off, none⟩) d.size cap, .int .i64 a, .int .i64 b, .func (.func g) #[] cb] wr fun e w' =>
      e = .returned (.tuple #[]) ∧ Hid (SWK enc k w0 blk off (Sort.insertionSort (ltOf cf) dk a b) w') := by
    intro a b dk wr hs S hab hb
    have h := insLa L enc R.hk R.h1 cf g cb blk off cap a b dk wr eg (by rw [hs]; exact cmpLays_onLa hcmp R hs S) (S.holds R.hblk R.hH hs) (S.lt R.hblk) hab (by omega) (by omega)
    rw [hs] at h
    exact h.mono fun e w' ⟨he, n, os, hw⟩ => ⟨he, by show SWK _ _ _ _ _ _ _; rw [hw]; exact S.on R.hblk n _ os (by rw [(insertion_out hO dk a b hab (by omega)).1])⟩
  have sym : ∀ (a m b : Nat) (dk : Array α) (wr : World), dk.size = d.size → SWK enc k w0 blk off dk wr → a < m → m < b → b ≤ d.size → SortedIn (ltOf cf) a m dk → SortedIn (ltOf cf) m b dk →
      Calls P 119 #[.slice (some ⟨blk, off, none⟩) d.size cap, .int .i64 a, .int .i64 m, .int .i64 b, .func (.func g) #[] cb] wr fun e w' =>
      e = .returned (.tuple #[]) ∧ ∃ d', Hid (SymPost (ltOf cf) a b dk d') ∧ Hid (SWK enc k w0 blk off d' w') := fun a m b dk wr hs S h1 h2 h3 h4 h5 =>
    symMergeLa L enc cf hO g cb blk off cap d w0 eg hcmp R (b - a) a m b dk wr (Nat.le_refl _) hs.symm S h1 h2 (by omega) (by omega) h4 h5
  have INS := Lib.hid ins
  have SYM := Lib.hid sym
  have S0 : Hid (SWK enc k w0 blk off d w0) := SWK.start R.hH
  clear ins sym hcmp
  go_enter FG, Tryz.ntmps97
  go_wp2
  go_loopg [7, 8] d.size (fun gk s7 s8 wr => ∃ (c a b : Nat) (dk : Array α), s7 = .int .i64 a ∧ s8 = .int .i64 b ∧ Hid (a = c * 20) ∧ a + 20 ≤ b ∧ b ≤ a + 20 ∧ a ≤ d.size ∧ d.size - a ≤ gk ∧ Hid (dk.size = d.size) ∧ Hid (SWK enc k w0 blk off dk wr) ∧ Hid (Stab (ltOf cf) d dk) ∧ Hid (Blk (ltOf cf) 20 0 a dk))
  case atStart => exact ⟨0, 0, 20, d, rfl, rfl, rfl, by omega, by omega, Nat.zero_le _, Nat.le_refl _, rfl, S0, Stab.refl _ _, Blk.none _ _ _ _⟩
  case round =>
    clear S0
    obtain ⟨c, a, b, dk, rfl, rfl, HA, hb1, hb2, han, hg, HD, S1, HST, HB⟩ := hrel
    by_cases hlt : b ≤ d.size
    · have hltz : (b : Int) ≤ (d.size : Int) := by omega
      have hcall := INS.out a b dk wr HD.out S1.out (by omega) hlt
      have HCL := Lib.hid hcall
      clear hcall
      have ho := insertion_out hO dk a b (by omega) (by rw [HD.out]; exact hlt)
      have HO := Lib.hid ho
      have hst := insertion_stab hO dk a b (by rw [HD.out]; exact hlt)
      have HS2 := Lib.hid hst
      clear ho hst
      go_wp2_with fail
      refine HCL.out.mono ?_
      rintro e w1 ⟨rfl, S2⟩
      go_wp2_with fail
      go_roundg (d.size - b)
      case measure => omega
      case rel => exact ⟨c + 1, b, b + 20, _, rfl, by go_num, by show _ = _; have := HA.out; omega, by omega, by omega, hlt, Nat.le_refl _, by show _ = _; rw [HO.out.1]; exact HD.out, S2, HST.out.trans HS2.out, by
        have := HA.out
        refine Blk.more (c0 := c) (by omega) (by rw [← this]; exact HB.out) (fun t ht => HO.out.2.1 t (.inl (by omega))) (by rw [← this]; exact HO.out.2.2)⟩
    · have hltz : ¬ (b : Int) ≤ (d.size : Int) := by omega
      have hcall := INS.out a d.size dk wr HD.out S1.out han (Nat.le_refl _)
      have HCL := Lib.hid hcall
      clear hcall
      have ho := insertion_out hO dk a d.size han (by rw [HD.out]; exact Nat.le_refl _)
      have HO := Lib.hid ho
      have hst := insertion_stab hO dk a d.size (by rw [HD.out]; exact Nat.le_refl _)
      have HS2 := Lib.hid (HST.out.trans hst)
      have hbl : Blk (ltOf cf) 20 0 d.size (Sort.insertionSort (ltOf cf) dk a d.size) := by
        have := HA.out
        refine Blk.more (c0 := c) (by omega) (by rw [← this]; exact HB.out) (fun t ht => HO.out.2.1 t (.inl (by omega))) (by rw [← this]; exact HO.out.2.2)
      have HBL := Lib.hid hbl
      have hsz2 : (Sort.insertionSort (ltOf cf) dk a d.size).size = d.size := by rw [HO.out.1]; exact HD.out
      have HZ := Lib.hid hsz2
      clear ho hst hbl hsz2 HB HST HO
      go_wp2_with fail
      refine HCL.out.mono ?_
      rintro e w1 ⟨rfl, S2⟩
      go_wp2_with fail
      go_loopg [6] (d.size - 20) (fun gk s6 wr => ∃ (bs : Nat) (dk : Array α), s6 = .int .i64 bs ∧ 20 ≤ bs ∧ bs ≤ 2 * d.size + 20 ∧ d.size - bs ≤ gk ∧ Hid (dk.size = d.size) ∧ Hid (SWK enc k w0 blk off dk wr) ∧ Hid (Stab (ltOf cf) d dk) ∧ Hid (Blk (ltOf cf) bs 0 d.size dk))
      case atStart => exact ⟨20, _, rfl, Nat.le_refl _, by omega, by omega, HZ, S2, HS2, HBL⟩
      case round =>
        clear S1 S2 HS2 HBL HZ HD
        obtain ⟨bs, dk, rfl, hbs, hbs2, hg2, HD, S1, HST, HB⟩ := hrel
        by_cases hlt : bs < d.size
        · have hltz : (bs : Int) < (d.size : Int) := by omega
          go_wp2_with fail
          go_loopg [7, 8] d.size (fun gk s7 s8 wr => ∃ (c a b : Nat) (dk : Array α), s7 = .int .i64 a ∧ s8 = .int .i64 b ∧ Hid (a = c * (2 * bs)) ∧ a + 2 * bs ≤ b ∧ b ≤ a + 2 * bs ∧ a ≤ d.size ∧ d.size - a ≤ gk ∧ Hid (dk.size = d.size) ∧ Hid (SWK enc k w0 blk off dk wr) ∧ Hid (Stab (ltOf cf) d dk) ∧ Hid (Blk (ltOf cf) (2 * bs) 0 a dk) ∧ Hid (Blk (ltOf cf) bs a d.size dk))
          case atStart => exact ⟨0, 0, 2 * bs, dk, rfl, by congr 1, by show _ = _; simp, by omega, by omega, Nat.zero_le _, Nat.le_refl _, HD, S1, HST, Blk.none _ _ _ _, HB⟩
          case round =>
            clear S1 HST HB HD
            obtain ⟨c, a, b, dk, rfl, rfl, HA, hb1, hb2, han, hg3, HD, S1, HST, HB1, HB2⟩ := hrel
            have q1 : (a : Int) + (bs : Int) = ((a + bs : Nat) : Int) := by omega
            have Q1 := Lib.hid q1
            clear q1
            have hc1 : Hid (a = (2 * c) * bs) := by show _ = _; rw [HA.out, ← Nat.mul_assoc, Nat.mul_comm c 2]
            have hc2 : Hid (a + bs = (2 * c + 1) * bs) := by show _ = _; rw [Nat.add_mul, Nat.one_mul, ← hc1.out]
            by_cases hlt2 : b ≤ d.size
            · have hltz2 : (b : Int) ≤ (d.size : Int) := by omega
              have hcall := SYM.out a (a + bs) b dk wr HD.out S1.out (by omega) (by omega) hlt2 (HB2.out.at (2 * c) a (a + bs) hc1.out (Nat.le_refl _) (Nat.le_refl _) (by omega)) (HB2.out.at (2 * c + 1) (a + bs) b hc2.out (by omega) (by omega) hlt2)
              have HCL := Lib.hid hcall
              clear hcall
              go_wp2_with fail
              rw [Q1.out]
              refine HCL.out.mono ?_
              rintro e w1 ⟨rfl, d2, P2, S2⟩
              go_wp2_with fail
              go_roundg (d.size - b)
              case measure => omega
              case rel => exact ⟨c + 1, b, b + 2 * bs, d2, rfl, by go_num, by show _ = _; have := HA.out; rw [Nat.add_mul, Nat.one_mul, ← this]; omega, by omega, by omega, hlt2, Nat.le_refl _, by show _ = _; rw [P2.out.size]; exact HD.out, S2, HST.out.trans P2.out.stab, by
                have := HA.out
                exact Blk.more (c0 := c) (by rw [Nat.add_mul, Nat.one_mul, ← this]; omega) (by rw [← this]; exact HB1.out) (fun t ht => P2.out.out t (.inl (by omega))) (by rw [← this]; exact P2.out.sorted),
                (HB2.out.from (by omega)).keep fun t h1 h2 => P2.out.out t (.inr h1)⟩
            · have hltz2 : ¬ (b : Int) ≤ (d.size : Int) := by omega
              by_cases hm : a + bs < d.size
              · have hmz : (a : Int) + (bs : Int) < (d.size : Int) := by omega
                have hcall := SYM.out a (a + bs) d.size dk wr HD.out S1.out (by omega) hm (Nat.le_refl _) (HB2.out.at (2 * c) a (a + bs) hc1.out (Nat.le_refl _) (Nat.le_refl _) (by omega)) (HB2.out.at (2 * c + 1) (a + bs) d.size hc2.out (by omega) (by omega) (Nat.le_refl _))
                have HCL := Lib.hid hcall
                clear hcall
                go_wp2_with fail
                rw [Q1.out]
                refine HCL.out.mono ?_
                rintro e w1 ⟨rfl, d2, P2, S2⟩
                go_wp2_with fail
                go_roundg (d.size - 2 * bs)
                case measure => omega
                case rel => exact ⟨2 * bs, d2, by congr 1; omega, by omega, by omega, Nat.le_refl _, by show _ = _; rw [P2.out.size]; exact HD.out, S2, HST.out.trans P2.out.stab, by
                  have := HA.out
                  exact Blk.more (c0 := c) (by rw [Nat.add_mul, Nat.one_mul, ← this]; omega) (by rw [← this]; exact HB1.out) (fun t ht => P2.out.out t (.inl (by omega))) (by rw [← this]; exact P2.out.sorted)⟩
              · have hmz : ¬ (a : Int) + (bs : Int) < (d.size : Int) := by omega
                go_wp2_with fail
                go_roundg (d.size - 2 * bs)
                case measure => omega
                case rel => exact ⟨2 * bs, dk, by congr 1; omega, by omega, by omega, Nat.le_refl _, HD, S1, HST, by
                  have := HA.out
                  exact Blk.more (c0 := c) (by rw [Nat.add_mul, Nat.one_mul, ← this]; omega) (by rw [← this]; exact HB1.out) (fun t ht => rfl) (by rw [← this]; exact HB2.out.at (2 * c) a d.size hc1.out (Nat.le_refl _) (by omega) (Nat.le_refl _))⟩
        · have hltz : ¬ (bs : Int) < (d.size : Int) := by omega
          go_wp2_with fail
          go_end0
          refine ⟨rfl, dk, HD.out, ⟨sortedL_of ?_, HST.out⟩, S1.out⟩
          rw [HD.out]
          exact HB.out.at 0 0 d.size (by simp) (Nat.le_refl _) (by omega) (Nat.le_refl _)


end Go.Proofs.YtjgbflclhkeibaaGreat
namespace Go.Proofs.YtjgbflclhkeibaaGreat
open Go.Shelf Go.RowKit Go.Lib Go.Sort
set_option linter.unusedVariables false
theorem insNilEv (fv : Value) (w : World) : Calls Tryz.prog 130 #[.slice none 0 0, .int .i64 0, .int .i64 0, fv] w fun e w' => e = .returned (.tuple #[]) ∧ w = w' := by
  go_enter Tryz.func130, Tryz.ntmps130
  go_wp2
  go_rounds 1
  go_end0
  exact ⟨rfl, rfl⟩
theorem stNilEv (fv : Value) (w : World) : Calls Tryz.prog 121 #[.slice none 0 0, .int .i64 0, fv] w fun e w' => e = .returned (.tuple #[]) ∧ w = w' := by
  go_enter Tryz.func121, Tryz.ntmps121
  go_wp2
  refine wp_loop_rounds 1 ?_
  rw [rounds_succ]
  go_wp2_with (go_at_call 130; refine (insNilEv _ _).mono ?_; rintro e w' ⟨rfl, rfl⟩)
  go_rounds 1
  go_end0
  exact ⟨rfl, rfl⟩
/-- what SortStableFunc leaves of a row of one's own -/
def SortedEv {α : Type} (enc : α → List Value) (k base e : Nat) (lt : α → α → Bool) (v : Value) (l : List α) (w : World) (en : Ending) (w' : World) : Prop :=
  en = .returned (.tuple #[]) ∧ ∃ l', stableOf lt l l' ∧ l'.length = l.length ∧ Owns enc k base e w' v l' ∧ w.grownBy w' v.ownBlock
theorem sortStableEv {α : Type} [Inhabited α] (enc : α → List Value) (hk : ∀ x, (enc x).length = 14) (h1 : ∀ x, ∀ v ∈ enc x, v.oneCell' = true) (cf : α → α → Int) (hO : SWO (ltOf cf)) (g : Nat) (cb : Array Value) (base e : Nat) (v : Value) (l : List α) (w : World)
    (eg : ∀ args w, (callFunc g args).run Tryz.prog w = .ok (.enter g args) w)
    (hcmp : ∀ (W : World) (x y : α), Calls Tryz.prog g (#[.agg (enc x).toArray, .agg (enc y).toArray] ++ cb) W fun e w' => e = .returned (.int .i64 (cf x y)) ∧ ∃ q os', w' = grow (W.drewN q) os')
    (hv : Owns enc 14 base e w v l) (hl : l.length ≤ 1000000000) :
    Calls Tryz.prog 101 #[v, .func (.func g) #[] cb] w (SortedEv enc 14 base e (ltOf cf) v l w) := by
  have hshape := hv.2
  rcases hshape with ⟨rfl, hn⟩ | ⟨b, cap, cur, rfl, _, hh, _, _, _, _⟩
  · have hl0 : l = [] := List.eq_nil_of_length_eq_zero hn
    subst hl0
    have HV := Lib.hid hv
    clear hv hcmp eg hn hk h1
    go_enter Tryz.func101, Tryz.ntmps101
    go_wp2_with (go_at_call 121; refine (stNilEv _ _).mono ?_; rintro e w' ⟨rfl, rfl⟩)
    go_end0
    exact ⟨rfl, [], ⟨List.Pairwise.nil, fun _ => rfl⟩, rfl, HV.out, World.grownBy.refl _ _⟩
  · have hb : b < w.heap.size := (Array.getElem?_eq_some_iff.1 hh).1
    have hst := stableEv stEv enc cf hO g cb b 0 cap l.toArray w eg (fun m os dk _ x y => hcmp _ x y) ⟨hk, h1, owns_holds (by decide) hk hv, hb⟩ (by simpa using hl)
    rw [List.size_toArray] at hst
    have HV := Lib.hid hv
    have HST := Lib.hid hst
    have HK := Lib.hid hk
    clear hv hcmp eg hh hst hk h1
    have c1 : ((l.length : Nat) : Int) ≤ 1000000000 := by omega
    go_enter Tryz.func101, Tryz.ntmps101
    go_wp2_with fail
    refine HST.out.mono ?_
    rintro e w1 ⟨rfl, d', hs, hso, hw⟩
    have HW := Lib.hid hw
    have HSO := Lib.hid hso
    have HS := Lib.hid hs
    clear hw hso hs
    go_wp2_with fail
    go_end0
    refine ⟨rfl, d'.toList, HSO.out, by simpa using HS.out, ?_⟩
    obtain ⟨n, os, hw⟩ := HW.out
    rw [hw]
    exact ⟨owns_sorted (by decide) HK.out HV.out d' HS.out, grownBy_sort d'⟩


theorem insNilLa (fv : Value) (w : World) : Calls Tryz.prog 118 #[.slice none 0 0, .int .i64 0, .int .i64 0, fv] w fun e w' => e = .returned (.tuple #[]) ∧ w = w' := by
  go_enter Tryz.func118, Tryz.ntmps118
  go_wp2
  go_rounds 1
  go_end0
  exact ⟨rfl, rfl⟩
theorem stNilLa (fv : Value) (w : World) : Calls Tryz.prog 97 #[.slice none 0 0, .int .i64 0, fv] w fun e w' => e = .returned (.tuple #[]) ∧ w = w' := by
  go_enter Tryz.func97, Tryz.ntmps97
  go_wp2
  refine wp_loop_rounds 1 ?_
  rw [rounds_succ]
  go_wp2_with (go_at_call 118; refine (insNilLa _ _).mono ?_; rintro e w' ⟨rfl, rfl⟩)
  go_rounds 1
  go_end0
  exact ⟨rfl, rfl⟩
/-- what SortStableFunc leaves of a row of one's own -/
def SortedLa {α : Type} (enc : α → List Value) (k base e : Nat) (lt : α → α → Bool) (v : Value) (l : List α) (w : World) (en : Ending) (w' : World) : Prop :=
  en = .returned (.tuple #[]) ∧ ∃ l', stableOf lt l l' ∧ l'.length = l.length ∧ Owns enc k base e w' v l' ∧ w.grownBy w' v.ownBlock
theorem sortStableLa {α : Type} [Inhabited α] (enc : α → List Value) (hk : ∀ x, (enc x).length = 14) (h1 : ∀ x, ∀ v ∈ enc x, v.oneCell' = true) (cf : α → α → Int) (hO : SWO (ltOf cf)) (g : Nat) (cb : Array Value) (base e : Nat) (v : Value) (l : List α) (w : World)
    (eg : ∀ args w, (callFunc g args).run Tryz.prog w = .ok (.enter g args) w)
    (hcmp : ∀ (W : World) (x y : α), Calls Tryz.prog g (#[.agg (enc x).toArray, .agg (enc y).toArray] ++ cb) W fun e w' => e = .returned (.int .i64 (cf x y)) ∧ ∃ q os', w' = grow (W.drewN q) os')
    (hv : Owns enc 14 base e w v l) (hl : l.length ≤ 1000000000) :
    Calls Tryz.prog 80 #[v, .func (.func g) #[] cb] w (SortedLa enc 14 base e (ltOf cf) v l w) := by
  have hshape := hv.2
  rcases hshape with ⟨rfl, hn⟩ | ⟨b, cap, cur, rfl, _, hh, _, _, _, _⟩
  · have hl0 : l = [] := List.eq_nil_of_length_eq_zero hn
    subst hl0
    have HV := Lib.hid hv
    clear hv hcmp eg hn hk h1
    go_enter Tryz.func80, Tryz.ntmps80
    go_wp2_with (go_at_call 97; refine (stNilLa _ _).mono ?_; rintro e w' ⟨rfl, rfl⟩)
    go_end0
    exact ⟨rfl, [], ⟨List.Pairwise.nil, fun _ => rfl⟩, rfl, HV.out, World.grownBy.refl _ _⟩
  · have hb : b < w.heap.size := (Array.getElem?_eq_some_iff.1 hh).1
    have hst := stableLa stLa enc cf hO g cb b 0 cap l.toArray w eg (fun m os dk _ x y => hcmp _ x y) ⟨hk, h1, owns_holds (by decide) hk hv, hb⟩ (by simpa using hl)
    rw [List.size_toArray] at hst
    have HV := Lib.hid hv
    have HST := Lib.hid hst
    have HK := Lib.hid hk
    clear hv hcmp eg hh hst hk h1
    have c1 : ((l.length : Nat) : Int) ≤ 1000000000 := by omega
    go_enter Tryz.func80, Tryz.ntmps80
    go_wp2_with fail
    refine HST.out.mono ?_
    rintro e w1 ⟨rfl, d', hs, hso, hw⟩
    have HW := Lib.hid hw
    have HSO := Lib.hid hso
    have HS := Lib.hid hs
    clear hw hso hs
    go_wp2_with fail
    go_end0
    refine ⟨rfl, d'.toList, HSO.out, by simpa using HS.out, ?_⟩
    obtain ⟨n, os, hw⟩ := HW.out
    rw [hw]
    exact ⟨owns_sorted (by decide) HK.out HV.out d' HS.out, grownBy_sort d'⟩


end Go.Proofs.YtjgbflclhkeibaaGreat
