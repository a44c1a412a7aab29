/-
  slices' symMerge, the general case and the whole, at the element types that the program sorts.
-/
import Derived.Test.YtjgbflclhkeibaaGreatSortSym
import Derived.Deep.DeepCutAuto
namespace Go.Proofs.YtjgbflclhkeibaaGreat
open Go.Shelf Go.RowKit Go.Lib Go.Sort
set_option linter.unusedVariables false
/-- what a call of symMerge on a range of at most n is known to leave -/
def SymCEv {α : Type} [Inhabited α] (P : Program) (k : Nat) (enc : α → List Value) (cf : α → α → Int) (g : Nat) (cb : Array Value) (blk off cap : Nat) (d0 : Array α) (w0 : World) (n : Nat) : Prop :=
  ∀ (a m b : Nat) (d : Array α) (w : World), b - a ≤ n → d0.size = d.size → SWK enc k w0 blk off d w → a < m → m < b → b ≤ d.size → d.size < 4611686018427387904 → SortedIn (ltOf cf) a m d → SortedIn (ltOf cf) m b d →
    Calls P 131 #[.slice (some ⟨blk, off, none⟩) d0.size cap, .int .i64 a, .int .i64 m, .int .i64 b, .func (.func g) #[] cb] w fun e w' =>
      e = .returned (.tuple #[]) ∧ ∃ d', SymPost (ltOf cf) a b d d' ∧ SWK enc k w0 blk off d' w'

set_option maxHeartbeats 8000000 in
set_option maxRecDepth 1000000 in
theorem symCEv {P : Program} {k : Nat} (L : StEv P k) {α : Type} [Inhabited α] (enc : α → List Value) (cf : α → α → Int) (hO : SWO (ltOf cf)) (g : Nat) (cb : Array Value) (blk off cap a m b n : Nat) (d0 d : Array α) (w0 w : World)
    (eg : ∀ args w, (callFunc g args).run P w = .ok (.enter g args) w) (hcmp : CmpLays P g cb enc k cf blk off d0.size w0) (R : RowK enc k w0 blk off d0) (IH : SymCEv P k enc cf g cb blk off cap d0 w0 n) (hn : b - a ≤ n + 1) (hs : d0.size = d.size) (S : SWK enc k w0 blk off d w)
    (ham : a + 1 < m) (hmb : m + 1 < b) (hb : b ≤ d.size) (hsz : d.size < 4611686018427387904) (hA : SortedIn (ltOf cf) a m d) (hB : SortedIn (ltOf cf) m b d) :
    Calls P 131 #[.slice (some ⟨blk, off, none⟩) d0.size cap, .int .i64 a, .int .i64 m, .int .i64 b, .func (.func g) #[] cb] w fun e w' =>
      e = .returned (.tuple #[]) ∧ ∃ d', SymPost (ltOf cf) a b d d' ∧ SWK enc k w0 blk off d' w' := by
  rw [hs]
  have mixed := L.mixed; have aE := L.aE; have zE := L.zE; have t0 := L.t0; have a0 := L.a0; have z0 := L.z0; have v0 := L.v0; have t3 := L.t3; have a3 := L.a3; have z3 := L.z3; have v3 := L.v3; have t4 := L.t4; have a4 := L.a4; have z4 := L.z4; have v4 := L.v4; have t5 := L.t5; have a5 := L.a5; have z5 := L.z5; have v5 := L.v5; have t22 := L.t22; have a22 := L.a22; have z22 := L.z22; have v22 := L.v22; have t25 := L.t25; have a25 := L.a25; have z25 := L.z25; have v25 := L.v25; have u22 := run_underlying L.t22
  have t99 := run_underlying L.t5
  have FG := L.fSym
  have eR : ∀ args w, (callFunc 135 args).run P w = .ok (.enter 135 args) w := enters_of L.fRot (by kernel_rfl) rfl
  have eM : ∀ args w, (callFunc 131 args).run P w = .ok (.enter 131 args) w := enters_of L.fSym (by kernel_rfl) rfl
  have HC := Lib.hid hcmp
  have S0 := Lib.hid S
  have HS := Lib.hid hs
  have HA := Lib.hid hA
  have HB := Lib.hid hB
  have HI := Lib.hid IH
  have one : (((m : Int) - (a : Int)) == 1) = false := by rw [beq_eq_false_iff_ne]; omega
  have two : (((b : Int) - (m : Int)) == 1) = false := by rw [beq_eq_false_iff_ne]; omega
  obtain ⟨md, hmd⟩ : ∃ md : Nat, ((a : Int) + (b : Int)) / 2 = (md : Int) := ⟨(a + b) / 2, by omega⟩
  have hmd1 : 2 * md ≤ a + b := by omega
  have hmd2 : a + b ≤ 2 * md + 1 := by omega
  clear hcmp S hA hB hs IH
  go_enter FG, Tryz.ntmps131
  go_upto_if 140 with fail
  go_cut [20, 21] (fun s20 s21 wx => wx = w ∧ ∃ c0 r0 : Nat, s20 = .int .i64 c0 ∧ s21 = .int .i64 r0 ∧ a ≤ c0 ∧ c0 ≤ r0 ∧ r0 ≤ m ∧ r0 ≤ md ∧ md + m ≤ b + c0 ∧ m + r0 ≤ md + m ∧ Hid (c0 = a ∨ c0 + b = md + m) ∧ Hid (r0 = m ∨ r0 = md))
  case first => as_aux_lemma =>
    by_cases hgt : md < m
    · have hgtz : (md : Int) < (m : Int) := by omega
      go_wp2
      go_meet
      exact ⟨rfl, md + m - b, md, by congr 1; omega, rfl, by omega, by omega, by omega, by omega, by omega, by omega, .inr (by omega), .inr rfl⟩
    · have hgtz : ¬ (md : Int) < (m : Int) := by omega
      go_wp2
      go_meet
      exact ⟨rfl, a, m, rfl, rfl, by omega, by omega, by omega, by omega, by omega, by omega, .inl rfl, .inl rfl⟩
  case rest =>
    obtain ⟨rfl, c0, r0, rfl, rfl, hc1, hc2, hc3, hc4, hc5, hc6, HC0, HR0⟩ := hcut
    go_wp2
    go_loopg [20, 21] (r0 - c0) (fun gk s20 s21 wr => ∃ (s r : Nat), s20 = .int .i64 s ∧ s21 = .int .i64 r ∧ c0 ≤ s ∧ s ≤ r ∧ r ≤ r0 ∧ r - s ≤ gk ∧ Hid (SWK enc k w0 blk off d wr) ∧ Hid (∀ t, c0 ≤ t → t < s → ltOf cf d[md + m - 1 - t]! d[t]! = false) ∧ Hid (∀ t, r ≤ t → t < r0 → ltOf cf d[md + m - 1 - t]! d[t]! = true))
    case atStart => exact ⟨c0, r0, rfl, rfl, Nat.le_refl _, hc2, Nat.le_refl _, Nat.le_refl _, S0, fun t h1 h2 => by omega, fun t h1 h2 => by omega⟩
    case round =>
      clear S0
      obtain ⟨s, r, rfl, rfl, hcs, hsr, hrr, hg, S1, HN, HY⟩ := hrel
      by_cases hlt : s < r
      · have hltz : (s : Int) < (r : Int) := by omega
        obtain ⟨c, hh⟩ : ∃ c : Nat, ((s : Int) + (r : Int)) / 2 = (c : Int) := ⟨(s + r) / 2, by omega⟩
        have hih : s ≤ c := by omega
        have hhj : c < r := by omega
        obtain ⟨q, hq⟩ : ∃ q : Nat, (md : Int) + (m : Int) - 1 - (c : Int) = (q : Int) := ⟨md + m - 1 - c, by omega⟩
        have hqe : md + m - 1 - c = q := by omega
        have hqb : q < b := by omega
        have step := mid_step hO d a m b (md + m - 1) s c r HA.out HB.out (by omega) hih hhj (by omega) (by omega) (by omega)
        rw [hqe] at step
        have ST := Lib.hid step
        clear step hqe
        have ba : (q : Int) < (d.size : Int) := by omega
        have pa : (0 : Int) ≤ (q : Int) := by omega
        have bc : (c : Int) < (d.size : Int) := by omega
        have pc : (0 : Int) ≤ (c : Int) := by omega
        obtain ⟨x, hx⟩ : ∃ x, x = d[q]! := ⟨_, rfl⟩
        obtain ⟨y, hy⟩ : ∃ x, x = d[c]! := ⟨_, rfl⟩
        have la := S1.out.ld R (by rw [HS.out]) P q (by omega)
        have lb := S1.out.ld R (by rw [HS.out]) P c (by omega)
        rw [← hx] at la
        rw [← hy] at lb
        have hc := S1.out.cmp HC.out HS.out.symm x y
        have HX := Lib.hid hx
        have HYY := Lib.hid hy
        clear hx hy
        have rq : IntKind.i64.wrap ((md : Int) + (m : Int) - 1 - (c : Int)) = (q : Int) := by rw [IntKind.wrap_i64]; omega
        have rq2 : IntKind.i64.wrap (q : Int) = (q : Int) := by rw [IntKind.wrap_i64]; omega
        by_cases hlv : cf x y < 0
        · as_aux_lemma =>
          go_wp2_with fail
          go_quiet_grown (first | (go_at_fn g; refine Calls.grown_of (hc _ _)))
          have S2 := Lib.hid (S1.out.grown nq osq)
          clear la lb hc S1 rq rq2
          generalize grow (wr.drewN nq) osq = w2 at S2 ⊢
          clear nq osq
          go_wp2
          go_roundg (c - s)
          case measure => omega
          case rel => exact ⟨s, c, rfl, by go_num, by omega, by omega, by omega, Nat.le_refl _, S2, HN, fun t h1 h2 => by
            by_cases c : t < r
            · exact ST.out.2 (by rw [← HX.out, ← HYY.out]; exact decide_eq_true hlv) t h1 c
            · exact HY.out t (by omega) h2⟩
        · as_aux_lemma =>
          have hdn : decide (cf x y < 0) = false := decide_eq_false hlv
          go_wp2_with fail
          go_quiet_grown (first | (go_at_fn g; refine Calls.grown_of (hc _ _)))
          have S2 := Lib.hid (S1.out.grown nq osq)
          clear la lb hc S1 rq rq2
          generalize grow (wr.drewN nq) osq = w2 at S2 ⊢
          clear nq osq
          go_wp2
          go_roundg (r - (c + 1))
          case measure => omega
          case rel => exact ⟨c + 1, r, by go_num, rfl, by omega, by omega, by omega, Nat.le_refl _, S2, fun t h1 h2 => by
            by_cases c : t < s
            · exact HN.out t h1 c
            · exact ST.out.1 (by rw [← HX.out, ← HYY.out]; exact decide_eq_false (by omega)) t (by omega) h2, HY⟩
      · have hltz : ¬ (s : Int) < (r : Int) := by omega
        obtain rfl : s = r := by omega
        obtain ⟨e, he⟩ : ∃ e : Nat, (md : Int) + (m : Int) - (s : Int) = (e : Int) := ⟨md + m - s, by omega⟩
        have hcut : SymCut (ltOf cf) a m b md s e c0 r0 d := ⟨hb, by omega, by omega, by omega, by omega, by omega, by omega, by omega, by omega, by omega, by omega, hcs, hrr, HC0.out, fun h1 h2 => by rcases HR0.out with h | h <;> omega, HN.out, HY.out, HA.out, HB.out⟩
        have HK := Lib.hid hcut
        have hsm : s ≤ m := by omega
        have hme : m ≤ e := by omega
        have heb : e ≤ b := by omega
        have has : a ≤ s := by omega
        have hsd : s ≤ md := by omega
        have hde : md ≤ e := by omega
        have hnm : md - a ≤ n := by omega
        have hnb : b - md ≤ n := by omega
        have hrs : (rotA d s m e).size = d.size := size_rotA d s m e hsm hme (by omega)
        have HRS := Lib.hid hrs
        clear hcut HN HY hrs HC0 HR0
        go_upto_region 39 with fail
        go_cut [185] (fun sx wx => wx = wr ∧ sx = .bool (decide (s < m ∧ m < e)))
        case first => as_aux_lemma =>
          by_cases c1 : s < m
          · have c1z : (s : Int) < (m : Int) := by omega
            by_cases c2 : m < e
            · have c2z : (m : Int) < (e : Int) := by omega
              go_wp2_with fail
              go_meet
              exact ⟨rfl, by simp [c1, c2]⟩
            · have c2z : ¬ (m : Int) < (e : Int) := by omega
              go_wp2_with fail
              go_meet
              exact ⟨rfl, by simp [c2]⟩
          · have c1z : ¬ (s : Int) < (m : Int) := by omega
            go_wp2_with fail
            go_meet
            exact ⟨rfl, by simp [c1]⟩
        case rest =>
          obtain ⟨rfl, rfl⟩ := hcut
          obtain ⟨bv, hbv⟩ : ∃ bv, bv = decide (s < m ∧ m < e) := ⟨_, rfl⟩
          rw [← hbv]
          have BV := Lib.hid hbv
          clear hbv
          go_upto_if 185 with fail
          go_cut [] (fun wx => Hid (SWK enc k w0 blk off (rotA d s m e) wx))
          case first => as_aux_lemma =>
            cases bv
            · have hc : ¬ (s < m ∧ m < e) := of_decide_eq_false BV.out.symm
              go_wp2_with fail
              go_meet
              show SWK _ _ _ _ _ _ _
              rw [rotA_triv d s m e hsm hme (by omega) (by omega)]
              exact S1.out
            · obtain ⟨c1, c2⟩ : s < m ∧ m < e := of_decide_eq_true BV.out.symm
              have hcall := rotateEv L enc (.func (.func g) #[] cb) blk off cap s m e d0 d w0 wc R HS.out S1.out c1 c2 (by omega) hsz
              have HCL := Lib.hid hcall
              clear hcall
              go_wp2_with fail
              refine HCL.out.mono ?_
              rintro e w1 ⟨rfl, S3⟩
              have S4 := Lib.hid S3
              clear S3
              go_wp2_with fail
              go_meet
              exact S4
          case rest =>
            clear BV
            have S5 := Lib.hid hcut.out
            clear hcut S1
            go_upto_region 41 with fail
            go_cut [199] (fun sx wx => wx = wc ∧ sx = .bool (decide (a < s ∧ s < md)))
            case first => as_aux_lemma =>
              by_cases c1 : a < s
              · have c1z : (a : Int) < (s : Int) := by omega
                by_cases c2 : s < md
                · have c2z : (s : Int) < (md : Int) := by omega
                  go_wp2_with fail
                  go_meet
                  exact ⟨rfl, by simp [c1, c2]⟩
                · have c2z : ¬ (s : Int) < (md : Int) := by omega
                  go_wp2_with fail
                  go_meet
                  exact ⟨rfl, by simp [c2]⟩
              · have c1z : ¬ (a : Int) < (s : Int) := by omega
                go_wp2_with fail
                go_meet
                exact ⟨rfl, by simp [c1]⟩
            case rest =>
              obtain ⟨rfl, rfl⟩ := hcut
              obtain ⟨bv, hbv⟩ : ∃ bv, bv = decide (a < s ∧ s < md) := ⟨_, rfl⟩
              rw [← hbv]
              have BV := Lib.hid hbv
              clear hbv
              go_upto_if 199 with fail
              go_cut [] (fun wx => ∃ d2, Hid (SymPost (ltOf cf) a md (rotA d s m e) d2) ∧ Hid (SWK enc k w0 blk off d2 wx))
              case first => as_aux_lemma =>
                cases bv
                · have hc : ¬ (a < s ∧ s < md) := of_decide_eq_false BV.out.symm
                  go_wp2_with fail
                  go_meet
                  exact ⟨_, SymPost.same (sorted_of_empty HK.out.s1 HK.out.s2 hc (by omega) (by omega)), S5⟩
                · obtain ⟨c1, c2⟩ : a < s ∧ s < md := of_decide_eq_true BV.out.symm
                  have hcall := HI.out a s md (rotA d s m e) wc hnm (by rw [HRS.out]; exact HS.out) S5.out c1 c2 (by rw [HRS.out]; omega) (by rw [HRS.out]; exact hsz) (HK.out.s1) (HK.out.s2)
                  rw [HS.out] at hcall
                  have HCL := Lib.hid hcall
                  clear hcall
                  go_wp2_with fail
                  refine HCL.out.mono ?_
                  rintro e w1 ⟨rfl, d2, P2, S3⟩
                  have S4 := Lib.hid S3
                  have P3 := Lib.hid P2
                  clear S3 P2
                  go_wp2_with fail
                  go_meet
                  exact ⟨d2, P3, S4⟩
              case rest =>
                clear BV
                obtain ⟨d2, P2, S6⟩ := hcut
                clear S5
                have hk1 : SortedIn (ltOf cf) md e d2 := sortedIn_keep HK.out.s3 fun t h1 h2 => P2.out.out t (.inr h1)
                have hk2 : SortedIn (ltOf cf) e b d2 := sortedIn_keep HK.out.s4 fun t h1 h2 => P2.out.out t (.inr (by omega))
                have K1 := Lib.hid hk1
                have K2 := Lib.hid hk2
                have hd2 : d2.size = d.size := by rw [P2.out.size, HRS.out]
                have HD2 := Lib.hid hd2
                clear hk1 hk2 hd2
                go_upto_region 43 with fail
                go_cut [213] (fun sx wx => wx = wc ∧ sx = .bool (decide (md < e ∧ e < b)))
                case first => as_aux_lemma =>
                  by_cases c1 : md < e
                  · have c1z : (md : Int) < (e : Int) := by omega
                    by_cases c2 : e < b
                    · have c2z : (e : Int) < (b : Int) := by omega
                      go_wp2_with fail
                      go_meet
                      exact ⟨rfl, by simp [c1, c2]⟩
                    · have c2z : ¬ (e : Int) < (b : Int) := by omega
                      go_wp2_with fail
                      go_meet
                      exact ⟨rfl, by simp [c2]⟩
                  · have c1z : ¬ (md : Int) < (e : Int) := by omega
                    go_wp2_with fail
                    go_meet
                    exact ⟨rfl, by simp [c1]⟩
                case rest =>
                  obtain ⟨rfl, rfl⟩ := hcut
                  obtain ⟨bv, hbv⟩ : ∃ bv, bv = decide (md < e ∧ e < b) := ⟨_, rfl⟩
                  rw [← hbv]
                  have BV := Lib.hid hbv
                  clear hbv
                  cases bv
                  · have hc : ¬ (md < e ∧ e < b) := of_decide_eq_false BV.out.symm
                    go_wp2_with fail
                    (try simp only [Exit.inBlock, Exit.then])
                    first | go_end0 | refine bodyPost_ret (results_none rfl _ _ _) rfl ?_
                    exact ⟨rfl, d2, HK.out.glue hO P2.out (SymPost.same (sorted_of_empty K1.out K2.out hc (by omega) (by omega))), S6.out⟩
                  · obtain ⟨c1, c2⟩ : md < e ∧ e < b := of_decide_eq_true BV.out.symm
                    have hcall := HI.out md e b d2 wc hnb (by rw [HD2.out]; exact HS.out) S6.out c1 c2 (by rw [HD2.out]; exact hb) (by rw [HD2.out]; exact hsz) K1.out K2.out
                    rw [HS.out] at hcall
                    have HCL := Lib.hid hcall
                    clear hcall
                    go_wp2_with fail
                    refine HCL.out.mono ?_
                    rintro e w1 ⟨rfl, d3, P3, S3⟩
                    have S4 := Lib.hid S3
                    have P4 := Lib.hid P3
                    clear S3 P3
                    go_wp2_with fail
                    (try simp only [Exit.inBlock, Exit.then])
                    first | go_end0 | refine bodyPost_ret (results_none rfl _ _ _) rfl ?_
                    exact ⟨rfl, d3, HK.out.glue hO P2.out P4.out, S4.out⟩

/-- symMerge: two sorted neighbours are merged. -/
theorem symMergeEv {P : Program} {k : Nat} (L : StEv P k) {α : Type} [Inhabited α] (enc : α → List Value) (cf : α → α → Int) (hO : SWO (ltOf cf)) (g : Nat) (cb : Array Value) (blk off cap : Nat) (d0 : Array α) (w0 : World)
    (eg : ∀ args w, (callFunc g args).run P w = .ok (.enter g args) w) (hcmp : CmpLays P g cb enc k cf blk off d0.size w0) (R : RowK enc k w0 blk off d0) : ∀ n, SymCEv P k enc cf g cb blk off cap d0 w0 n
  | 0 => fun a m b d w hn hs S h1 h2 h3 h4 h5 h6 => by omega
  | n + 1 => fun a m b d w hn hs S h1 h2 h3 h4 h5 h6 => by
    by_cases c1 : m = a + 1
    · rw [hs]; exact symAEv L enc cf hO g cb blk off cap a m b d0 d w0 w eg hcmp R hs S c1 h2 h3 h4 h6
    · by_cases c2 : b = m + 1
      · rw [hs]; exact symBEv L enc cf hO g cb blk off cap a m b d0 d w0 w eg hcmp R hs S (by omega) c2 h3 h4 h5
      · exact symCEv L enc cf hO g cb blk off cap a m b n d0 d w0 w eg hcmp R (symMergeEv L enc cf hO g cb blk off cap d0 w0 eg hcmp R n) hn hs S (by omega) (by omega) h3 h4 h5 h6

/-- what a call of symMerge on a range of at most n is known to leave -/
def SymCLa {α : Type} [Inhabited α] (P : Program) (k : Nat) (enc : α → List Value) (cf : α → α → Int) (g : Nat) (cb : Array Value) (blk off cap : Nat) (d0 : Array α) (w0 : World) (n : Nat) : Prop :=
  ∀ (a m b : Nat) (d : Array α) (w : World), b - a ≤ n → d0.size = d.size → SWK enc k w0 blk off d w → a < m → m < b → b ≤ d.size → d.size < 4611686018427387904 → SortedIn (ltOf cf) a m d → SortedIn (ltOf cf) m b d →
    Calls P 119 #[.slice (some ⟨blk, off, none⟩) d0.size cap, .int .i64 a, .int .i64 m, .int .i64 b, .func (.func g) #[] cb] w fun e w' =>
      e = .returned (.tuple #[]) ∧ ∃ d', SymPost (ltOf cf) a b d d' ∧ SWK enc k w0 blk off d' w'

set_option maxHeartbeats 8000000 in
set_option maxRecDepth 1000000 in
theorem symCLa {P : Program} {k : Nat} (L : StLa P k) {α : Type} [Inhabited α] (enc : α → List Value) (cf : α → α → Int) (hO : SWO (ltOf cf)) (g : Nat) (cb : Array Value) (blk off cap a m b n : Nat) (d0 d : Array α) (w0 w : World)
    (eg : ∀ args w, (callFunc g args).run P w = .ok (.enter g args) w) (hcmp : CmpLays P g cb enc k cf blk off d0.size w0) (R : RowK enc k w0 blk off d0) (IH : SymCLa P k enc cf g cb blk off cap d0 w0 n) (hn : b - a ≤ n + 1) (hs : d0.size = d.size) (S : SWK enc k w0 blk off d w)
    (ham : a + 1 < m) (hmb : m + 1 < b) (hb : b ≤ d.size) (hsz : d.size < 4611686018427387904) (hA : SortedIn (ltOf cf) a m d) (hB : SortedIn (ltOf cf) m b d) :
    Calls P 119 #[.slice (some ⟨blk, off, none⟩) d0.size cap, .int .i64 a, .int .i64 m, .int .i64 b, .func (.func g) #[] cb] w fun e w' =>
      e = .returned (.tuple #[]) ∧ ∃ d', SymPost (ltOf cf) a b d d' ∧ SWK enc k w0 blk off d' w' := by
  rw [hs]
  have mixed := L.mixed; have aE := L.aE; have zE := L.zE; have t0 := L.t0; have a0 := L.a0; have z0 := L.z0; have v0 := L.v0; have t3 := L.t3; have a3 := L.a3; have z3 := L.z3; have v3 := L.v3; have t4 := L.t4; have a4 := L.a4; have z4 := L.z4; have v4 := L.v4; have t5 := L.t5; have a5 := L.a5; have z5 := L.z5; have v5 := L.v5; have t22 := L.t22; have a22 := L.a22; have z22 := L.z22; have v22 := L.v22; have t25 := L.t25; have a25 := L.a25; have z25 := L.z25; have v25 := L.v25; have u22 := run_underlying L.t22
  have t99 := run_underlying L.t5
  have FG := L.fSym
  have eR : ∀ args w, (callFunc 129 args).run P w = .ok (.enter 129 args) w := enters_of L.fRot (by kernel_rfl) rfl
  have eM : ∀ args w, (callFunc 119 args).run P w = .ok (.enter 119 args) w := enters_of L.fSym (by kernel_rfl) rfl
  have HC := Lib.hid hcmp
  have S0 := Lib.hid S
  have HS := Lib.hid hs
  have HA := Lib.hid hA
  have HB := Lib.hid hB
  have HI := Lib.hid IH
  have one : (((m : Int) - (a : Int)) == 1) = false := by rw [beq_eq_false_iff_ne]; omega
  have two : (((b : Int) - (m : Int)) == 1) = false := by rw [beq_eq_false_iff_ne]; omega
  obtain ⟨md, hmd⟩ : ∃ md : Nat, ((a : Int) + (b : Int)) / 2 = (md : Int) := ⟨(a + b) / 2, by omega⟩
  have hmd1 : 2 * md ≤ a + b := by omega
  have hmd2 : a + b ≤ 2 * md + 1 := by omega
  clear hcmp S hA hB hs IH
  go_enter FG, Tryz.ntmps119
  go_upto_if 140 with fail
  go_cut [20, 21] (fun s20 s21 wx => wx = w ∧ ∃ c0 r0 : Nat, s20 = .int .i64 c0 ∧ s21 = .int .i64 r0 ∧ a ≤ c0 ∧ c0 ≤ r0 ∧ r0 ≤ m ∧ r0 ≤ md ∧ md + m ≤ b + c0 ∧ m + r0 ≤ md + m ∧ Hid (c0 = a ∨ c0 + b = md + m) ∧ Hid (r0 = m ∨ r0 = md))
  case first => as_aux_lemma =>
    by_cases hgt : md < m
    · have hgtz : (md : Int) < (m : Int) := by omega
      go_wp2
      go_meet
      exact ⟨rfl, md + m - b, md, by congr 1; omega, rfl, by omega, by omega, by omega, by omega, by omega, by omega, .inr (by omega), .inr rfl⟩
    · have hgtz : ¬ (md : Int) < (m : Int) := by omega
      go_wp2
      go_meet
      exact ⟨rfl, a, m, rfl, rfl, by omega, by omega, by omega, by omega, by omega, by omega, .inl rfl, .inl rfl⟩
  case rest =>
    obtain ⟨rfl, c0, r0, rfl, rfl, hc1, hc2, hc3, hc4, hc5, hc6, HC0, HR0⟩ := hcut
    go_wp2
    go_loopg [20, 21] (r0 - c0) (fun gk s20 s21 wr => ∃ (s r : Nat), s20 = .int .i64 s ∧ s21 = .int .i64 r ∧ c0 ≤ s ∧ s ≤ r ∧ r ≤ r0 ∧ r - s ≤ gk ∧ Hid (SWK enc k w0 blk off d wr) ∧ Hid (∀ t, c0 ≤ t → t < s → ltOf cf d[md + m - 1 - t]! d[t]! = false) ∧ Hid (∀ t, r ≤ t → t < r0 → ltOf cf d[md + m - 1 - t]! d[t]! = true))
    case atStart => exact ⟨c0, r0, rfl, rfl, Nat.le_refl _, hc2, Nat.le_refl _, Nat.le_refl _, S0, fun t h1 h2 => by omega, fun t h1 h2 => by omega⟩
    case round =>
      clear S0
      obtain ⟨s, r, rfl, rfl, hcs, hsr, hrr, hg, S1, HN, HY⟩ := hrel
      by_cases hlt : s < r
      · have hltz : (s : Int) < (r : Int) := by omega
        obtain ⟨c, hh⟩ : ∃ c : Nat, ((s : Int) + (r : Int)) / 2 = (c : Int) := ⟨(s + r) / 2, by omega⟩
        have hih : s ≤ c := by omega
        have hhj : c < r := by omega
        obtain ⟨q, hq⟩ : ∃ q : Nat, (md : Int) + (m : Int) - 1 - (c : Int) = (q : Int) := ⟨md + m - 1 - c, by omega⟩
        have hqe : md + m - 1 - c = q := by omega
        have hqb : q < b := by omega
        have step := mid_step hO d a m b (md + m - 1) s c r HA.out HB.out (by omega) hih hhj (by omega) (by omega) (by omega)
        rw [hqe] at step
        have ST := Lib.hid step
        clear step hqe
        have ba : (q : Int) < (d.size : Int) := by omega
        have pa : (0 : Int) ≤ (q : Int) := by omega
        have bc : (c : Int) < (d.size : Int) := by omega
        have pc : (0 : Int) ≤ (c : Int) := by omega
        obtain ⟨x, hx⟩ : ∃ x, x = d[q]! := ⟨_, rfl⟩
        obtain ⟨y, hy⟩ : ∃ x, x = d[c]! := ⟨_, rfl⟩
        have la := S1.out.ld R (by rw [HS.out]) P q (by omega)
        have lb := S1.out.ld R (by rw [HS.out]) P c (by omega)
        rw [← hx] at la
        rw [← hy] at lb
        have hc := S1.out.cmp HC.out HS.out.symm x y
        have HX := Lib.hid hx
        have HYY := Lib.hid hy
        clear hx hy
        have rq : IntKind.i64.wrap ((md : Int) + (m : Int) - 1 - (c : Int)) = (q : Int) := by rw [IntKind.wrap_i64]; omega
        have rq2 : IntKind.i64.wrap (q : Int) = (q : Int) := by rw [IntKind.wrap_i64]; omega
        by_cases hlv : cf x y < 0
        · as_aux_lemma =>
          go_wp2_with fail
          go_quiet_grown (first | (go_at_fn g; refine Calls.grown_of (hc _ _)))
          have S2 := Lib.hid (S1.out.grown nq osq)
          clear la lb hc S1 rq rq2
          generalize grow (wr.drewN nq) osq = w2 at S2 ⊢
          clear nq osq
          go_wp2
          go_roundg (c - s)
          case measure => omega
          case rel => exact ⟨s, c, rfl, by go_num, by omega, by omega, by omega, Nat.le_refl _, S2, HN, fun t h1 h2 => by
            by_cases c : t < r
            · exact ST.out.2 (by rw [← HX.out, ← HYY.out]; exact decide_eq_true hlv) t h1 c
            · exact HY.out t (by omega) h2⟩
        · as_aux_lemma =>
          have hdn : decide (cf x y < 0) = false := decide_eq_false hlv
          go_wp2_with fail
          go_quiet_grown (first | (go_at_fn g; refine Calls.grown_of (hc _ _)))
          have S2 := Lib.hid (S1.out.grown nq osq)
          clear la lb hc S1 rq rq2
          generalize grow (wr.drewN nq) osq = w2 at S2 ⊢
          clear nq osq
          go_wp2
          go_roundg (r - (c + 1))
          case measure => omega
          case rel => exact ⟨c + 1, r, by go_num, rfl, by omega, by omega, by omega, Nat.le_refl _, S2, fun t h1 h2 => by
            by_cases c : t < s
            · exact HN.out t h1 c
            · exact ST.out.1 (by rw [← HX.out, ← HYY.out]; exact decide_eq_false (by omega)) t (by omega) h2, HY⟩
      · have hltz : ¬ (s : Int) < (r : Int) := by omega
        obtain rfl : s = r := by omega
        obtain ⟨e, he⟩ : ∃ e : Nat, (md : Int) + (m : Int) - (s : Int) = (e : Int) := ⟨md + m - s, by omega⟩
        have hcut : SymCut (ltOf cf) a m b md s e c0 r0 d := ⟨hb, by omega, by omega, by omega, by omega, by omega, by omega, by omega, by omega, by omega, by omega, hcs, hrr, HC0.out, fun h1 h2 => by rcases HR0.out with h | h <;> omega, HN.out, HY.out, HA.out, HB.out⟩
        have HK := Lib.hid hcut
        have hsm : s ≤ m := by omega
        have hme : m ≤ e := by omega
        have heb : e ≤ b := by omega
        have has : a ≤ s := by omega
        have hsd : s ≤ md := by omega
        have hde : md ≤ e := by omega
        have hnm : md - a ≤ n := by omega
        have hnb : b - md ≤ n := by omega
        have hrs : (rotA d s m e).size = d.size := size_rotA d s m e hsm hme (by omega)
        have HRS := Lib.hid hrs
        clear hcut HN HY hrs HC0 HR0
        go_upto_region 39 with fail
        go_cut [185] (fun sx wx => wx = wr ∧ sx = .bool (decide (s < m ∧ m < e)))
        case first => as_aux_lemma =>
          by_cases c1 : s < m
          · have c1z : (s : Int) < (m : Int) := by omega
            by_cases c2 : m < e
            · have c2z : (m : Int) < (e : Int) := by omega
              go_wp2_with fail
              go_meet
              exact ⟨rfl, by simp [c1, c2]⟩
            · have c2z : ¬ (m : Int) < (e : Int) := by omega
              go_wp2_with fail
              go_meet
              exact ⟨rfl, by simp [c2]⟩
          · have c1z : ¬ (s : Int) < (m : Int) := by omega
            go_wp2_with fail
            go_meet
            exact ⟨rfl, by simp [c1]⟩
        case rest =>
          obtain ⟨rfl, rfl⟩ := hcut
          obtain ⟨bv, hbv⟩ : ∃ bv, bv = decide (s < m ∧ m < e) := ⟨_, rfl⟩
          rw [← hbv]
          have BV := Lib.hid hbv
          clear hbv
          go_upto_if 185 with fail
          go_cut [] (fun wx => Hid (SWK enc k w0 blk off (rotA d s m e) wx))
          case first => as_aux_lemma =>
            cases bv
            · have hc : ¬ (s < m ∧ m < e) := of_decide_eq_false BV.out.symm
              go_wp2_with fail
              go_meet
              show SWK _ _ _ _ _ _ _
              rw [rotA_triv d s m e hsm hme (by omega) (by omega)]
              exact S1.out
            · obtain ⟨c1, c2⟩ : s < m ∧ m < e := of_decide_eq_true BV.out.symm
              have hcall := rotateLa L enc (.func (.func g) #[] cb) blk off cap s m e d0 d w0 wc R HS.out S1.out c1 c2 (by omega) hsz
              have HCL := Lib.hid hcall
              clear hcall
              go_wp2_with fail
              refine HCL.out.mono ?_
              rintro e w1 ⟨rfl, S3⟩
              have S4 := Lib.hid S3
              clear S3
              go_wp2_with fail
              go_meet
              exact S4
          case rest =>
            clear BV
            have S5 := Lib.hid hcut.out
            clear hcut S1
            go_upto_region 41 with fail
            go_cut [199] (fun sx wx => wx = wc ∧ sx = .bool (decide (a < s ∧ s < md)))
            case first => as_aux_lemma =>
              by_cases c1 : a < s
              · have c1z : (a : Int) < (s : Int) := by omega
                by_cases c2 : s < md
                · have c2z : (s : Int) < (md : Int) := by omega
                  go_wp2_with fail
                  go_meet
                  exact ⟨rfl, by simp [c1, c2]⟩
                · have c2z : ¬ (s : Int) < (md : Int) := by omega
                  go_wp2_with fail
                  go_meet
                  exact ⟨rfl, by simp [c2]⟩
              · have c1z : ¬ (a : Int) < (s : Int) := by omega
                go_wp2_with fail
                go_meet
                exact ⟨rfl, by simp [c1]⟩
            case rest =>
              obtain ⟨rfl, rfl⟩ := hcut
              obtain ⟨bv, hbv⟩ : ∃ bv, bv = decide (a < s ∧ s < md) := ⟨_, rfl⟩
              rw [← hbv]
              have BV := Lib.hid hbv
              clear hbv
              go_upto_if 199 with fail
              go_cut [] (fun wx => ∃ d2, Hid (SymPost (ltOf cf) a md (rotA d s m e) d2) ∧ Hid (SWK enc k w0 blk off d2 wx))
              case first => as_aux_lemma =>
                cases bv
                · have hc : ¬ (a < s ∧ s < md) := of_decide_eq_false BV.out.symm
                  go_wp2_with fail
                  go_meet
                  exact ⟨_, SymPost.same (sorted_of_empty HK.out.s1 HK.out.s2 hc (by omega) (by omega)), S5⟩
                · obtain ⟨c1, c2⟩ : a < s ∧ s < md := of_decide_eq_true BV.out.symm
                  have hcall := HI.out a s md (rotA d s m e) wc hnm (by rw [HRS.out]; exact HS.out) S5.out c1 c2 (by rw [HRS.out]; omega) (by rw [HRS.out]; exact hsz) (HK.out.s1) (HK.out.s2)
                  rw [HS.out] at hcall
                  have HCL := Lib.hid hcall
                  clear hcall
                  go_wp2_with fail
                  refine HCL.out.mono ?_
                  rintro e w1 ⟨rfl, d2, P2, S3⟩
                  have S4 := Lib.hid S3
                  have P3 := Lib.hid P2
                  clear S3 P2
                  go_wp2_with fail
                  go_meet
                  exact ⟨d2, P3, S4⟩
              case rest =>
                clear BV
                obtain ⟨d2, P2, S6⟩ := hcut
                clear S5
                have hk1 : SortedIn (ltOf cf) md e d2 := sortedIn_keep HK.out.s3 fun t h1 h2 => P2.out.out t (.inr h1)
                have hk2 : SortedIn (ltOf cf) e b d2 := sortedIn_keep HK.out.s4 fun t h1 h2 => P2.out.out t (.inr (by omega))
                have K1 := Lib.hid hk1
                have K2 := Lib.hid hk2
                have hd2 : d2.size = d.size := by rw [P2.out.size, HRS.out]
                have HD2 := Lib.hid hd2
                clear hk1 hk2 hd2
                go_upto_region 43 with fail
                go_cut [213] (fun sx wx => wx = wc ∧ sx = .bool (decide (md < e ∧ e < b)))
                case first => as_aux_lemma =>
                  by_cases c1 : md < e
                  · have c1z : (md : Int) < (e : Int) := by omega
                    by_cases c2 : e < b
                    · have c2z : (e : Int) < (b : Int) := by omega
                      go_wp2_with fail
                      go_meet
                      exact ⟨rfl, by simp [c1, c2]⟩
                    · have c2z : ¬ (e : Int) < (b : Int) := by omega
                      go_wp2_with fail
                      go_meet
                      exact ⟨rfl, by simp [c2]⟩
                  · have c1z : ¬ (md : Int) < (e : Int) := by omega
                    go_wp2_with fail
                    go_meet
                    exact ⟨rfl, by simp [c1]⟩
                case rest =>
                  obtain ⟨rfl, rfl⟩ := hcut
                  obtain ⟨bv, hbv⟩ : ∃ bv, bv = decide (md < e ∧ e < b) := ⟨_, rfl⟩
                  rw [← hbv]
                  have BV := Lib.hid hbv
                  clear hbv
                  cases bv
                  · have hc : ¬ (md < e ∧ e < b) := of_decide_eq_false BV.out.symm
                    go_wp2_with fail
                    (try simp only [Exit.inBlock, Exit.then])
                    first | go_end0 | refine bodyPost_ret (results_none rfl _ _ _) rfl ?_
                    exact ⟨rfl, d2, HK.out.glue hO P2.out (SymPost.same (sorted_of_empty K1.out K2.out hc (by omega) (by omega))), S6.out⟩
                  · obtain ⟨c1, c2⟩ : md < e ∧ e < b := of_decide_eq_true BV.out.symm
                    have hcall := HI.out md e b d2 wc hnb (by rw [HD2.out]; exact HS.out) S6.out c1 c2 (by rw [HD2.out]; exact hb) (by rw [HD2.out]; exact hsz) K1.out K2.out
                    rw [HS.out] at hcall
                    have HCL := Lib.hid hcall
                    clear hcall
                    go_wp2_with fail
                    refine HCL.out.mono ?_
                    rintro e w1 ⟨rfl, d3, P3, S3⟩
                    have S4 := Lib.hid S3
                    have P4 := Lib.hid P3
                    clear S3 P3
                    go_wp2_with fail
                    (try simp only [Exit.inBlock, Exit.then])
                    first | go_end0 | refine bodyPost_ret (results_none rfl _ _ _) rfl ?_
                    exact ⟨rfl, d3, HK.out.glue hO P2.out P4.out, S4.out⟩

/-- symMerge: two sorted neighbours are merged. -/
theorem symMergeLa {P : Program} {k : Nat} (L : StLa P k) {α : Type} [Inhabited α] (enc : α → List Value) (cf : α → α → Int) (hO : SWO (ltOf cf)) (g : Nat) (cb : Array Value) (blk off cap : Nat) (d0 : Array α) (w0 : World)
    (eg : ∀ args w, (callFunc g args).run P w = .ok (.enter g args) w) (hcmp : CmpLays P g cb enc k cf blk off d0.size w0) (R : RowK enc k w0 blk off d0) : ∀ n, SymCLa P k enc cf g cb blk off cap d0 w0 n
  | 0 => fun a m b d w hn hs S h1 h2 h3 h4 h5 h6 => by omega
  | n + 1 => fun a m b d w hn hs S h1 h2 h3 h4 h5 h6 => by
    by_cases c1 : m = a + 1
    · rw [hs]; exact symALa L enc cf hO g cb blk off cap a m b d0 d w0 w eg hcmp R hs S c1 h2 h3 h4 h6
    · by_cases c2 : b = m + 1
      · rw [hs]; exact symBLa L enc cf hO g cb blk off cap a m b d0 d w0 w eg hcmp R hs S (by omega) c2 h3 h4 h5
      · exact symCLa L enc cf hO g cb blk off cap a m b n d0 d w0 w eg hcmp R (symMergeLa L enc cf hO g cb blk off cap d0 w0 eg hcmp R n) hn hs S (by omega) (by omega) h3 h4 h5 h6

end Go.Proofs.YtjgbflclhkeibaaGreat
