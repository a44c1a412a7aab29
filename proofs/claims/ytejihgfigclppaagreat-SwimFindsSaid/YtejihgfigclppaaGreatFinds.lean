/-
  The law SwimFinds walked.
-/
import Derived.Test.YtejihgfigclppaaGreatMLaw20b
import Derived.Test.YtejihgfigclppaaGreatMFindsR
namespace Go.Proofs.YtejihgfigclppaaGreat
open Go.Shelf Go.RowKit Go.Lib Go.Sort
set_option linter.unusedVariables false
set_option linter.unusedSimpArgs false
theorem msOk_words : ∀ n, n ≤ 7 → MsOk (wordsN n) := by decide
set_option maxRecDepth 100000 in
set_option maxHeartbeats 32000000 in
theorem finds_any (c : DConf) (seed : Int) (on : Nat) (hon : on ≤ 255) (w : World) : Calls Tryz.prog 4 #[.agg #[.int .i64 c.tout, .int .i64 c.ind, .int .i64 c.gr], .int .u64 seed, .int .u8 on] w fun e w' => e = .returned (.bool true) ∧ Below w.heap.size w w' := by
  have hp : Tryz.prog.follows .mixedOrders = true := by kernel_rfl
  obtain ⟨w1, hw1⟩ : ∃ w1, w.alloc (.cells #[.int .i64 c.tout, .int .i64 c.ind, .int .i64 c.gr] 23) = w1 := ⟨_, rfl⟩
  have hb1 : Below w.heap.size w w1 := by rw [← hw1]; exact (Below.refl _ _).alloc (Nat.le_refl _) _
  have hr1 : w1.heap[w.heap.size]? = some (.cells #[.int .i64 c.tout, .int .i64 c.ind, .int .i64 c.gr] 23) := by rw [← hw1]; exact heap_alloc_new w _
  have hml : w.heap.size < w1.heap.size := (Array.getElem?_eq_some_iff.1 hr1).1
  have HB1 := Lib.hid hb1
  have HR1 := Lib.hid hr1
  have HW1 := Lib.hid hw1
  have HAL := Lib.hid (alive20_any w1)
  have hrr := fun W => refRight20_any c W
  clear hb1 hr1 hw1
  by_cases hg : c.right ∧ c.tout ≤ 10 ∧ c.gr ≤ 50
  · obtain ⟨hc, h10, h50⟩ := hg
    rw [decide_eq_true hc] at hrr
    have HRR := Lib.hid hrr
    obtain ⟨bn, hbn⟩ : ∃ n : Nat, n = on % 7 := ⟨_, rfl⟩
    have hb7 : bn < 7 := by rw [hbn]; exact Nat.mod_lt _ (by decide)
    have t7 : (on : Int).tmod 7 = (bn : Int) := by rw [hbn]; exact (Int.ofNat_tmod on 7).symm
    obtain ⟨n, hn⟩ : ∃ n, n = bn + 1 := ⟨_, rfl⟩
    have h1n : 1 ≤ n := by omega
    have hn7 : n ≤ 7 := by omega
    have wo : IntKind.i64.wrap (on : Int) = (on : Int) := by rw [IntKind.wrap_i64]; omega
    have wb : IntKind.i64.wrap (bn : Int) = (bn : Int) := by rw [IntKind.wrap_i64]; omega
    have wb1 : IntKind.i64.wrap ((bn : Int) + 1) = (n : Int) := by rw [IntKind.wrap_i64]; omega
    have hnt : ¬ 10 < c.tout := by omega
    have hng : ¬ 50 < c.gr := by omega
    clear hbn hb7 hn hrr
    obtain ⟨d0, d1, X⟩ := exF c hc n h1n hn7 seed
    have hnew := fun W => newD_good 0 0 c seed W (by decide) hc
    rw [X.s0] at hnew
    have HNEW := Lib.hid hnew
    have HX := Lib.hid X
    obtain ⟨K, hK⟩ : ∃ K : Nat, (K : Int) = 2 * (n : Int) * 2 * c.tout + c.gr + 2 := by
      have : 0 ≤ 2 * (n : Int) * 2 * c.tout := Int.mul_nonneg (by omega) (by have := hc.1; omega)
      have := hc.2.2.2.2.1
      exact ⟨(2 * (n : Int) * 2 * c.tout + c.gr + 2).toNat, by omega⟩
    have hP : 0 ≤ 2 * (n : Int) * 2 * c.tout ∧ 2 * (n : Int) * 2 * c.tout ≤ 2 * 7 * 2 * 10 := by
      have := hc.1
      exact ⟨Int.mul_nonneg (by omega) (by omega), Int.mul_le_mul (by omega) h10 (by omega) (by omega)⟩
    have hg1 := hc.2.2.2.2.1
    have k1 : IntKind.i64.wrap (2 * (n : Int)) = 2 * (n : Int) := by rw [IntKind.wrap_i64]; omega
    have k2 : IntKind.i64.wrap (2 * (n : Int) * 2) = 2 * (n : Int) * 2 := by rw [IntKind.wrap_i64]; omega
    have k3 : IntKind.i64.wrap (2 * (n : Int) * 2 * c.tout) = 2 * (n : Int) * 2 * c.tout := by
      generalize 2 * (n : Int) * 2 * c.tout = z at *
      rw [IntKind.wrap_i64]; omega
    have k4 : IntKind.i64.wrap (2 * (n : Int) * 2 * c.tout + c.gr) = 2 * (n : Int) * 2 * c.tout + c.gr := by
      generalize 2 * (n : Int) * 2 * c.tout = z at *
      rw [IntKind.wrap_i64]; omega
    have k5 : IntKind.i64.wrap (2 * (n : Int) * 2 * c.tout + c.gr + 2) = (K : Int) := by
      rw [hK]
      generalize 2 * (n : Int) * 2 * c.tout = z at *
      rw [IntKind.wrap_i64]; omega
    have hKl : K ≤ 332 := by omega
    have HKS := Lib.hid (show Hid _ ∧ Hid _ ∧ Hid _ ∧ Hid _ ∧ Hid _ from ⟨Lib.hid k1, Lib.hid k2, Lib.hid k3, Lib.hid k4, Lib.hid k5⟩)
    have HKe := Lib.hid hK
    clear hnew X hK hP hg1 k1 k2 k3 k4 k5 h10 h50 hc
    go_enter Tryz.func4, Tryz.ntmps4
    go_wp2_with fail
    rw [HW1.out]
    refine HAL.out.mono ?_
    rintro e w2 ⟨rfl, hb2⟩
    have hr2 := (hb2.block _ hml).trans HR1.out
    have hB2 := HB1.out.trans (hb2.mono HB1.out.size)
    have hml2 : w.heap.size < w2.heap.size := Nat.lt_of_lt_of_le hml hb2.size
    have cc := fun k => cell_of_row w2 w.heap.size k _ _ _ hr2
    have c0 : w2.cell? ⟨w.heap.size, 0, none⟩ = some (.int .i64 c.tout) := cc 0
    have c1 : w2.cell? ⟨w.heap.size, 1, none⟩ = some (.int .i64 c.ind) := cc 1
    have c2 : w2.cell? ⟨w.heap.size, 2, none⟩ = some (.int .i64 c.gr) := cc 2
    have HB2 := Lib.hid hB2
    have HR2 := Lib.hid hr2
    clear cc hb2 hr2 hB2 HAL HW1 HB1 HR1
    go_wp2_with fail
    refine (HRR.out _).mono ?_
    rintro e w3 ⟨rfl, hb3⟩
    have c0 := (hb3.cell (p := ⟨w.heap.size, 0, none⟩) hml2).trans c0
    have c1 := (hb3.cell (p := ⟨w.heap.size, 1, none⟩) hml2).trans c1
    have c2 := (hb3.cell (p := ⟨w.heap.size, 2, none⟩) hml2).trans c2
    have HR3 := Lib.hid ((hb3.block _ hml2).trans HR2.out)
    have hml3 : w.heap.size < w3.heap.size := Nat.lt_of_lt_of_le hml2 hb3.size
    have HB3 := Lib.hid (HB2.out.trans (hb3.mono HB2.out.size))
    clear hb3 HB2 HRR HR2
    go_wp2_with fail
    refine (HNEW.out _).mono ?_
    rintro e w4 ⟨M0, rfl, hD4, hO4, hb4⟩
    have HD4 := Lib.hid hD4
    have HO4 := Lib.hid hO4
    have c0 := (hb4.cell (p := ⟨w.heap.size, 0, none⟩) hml3).trans c0
    have c2 := (hb4.cell (p := ⟨w.heap.size, 2, none⟩) hml3).trans c2
    have HR4 := Lib.hid ((hb4.block _ hml3).trans HR3.out)
    have hml4 : w.heap.size < w4.heap.size := Nat.lt_of_lt_of_le hml3 hb4.size
    have HB4 := Lib.hid (HB3.out.trans (hb4.mono HB3.out.size))
    have hlow4 : ∀ k ∈ M0.own, w.heap.size + 1 ≤ k := fun k hk => by have := hO4 k hk; omega
    have HO4 := Lib.hid hlow4
    clear hb4 HB3 HNEW HR3 hD4 hO4 hlow4 wo wb wb1
    go_wp2_with fail
    go_loopg [10, 11] n (fun gk s10 s11 wr => ∃ (i : Nat) (oq : Option Addr) (cq : Nat), s10 = .slice oq i cq ∧ s11 = .int .i64 ((i : Int) + 1) ∧ i ≤ n ∧ n - i ≤ gk ∧ Hid (Owns Mb.cells 3 w4.heap.size 45 wr (.slice oq i cq) (wordsN i)) ∧ Hid (Below w4.heap.size w4 wr))
    case atStart => exact ⟨0, none, 0, rfl, rfl, Nat.zero_le _, Nat.le_refl _, Owns.nil _ _ _ _ _, Below.refl _ _⟩
    case round =>
      obtain ⟨i, oq, cq, rfl, rfl, hi, hgk, HOW, HBW⟩ := hrel
      by_cases hlt : i < n
      · have hltz : (i : Int) + 1 ≤ (n : Int) := by omega
        have hww := fun W => word_any ((i : Int) + 1) W
        have HWW := Lib.hid hww
        have hB : w4.heap.size ≤ wr.heap.size := HBW.out.size
        have hwl : (wordsN i).length = i := wordsN_len i
        have HWL := Lib.hid hwl
        clear hww hwl
        go_wp2_with fail
        refine (HWW.out _).mono ?_
        rintro e w5 ⟨rfl, hb5⟩
        have HB5 := Lib.hid hb5
        clear hb5 HWW
        go_wp2_with (at_builtin; refine wpList_app Mb.cells 3 Mb.cells_len (by decide) Mb.cells_one _ rfl _ _ 40 rfl w4.heap.size 45 _ 24 Tryz.underlying40 infoMember rfl _ (wordsN i) rfl ?h1 _ [(⟨(i : Int) + 1, 1, 0⟩ : Mb)] rfl ?h2 ?h3 ?h4 ?h5 ?_)
        case h1 => exact (HOW.out.below HB5.out (Nat.le_refl _)).below ((Below.refl _ _).alloc (Nat.le_refl _) _) (Nat.le_refl _)
        case h2 =>
          have := slAt_new (enc := Mb.cells) w5 #[.int .i64 ((i : Int) + 1), .int .i64 1, .int .i64 0] 45 1 1 (0, 0) [(⟨(i : Int) + 1, 1, 0⟩ : Mb)] rfl rfl (by decide)
          exact this
        case h3 => simp only [HWL.out, List.length_singleton]; omega
        case h4 => simp only [HWL.out, List.length_singleton]; omega
        case h5 => have := HB5.out.size; simp; omega
        intro v2 w6 hown2 hg2 hv2
        have hBX : Below w4.heap.size w4 w6 := ((HBW.out.trans (HB5.out.mono HBW.out.size)).alloc (by have := HB5.out.size; omega) _).grown hg2 (by have := HB5.out.size; simp; omega) fun k hk => (HOW.out.lt k hk).1
        rw [← wordsN_next] at hown2
        obtain ⟨oz, cz, rfl⟩ := slAt_slice hown2.at
        rw [wordsN_len] at hown2
        rw [wordsN_len]
        have HOW2 := Lib.hid hown2
        have HBX := Lib.hid hBX
        have wi2 : IntKind.i64.wrap ((i : Int) + 1 + 1) = (i : Int) + 1 + 1 := by rw [IntKind.wrap_i64]; omega
        clear hown2 hg2 hv2 hBX HOW HBW HB5
        go_wp2_with fail
        go_roundg (n - (i + 1))
        case measure => omega
        case rel => exact ⟨i + 1, oz, cz, rfl, by go_num, by omega, Nat.le_refl _, HOW2.out, HBX.out⟩
      · have hltz : ¬ (i : Int) + 1 ≤ (n : Int) := by omega
        have hin : n = i := by omega
        subst hin
        have hD5 := HD4.out.below HBW.out
        have hB5 := HB4.out.trans (HBW.out.mono HB4.out.size)
        have c0 := (HBW.out.cell (p := ⟨w.heap.size, 0, none⟩) hml4).trans c0
        have c2 := (HBW.out.cell (p := ⟨w.heap.size, 2, none⟩) hml4).trans c2
        have HR5 := Lib.hid ((HBW.out.block _ hml4).trans HR4.out)
        have hml5 : w.heap.size < wr.heap.size := Nat.lt_of_lt_of_le hml4 HBW.out.size
        have hO5 := HD4.out.own_lt
        have hown5 : ∀ b, (Value.slice oq n cq).ownBlock = some b → b ∉ M0.own := fun b hb hm => by
          have h1 := (HOW.out.lt b hb).1
          have h2 := hO5 b hm
          omega
        have HOWN5 := Lib.hid hown5
        have HSL5 := Lib.hid HOW.out.at
        have HB5 := Lib.hid hB5
        have HD5 := Lib.hid hD5
        clear hD5 hB5 hO5 hown5 HD4 HB4 HR4 HBW HOW hml4
        go_wp2_with fail
        refine (lping_any 1 0 0 oq n cq wr).mono ?_
        rintro e w6 ⟨rfl, hb6⟩
        have hD6 := HD5.out.below hb6
        have hon6 := onPing_any M0 d0 HX.out.k0 HX.out.n0 HX.out.lf0 1 0 (by decide) (by rw [HX.out.z0]; decide) (by decide) (wordsN n) (msOk_words n hn7) (by rw [wordsN_len]; omega) ⟨oq, n, cq⟩ w6 (HSL5.out.below Mb.cells_len (by decide) hb6 (Nat.le_refl _)) HOWN5.out hD6
        rw [HX.out.z0, HX.out.s1] at hon6
        have HON6 := Lib.hid hon6
        have c0 := (hb6.cell (p := ⟨w.heap.size, 0, none⟩) hml5).trans c0
        have c2 := (hb6.cell (p := ⟨w.heap.size, 2, none⟩) hml5).trans c2
        have HR6 := Lib.hid ((hb6.block _ hml5).trans HR5.out)
        have hml6 : w.heap.size < w6.heap.size := Nat.lt_of_lt_of_le hml5 hb6.size
        have HB6 := Lib.hid (HB5.out.trans (hb6.mono HB5.out.size))
        clear hb6 hD6 hon6 HB5 HR5 HD5 HSL5 HOWN5
        go_wp2_with fail
        refine HON6.out.mono ?_
        rintro e w7 ⟨v7, rfl, M1, ps7, hD7, _, _, _, hN7, hT7⟩
        have hmn : w.heap.size ∉ M0.own := fun hm => by have := HO4.out _ hm; omega
        obtain ⟨kr, _, hml7⟩ := aside_kept hT7 hN7 hml6 hmn
        have hr7 := kr.trans HR6.out
        have c0 : w7.cell? ⟨w.heap.size, 0, none⟩ = some (.int .i64 c.tout) := cell_of_row w7 w.heap.size 0 _ _ _ hr7
        have c2 : w7.cell? ⟨w.heap.size, 2, none⟩ = some (.int .i64 c.gr) := cell_of_row w7 w.heap.size 2 _ _ _ hr7
        have hs6 : w.heap.size ≤ w6.heap.size := HB6.out.size
        have hg7 : M1.g = M0.g := hN7.g
        have HD7 := Lib.hid hD7
        have HO7 : Hid (∀ k ∈ M1.own, w.heap.size ≤ k) := fun k hk => (hN7.own k hk).elim (fun h => by have := HO4.out k h; omega) fun h => by omega
        have HB7 := Lib.hid (HB6.out.trans (hT7.below hs6 fun k hk => by have := HO4.out k hk; omega))
        obtain ⟨K1, K2, K3, K4, K5⟩ := HKS.out
        have k1 := K1.out
        have k2 := K2.out
        have k3 := K3.out
        have k4 := K4.out
        have k5 := K5.out
        clear K1 K2 K3 K4 K5 HKS hD7 hN7 hT7 HON6 HB6 HR6 HO4 hr7 kr hmn
        go_wp2_with fail
        clear k1 k2 k3 k4 k5 c0 c2
        go_loopg [65] K (fun gk s65 wr => ∃ (i : Nat) (M : DM), s65 = .int .i64 i ∧ i ≤ K ∧ K - i ≤ gk ∧ M.g = M0.g ∧ Hid (DetAt wr M (ticks i d1)) ∧ Hid (∀ k ∈ M.own, w.heap.size ≤ k) ∧ Hid (Below w.heap.size w wr))
        case atStart => exact ⟨0, M1, rfl, Nat.zero_le _, Nat.le_refl _, hg7, HD7.out, HO7.out, HB7.out⟩
        case round =>
          obtain ⟨i, M, rfl, hi, hgk, hgM, HD8, HO8, HB8⟩ := hrel
          by_cases hlt : i < K
          · have hltz : (i : Int) < (K : Int) := by omega
            obtain ⟨o1, o2, o3⟩ := HX.out.ok i (by omega)
            have htk := tick_stepped M (ticks i d1) o1 o2 o3 wr HD8.out
            rw [hgM] at htk
            have HTK := Lib.hid htk
            clear o1 o2 o3 htk
            go_wp2_with fail
            refine HTK.out.mono ?_
            rintro e w9 ⟨v9, rfl, M2, ps9, hD9, _, _, _, hN9, hT9⟩
            have hg9 : M2.g = M0.g := hN9.g.trans hgM
            have hs8 : w.heap.size ≤ wr.heap.size := HB8.out.size
            have HD9 := Lib.hid hD9
            have HO9 : Hid (∀ k ∈ M2.own, w.heap.size ≤ k) := fun k hk => (hN9.own k hk).elim (HO8.out k) fun h => by omega
            have HB9 := Lib.hid (HB8.out.trans (hT9.below hs8 fun k hk => HO8.out k hk))
            have wi1 : IntKind.i64.wrap ((i : Int) + 1) = (i : Int) + 1 := by rw [IntKind.wrap_i64]; omega
            clear hD9 hN9 hT9 HTK HD8 HO8 HB8
            go_wp2_with fail
            go_roundg (K - (i + 1))
            case measure => omega
            case rel => exact ⟨i + 1, M2, by go_num, by omega, Nat.le_refl _, hg9, HD9.out, HO9.out, HB9.out⟩
          · have hltz : ¬ (i : Int) < (K : Int) := by omega
            have hik : i = K := by omega
            subst hik
            obtain ⟨f1, f2, f3⟩ := HX.out.fin i HKe.out
            have hwd := words_any M (ticks i d1) wr HD8.out
            rw [hgM, f2] at hwd
            have HWD := Lib.hid hwd
            have HF1 := Lib.hid f1
            have HF2 := Lib.hid f2
            have HF3 := Lib.hid f3
            clear hwd f1 f2 f3 HX
            go_wp2_with fail
            refine HWD.out.mono ?_
            rintro e w9 ⟨o9, c9, rfl, ho9, hb9⟩
            have HD9 := Lib.hid (HD8.out.below hb9)
            have HB9 := Lib.hid (HB8.out.trans (hb9.mono HB8.out.size))
            have HSL9 := Lib.hid ho9.at
            clear ho9 hb9 HWD HD8 HB8
            generalize hdk : ticks i d1 = dk at *
            clear hdk
            generalize hwl : allT dk.tab = W at *
            have HWL := Lib.hid hwl
            have HLEN := Lib.hid HF2.out
            clear hwl
            go_wp2_with fail
            go_loopg [13, 73] (n + 1) (fun gk s13 s73 wr => ∃ (j : Nat), s73 = .int .i64 j ∧ j ≤ n + 1 ∧ n + 1 - j ≤ gk ∧ Hid (Below w9.heap.size w9 wr))
            case atStart => exact ⟨0, rfl, Nat.zero_le _, Nat.le_refl _, Below.refl _ _⟩
            case round =>
              obtain ⟨j, rfl, hj, hgk, HBW⟩ := hrel
              by_cases hltj : j < n + 1
              · have hltz2 : (j : Int) < (n : Int) + 1 := by omega
                have hjW : j < W.length := by rw [HF2.out]; exact hltj
                have hsr := HSL9.out.below Mb.cells_len (by decide) HBW.out (Nat.le_refl _)
                obtain ⟨b, off, hbo⟩ := hsr.plain Mb.cells_len (by decide) (by intro e; rw [e] at hjW; exact absurd hjW (by simp))
                subst hbo
                have x0 := hsr.cell Mb.cells_len (i := j) (c := 0) hjW (by decide)
                have x1 := hsr.cell Mb.cells_len (i := j) (c := 1) hjW (by decide)
                have x2 := hsr.cell Mb.cells_len (i := j) (c := 2) hjW (by decide)
                replace x0 : wr.cell? ⟨b, off + j * 3, none⟩ = some (.int .i64 W[j].node) := x0
                replace x1 : wr.cell? ⟨b, off + j * 3 + 1, none⟩ = some (.int .i64 W[j].st) := x1
                replace x2 : wr.cell? ⟨b, off + j * 3 + 2, none⟩ = some (.int .i64 W[j].inc) := x2
                have hst := HF3.out W[j] (List.getElem_mem hjW)
                generalize W[j] = x at *
                have HST := Lib.hid hst
                have HBX : Hid (Below w9.heap.size w9 (wr.alloc (.cells #[.int .i64 x.node, .int .i64 x.st, .int .i64 x.inc] 45))) := HBW.out.alloc HBW.out.size _
                have wi1 : IntKind.i64.wrap ((j : Int) + 1) = (j : Int) + 1 := by rw [IntKind.wrap_i64]; omega
                clear hsr hst HBW hjW
                by_cases hx0 : x.node = 0
                · clear HST
                  rw [hx0] at HBX x0
                  go_wp2_with fail
                  go_roundg (n + 1 - (j + 1))
                  case measure => omega
                  case rel => exact ⟨j + 1, by go_num, by omega, Nat.le_refl _, HBX.out⟩
                · have hx3 := HST.out hx0
                  rw [hx3] at HBX x1
                  have hxb : (x.node == 0) = false := by simpa using hx0
                  clear HST hx3
                  go_wp2_with fail
                  go_roundg (n + 1 - (j + 1))
                  case measure => omega
                  case rel => exact ⟨j + 1, by go_num, by omega, Nat.le_refl _, HBX.out⟩
              · have hltz2 : ¬ (j : Int) < (n : Int) + 1 := by omega
                have hD10 := HD9.out.below HBW.out
                have hot := othersD_any M dk wr hD10
                rw [hgM, HF1.out] at hot
                have HOT := Lib.hid hot
                have HD10 := Lib.hid hD10
                have HB10 := Lib.hid (HB9.out.trans (HBW.out.mono HB9.out.size))
                clear hot hD10 HD9 HB9 HBW
                go_wp2_with fail
                refine HOT.out.mono ?_
                rintro e w11 ⟨o11, c11, rfl, _, hb11⟩
                have hwd := words_any M dk w11 (HD10.out.below hb11)
                rw [hgM, HWL.out, HF2.out] at hwd
                have HWD := Lib.hid hwd
                have HB11 := Lib.hid (HB10.out.trans (hb11.mono HB10.out.size))
                have wn1 : IntKind.i64.wrap ((n : Int) + 1) = (n : Int) + 1 := by rw [IntKind.wrap_i64]; omega
                clear hwd hb11 HB10 HD10 HOT
                go_wp2_with fail
                refine HWD.out.mono ?_
                rintro e w12 ⟨o12, c12, rfl, _, hb12⟩
                have HB12 := Lib.hid (HB11.out.trans (hb12.mono HB11.out.size))
                clear hb12 HB11 HWD
                go_wp2_with fail
                go_ret
                exact ⟨rfl, HB12.out⟩
  · have HRR0 := Lib.hid hrr
    clear hrr
    go_enter Tryz.func4, Tryz.ntmps4
    go_wp2_with fail
    rw [HW1.out]
    refine HAL.out.mono ?_
    rintro e w2 ⟨rfl, hb2⟩
    have hr2 := (hb2.block _ hml).trans HR1.out
    have hB2 := HB1.out.trans (hb2.mono HB1.out.size)
    have hml2 : w.heap.size < w2.heap.size := Nat.lt_of_lt_of_le hml hb2.size
    have cc := fun k => cell_of_row w2 w.heap.size k _ _ _ hr2
    have c0 : w2.cell? ⟨w.heap.size, 0, none⟩ = some (.int .i64 c.tout) := cc 0
    have c1 : w2.cell? ⟨w.heap.size, 1, none⟩ = some (.int .i64 c.ind) := cc 1
    have c2 : w2.cell? ⟨w.heap.size, 2, none⟩ = some (.int .i64 c.gr) := cc 2
    have HB2 := Lib.hid hB2
    clear cc hb2 hr2 hB2 HAL HW1 HB1 HR1
    by_cases hc : c.right
    · have hrr := HRR0.out
      rw [decide_eq_true hc] at hrr
      have HRR := Lib.hid hrr
      clear hrr HRR0
      go_wp2_with fail
      refine (HRR.out _).mono ?_
      rintro e w3 ⟨rfl, hb3⟩
      have c0 := (hb3.cell (p := ⟨w.heap.size, 0, none⟩) hml2).trans c0
      have c1 := (hb3.cell (p := ⟨w.heap.size, 1, none⟩) hml2).trans c1
      have c2 := (hb3.cell (p := ⟨w.heap.size, 2, none⟩) hml2).trans c2
      have HB3 := Lib.hid (HB2.out.trans (hb3.mono HB2.out.size))
      clear hb3 HB2 HRR
      by_cases h10 : 10 < c.tout
      · clear hg hc
        go_wp2_with fail
        go_ret
        exact ⟨rfl, HB3.out⟩
      · have h50 : 50 < c.gr := by
          by_cases h : 50 < c.gr
          · exact h
          · exact absurd ⟨hc, by omega, by omega⟩ hg
        clear hg hc
        go_wp2_with fail
        go_ret
        exact ⟨rfl, HB3.out⟩
    · have hrr := HRR0.out
      rw [decide_eq_false hc] at hrr
      have HRR := Lib.hid hrr
      clear hrr HRR0 hg hc
      go_wp2_with fail
      refine (HRR.out _).mono ?_
      rintro e w3 ⟨rfl, hb3⟩
      have HB3 := Lib.hid (HB2.out.trans (hb3.mono HB2.out.size))
      clear hb3 HB2 HRR
      go_wp2_with fail
      go_ret
      exact ⟨rfl, HB3.out⟩
theorem finds_all (c : DConf) (seed a : Int) (h : 0 ≤ a ∧ a ≤ 255) (w : World) : Calls Tryz.prog 4 #[.agg #[.int .i64 c.tout, .int .i64 c.ind, .int .i64 c.gr], .int .u64 seed, .int .u8 a] w fun e w' => e = .returned (.bool true) ∧ Below w.heap.size w w' := by
  obtain ⟨n, rfl⟩ := Int.eq_ofNat_of_zero_le h.1
  exact finds_any c seed n (by omega) w
end Go.Proofs.YtejihgfigclppaaGreat
