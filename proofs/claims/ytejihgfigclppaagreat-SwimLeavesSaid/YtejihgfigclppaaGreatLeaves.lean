/-
  The law SwimLeaves walked.
-/
import Derived.Test.YtejihgfigclppaaGreatMLeaveP
namespace Go.Proofs.YtejihgfigclppaaGreat
open Go.Shelf Go.RowKit Go.Lib Go.Sort
set_option linter.unusedVariables false
set_option linter.unusedSimpArgs false
theorem msOk_words : ∀ n, n ≤ 7 → MsOk (wordsN n) := by decide
theorem msOk_gone : ∀ n, n ≤ 7 → MsOk (goneMs n) := by decide
set_option maxRecDepth 100000 in
set_option maxHeartbeats 32000000 in
theorem leaves_any (c : DConf) (on : Nat) (hon : on ≤ 255) (w : World) : Calls Tryz.prog 7 #[.agg #[.int .i64 c.tout, .int .i64 c.ind, .int .i64 c.gr], .int .u8 on] w fun e w' => e = .returned (.bool true) ∧ Below w.heap.size w w' := by
  have hp : Tryz.prog.follows .mixedOrders = true := by kernel_rfl
  obtain ⟨w1, hw1⟩ : ∃ w1, w.alloc (.cells #[.int .i64 c.tout, .int .i64 c.ind, .int .i64 c.gr] 23) = w1 := ⟨_, rfl⟩
  have hb1 : Below w.heap.size w w1 := by rw [← hw1]; exact (Below.refl _ _).alloc (Nat.le_refl _) _
  have hr1 : w1.heap[w.heap.size]? = some (.cells #[.int .i64 c.tout, .int .i64 c.ind, .int .i64 c.gr] 23) := by rw [← hw1]; exact heap_alloc_new w _
  have hml : w.heap.size < w1.heap.size := (Array.getElem?_eq_some_iff.1 hr1).1
  have HB1 := Lib.hid hb1
  have HR1 := Lib.hid hr1
  have HW1 := Lib.hid hw1
  have HAL := Lib.hid (alive20_any w1)
  clear hb1 hr1 hw1
  by_cases hc : c.right
  · obtain ⟨bn, hbn⟩ : ∃ n : Nat, n = on % 7 := ⟨_, rfl⟩
    have hb7 : bn < 7 := by rw [hbn]; exact Nat.mod_lt _ (by decide)
    have t7 : (on : Int).tmod 7 = (bn : Int) := by rw [hbn]; exact (Int.ofNat_tmod on 7).symm
    obtain ⟨n, hn⟩ : ∃ n, n = bn + 1 := ⟨_, rfl⟩
    have h1n : 1 ≤ n := by omega
    have hn7 : n ≤ 7 := by omega
    have wo : IntKind.i64.wrap (on : Int) = (on : Int) := by rw [IntKind.wrap_i64]; omega
    have wb : IntKind.i64.wrap (bn : Int) = (bn : Int) := by rw [IntKind.wrap_i64]; omega
    have wb1 : IntKind.i64.wrap ((bn : Int) + 1) = (n : Int) := by rw [IntKind.wrap_i64]; omega
    clear hbn hb7 hn
    obtain ⟨d0, d1, d2, x0, x1, x2, out, X⟩ := exL c hc n h1n hn7
    have hnd := fun W => newD_good 0 0 c 1 W (by decide) hc
    have hnx := fun W => newD_good 1 0 c 2 W (by decide) hc
    rw [X.s0] at hnd
    rw [X.t0] at hnx
    have HND := Lib.hid hnd
    have HNX := Lib.hid hnx
    have HX := Lib.hid X
    clear hnd hnx X hc
    go_enter Tryz.func7, Tryz.ntmps7
    go_wp2_with fail
    rw [HW1.out]
    refine HAL.out.mono ?_
    rintro e w2 ⟨rfl, hb2⟩
    have hr2 := (hb2.block _ hml).trans HR1.out
    have hB2 := HB1.out.trans (hb2.mono HB1.out.size)
    have hml2 : w.heap.size < w2.heap.size := Nat.lt_of_lt_of_le hml hb2.size
    have cc := fun k => cell_of_row w2 w.heap.size k _ _ _ hr2
    have c0 : w2.cell? ⟨w.heap.size, 0, none⟩ = some (.int .i64 c.tout) := cc 0
    have c1 : w2.cell? ⟨w.heap.size, 1, none⟩ = some (.int .i64 c.ind) := cc 1
    have c2 : w2.cell? ⟨w.heap.size, 2, none⟩ = some (.int .i64 c.gr) := cc 2
    have HB2 := Lib.hid hB2
    clear cc hb2 hr2 hB2 HAL HW1 HB1 HR1
    go_wp2_with fail
    refine (HND.out _).mono ?_
    rintro e w3 ⟨M0, rfl, hD3, hO3, hb3⟩
    have HD3 := Lib.hid hD3
    have hlow3 : ∀ k ∈ M0.own, w.heap.size ≤ k := fun k hk => by have := hO3 k hk; omega
    have HO3 := Lib.hid hlow3
    have c0 := (hb3.cell (p := ⟨w.heap.size, 0, none⟩) hml2).trans c0
    have c1 := (hb3.cell (p := ⟨w.heap.size, 1, none⟩) hml2).trans c1
    have c2 := (hb3.cell (p := ⟨w.heap.size, 2, none⟩) hml2).trans c2
    have hml3 : w.heap.size < w3.heap.size := Nat.lt_of_lt_of_le hml2 hb3.size
    have HB3 := Lib.hid (HB2.out.trans (hb3.mono HB2.out.size))
    clear hb3 HB2 HND hD3 hO3 hlow3
    go_wp2_with fail
    refine (HNX.out _).mono ?_
    rintro e w4 ⟨N0, rfl, hE4, hO4, hb4⟩
    have HD4 := Lib.hid (HD3.out.below hb4)
    have HE4 := Lib.hid hE4
    have hlow4 : ∀ k ∈ N0.own, w.heap.size ≤ k := fun k hk => by have := hO4 k hk; omega
    have HP4 := Lib.hid hlow4
    have hdis4 : ∀ k ∈ M0.own, k ∉ N0.own := fun k hk hm => by
      have h1 := HD3.out.own_lt k hk
      have h2 := hO4 k hm
      omega
    have HJ4 := Lib.hid hdis4
    have HB4 := Lib.hid (HB3.out.trans (hb4.mono HB3.out.size))
    have hs4 : w.heap.size < w4.heap.size := Nat.lt_of_lt_of_le hml3 hb4.size
    clear hb4 HB3 HNX hE4 hO4 hlow4 hdis4 HD3 c0 c1 c2 hml hml2 hml3
    go_wp2_with fail
    clear wo wb wb1 t7
    go_loopg [10, 11] n (fun gk s10 s11 wr => ∃ (i : Nat) (oq : Option Addr) (cq : Nat), s10 = .slice oq i cq ∧ s11 = .int .i64 ((i : Int) + 1) ∧ i ≤ n ∧ n - i ≤ gk ∧ Hid (Owns Mb.cells 3 w4.heap.size 45 wr (.slice oq i cq) (wordsN i)) ∧ Hid (Below w4.heap.size w4 wr))
    case atStart => exact ⟨0, none, 0, rfl, rfl, Nat.zero_le _, Nat.le_refl _, Owns.nil _ _ _ _ _, Below.refl _ _⟩
    case round =>
      obtain ⟨i, oq, cq, rfl, rfl, hi, hgk, HOW, HBW⟩ := hrel
      by_cases hlt : i < n
      · have hltz : (i : Int) + 1 ≤ (n : Int) := by omega
        have hww := fun W => word_any ((i : Int) + 1) W
        have HWW := Lib.hid hww
        have hB : w4.heap.size ≤ wr.heap.size := HBW.out.size
        have hwl : (wordsN i).length = i := wordsN_len i
        have HWL := Lib.hid hwl
        clear hww hwl
        go_wp2_with fail
        refine (HWW.out _).mono ?_
        rintro e w5 ⟨rfl, hb5⟩
        have HB5 := Lib.hid hb5
        clear hb5 HWW
        go_wp2_with (at_builtin; refine wpList_app Mb.cells 3 Mb.cells_len (by decide) Mb.cells_one _ rfl _ _ 40 rfl w4.heap.size 45 _ 24 Tryz.underlying40 infoMember rfl _ (wordsN i) rfl ?h1 _ [(⟨(i : Int) + 1, 1, 0⟩ : Mb)] rfl ?h2 ?h3 ?h4 ?h5 ?_)
        case h1 => exact (HOW.out.below HB5.out (Nat.le_refl _)).below ((Below.refl _ _).alloc (Nat.le_refl _) _) (Nat.le_refl _)
        case h2 =>
          have := slAt_new (enc := Mb.cells) w5 #[.int .i64 ((i : Int) + 1), .int .i64 1, .int .i64 0] 45 1 1 (0, 0) [(⟨(i : Int) + 1, 1, 0⟩ : Mb)] rfl rfl (by decide)
          exact this
        case h3 => simp only [HWL.out, List.length_singleton]; omega
        case h4 => simp only [HWL.out, List.length_singleton]; omega
        case h5 => have := HB5.out.size; simp; omega
        intro v2 w6 hown2 hg2 hv2
        have hBX : Below w4.heap.size w4 w6 := ((HBW.out.trans (HB5.out.mono HBW.out.size)).alloc (by have := HB5.out.size; omega) _).grown hg2 (by have := HB5.out.size; simp; omega) fun k hk => (HOW.out.lt k hk).1
        rw [← wordsN_next] at hown2
        obtain ⟨oz, cz, rfl⟩ := slAt_slice hown2.at
        rw [wordsN_len] at hown2
        rw [wordsN_len]
        have HOW2 := Lib.hid hown2
        have HBX := Lib.hid hBX
        have wi2 : IntKind.i64.wrap ((i : Int) + 1 + 1) = (i : Int) + 1 + 1 := by rw [IntKind.wrap_i64]; omega
        clear hown2 hg2 hv2 hBX HOW HBW HB5
        go_wp2_with fail
        go_roundg (n - (i + 1))
        case measure => omega
        case rel => exact ⟨i + 1, oz, cz, rfl, by go_num, by omega, Nat.le_refl _, HOW2.out, HBX.out⟩
      · have hltz : ¬ (i : Int) + 1 ≤ (n : Int) := by omega
        have hin : n = i := by omega
        subst hin
        have hD5 := HD4.out.below HBW.out
        have hE5 := HE4.out.below HBW.out
        have hB5 := HB4.out.trans (HBW.out.mono HB4.out.size)
        have hO5 := HD4.out.own_lt
        have hown5 : ∀ b, (Value.slice oq n cq).ownBlock = some b → b ∉ M0.own := fun b hb hm => by
          have h1 := (HOW.out.lt b hb).1
          have h2 := hO5 b hm
          omega
        have HOWN5 := Lib.hid hown5
        have HSL5 := Lib.hid HOW.out.at
        have HB5 := Lib.hid hB5
        have HD5 := Lib.hid hD5
        have HE5 := Lib.hid hE5
        clear hD5 hE5 hB5 hO5 hown5 HD4 HE4 HB4 HBW HOW
        go_wp2_with fail
        refine (lping_any 1 0 0 oq n cq wr).mono ?_
        rintro e w6 ⟨rfl, hb6⟩
        have hD6 := HD5.out.below hb6
        have hon6 := onPing_any M0 d0 HX.out.kd0 HX.out.nd0 HX.out.ld0 1 0 (by decide) (by rw [HX.out.zd0]; decide) (by decide) (wordsN n) (msOk_words n hn7) (by rw [wordsN_len]; omega) ⟨oq, n, cq⟩ w6 (HSL5.out.below Mb.cells_len (by decide) hb6 (Nat.le_refl _)) HOWN5.out hD6
        rw [HX.out.zd0, HX.out.s1] at hon6
        have HON6 := Lib.hid hon6
        have HE6 := Lib.hid (HE5.out.below hb6)
        have HB6 := Lib.hid (HB5.out.trans (hb6.mono HB5.out.size))
        clear hb6 hD6 hon6 HB5 HD5 HE5 HSL5 HOWN5
        go_wp2_with fail
        refine HON6.out.mono ?_
        rintro e w7 ⟨v7, rfl, M1, ps7, hD7, _, _, _, hN7, hT7⟩
        obtain ⟨hE7, hJ7⟩ := two_kept HE6.out hT7 hN7 HJ4.out
        have hs6 : w.heap.size ≤ w6.heap.size := HB6.out.size
        have hg7 : M1.g = M0.g := hN7.g
        have HD7 := Lib.hid hD7
        have HE7 := Lib.hid hE7
        have HJ7 := Lib.hid hJ7
        have HO7 : Hid (∀ k ∈ M1.own, w.heap.size ≤ k) := fun k hk => (hN7.own k hk).elim (HO3.out k) fun h => by omega
        have HB7 := Lib.hid (HB6.out.trans (hT7.below hs6 HO3.out))
        have HWD := Lib.hid (fun W => word_any 0 W)
        clear hD7 hE7 hJ7 hN7 hT7 HON6 HB6 HE6 HO3 HJ4
        go_wp2_with fail
        refine (HWD.out _).mono ?_
        rintro e w8 ⟨rfl, hb8⟩
        have HB8 := Lib.hid hb8
        clear hb8 HWD
        go_wp2_with fail
        have hb9 := HB8.out.alloc HB8.out.size (.cells #[.int .i64 0, .int .i64 1, .int .i64 0] 45)
        have hsl9 : SlAt Mb.cells (w8.alloc (.cells #[.int .i64 0, .int .i64 1, .int .i64 0] 45)) (.slice (some ⟨w8.heap.size, 0, none⟩) 1 1) [(⟨0, 1, 0⟩ : Mb)] := slAt_new w8 #[.int .i64 0, .int .i64 1, .int .i64 0] 45 1 1 (0, 0) [(⟨0, 1, 0⟩ : Mb)] rfl rfl (by decide)
        have hw78 : w7.heap.size ≤ w8.heap.size := HB8.out.size
        have hgl9 : w8.heap.size < (w8.alloc (.cells #[.int .i64 0, .int .i64 1, .int .i64 0] 45)).heap.size := by simp
        generalize hg9 : w8.heap.size = g9 at *
        generalize w8.alloc (.cells #[.int .i64 0, .int .i64 1, .int .i64 0] 45) = w9 at *
        have HB9 := Lib.hid hb9
        have HSL9 := Lib.hid hsl9
        clear hb9 hsl9 hg9 HB8
        refine (lping_any 0 1 0 (some ⟨g9, 0, none⟩) 1 1 w9).mono ?_
        rintro e w10 ⟨rfl, hb10⟩
        have hb910 := HB9.out.trans (hb10.mono HB9.out.size)
        have hE10 := HE7.out.below hb910
        have hD10 := HD7.out.below hb910
        have hon10 := onPing_any N0 x0 HX.out.kx0 HX.out.nx0 HX.out.lx0 0 0 (by decide) (by rw [HX.out.zx0]; decide) (by decide) [(⟨0, 1, 0⟩ : Mb)] (by decide) (by decide) ⟨some ⟨g9, 0, none⟩, 1, 1⟩ w10 (HSL9.out.below Mb.cells_len (by decide) hb10 (Nat.le_refl _)) (fun b hb hm => by
          have h1 : g9 = b := Option.some.inj hb
          have h2 := HE7.out.own_lt b hm
          omega) hE10
        rw [HX.out.zx0, HX.out.t1] at hon10
        have HON10 := Lib.hid hon10
        have HD10 := Lib.hid hD10
        have HB10 := Lib.hid (HB7.out.trans (hb910.mono HB7.out.size))
        clear hb10 hb910 hE10 hD10 hon10 HB7 HB9 HSL9 HD7 HE7
        go_wp2_with fail
        refine HON10.out.mono ?_
        rintro e w11 ⟨v11, rfl, N1, ps11, hE11, _, _, _, hN11, hT11⟩
        have hJr : ∀ k ∈ N0.own, k ∉ M1.own := fun k hk hm => HJ7.out k hm hk
        obtain ⟨hD11, hJ11⟩ := two_kept HD10.out hT11 hN11 hJr
        have hs10 : w.heap.size ≤ w10.heap.size := HB10.out.size
        have hgn : N1.g = N0.g := hN11.g
        have HD11 := Lib.hid hD11
        have HE11 := Lib.hid hE11
        have HJ11 : Hid (∀ k ∈ M1.own, k ∉ N1.own) := fun k hk hm => hJ11 k hm hk
        have HP11 : Hid (∀ k ∈ N1.own, w.heap.size ≤ k) := fun k hk => (hN11.own k hk).elim (HP4.out k) fun h => by omega
        have HB11 := Lib.hid (HB10.out.trans (hT11.below hs10 HP4.out))
        have hlv := leave_any M1 d1 HX.out.kd1 HX.out.ld1 w11 hD11
        rw [HX.out.s2, hg7] at hlv
        have HLV := Lib.hid hlv
        clear hlv hJr hD11 hE11 hJ11 hN11 hT11 HON10 HB10 HD10 HJ7 HP4
        go_wp2_with fail
        refine HLV.out.mono ?_
        rintro e w12 ⟨v12, rfl, M2, ps, hD12, hM12, hP12, hA12, hN12, hT12⟩
        obtain ⟨o12, cap12, rfl⟩ := slAt_slice hM12.1.at
        have hpl : ps.length = n := by
          have := congrArg List.length hP12
          rw [List.length_map, HX.out.out, List.length_map, List.length_range] at this
          exact this
        obtain ⟨hE12, hJ12⟩ := two_kept HE11.out hT12 hN12 HJ11.out
        have hs11 : w.heap.size ≤ w11.heap.size := HB11.out.size
        have hg12 : M2.g = M0.g := hN12.g.trans hg7
        have HE12 := Lib.hid hE12
        have HJ12 := Lib.hid hJ12
        have HO12 : Hid (∀ k ∈ M2.own, w.heap.size ≤ k) := fun k hk => (hN12.own k hk).elim (HO7.out k) fun h => by omega
        have HB12 := Lib.hid (HB11.out.trans (hT12.below hs11 HO7.out))
        have HM12 := Lib.hid hM12
        have HP12 := Lib.hid hP12
        have HA12 := Lib.hid hA12
        have HAN12 : Hid (Aside N1.own (.slice o12 ps.length cap12) ps) := fun b hb hm => by
          have h1 := (hM12.blk b hb).1
          have h2 := HE11.out.own_lt b hm
          omega
        have htk := tick_stepped M2 d2 HX.out.kd2 HX.out.nd2.2 HX.out.nd2.1 w12 hD12
        rw [HX.out.s3, hg12] at htk
        have HTK := Lib.hid htk
        have HPL := Lib.hid hpl
        rw [hpl]
        clear htk hpl hE12 hJ12 hD12 hM12 hP12 hA12 hN12 hT12 HLV HB11 HD11 HE11 HJ11 HO7
        go_wp2_with fail
        refine HTK.out.mono ?_
        rintro e w13 ⟨v13, rfl, M3, ps13, hD13, hM13, hP13, _, hN13, hT13⟩
        obtain ⟨o13, cap13, rfl⟩ := slAt_slice hM13.1.at
        have hl13 : ps13.length = 0 := by have := congrArg List.length hP13; simpa using this
        rw [hl13]
        obtain ⟨hE13, hJ13⟩ := two_kept HE12.out hT13 hN13 HJ12.out
        have hs12 : w.heap.size ≤ w12.heap.size := HB12.out.size
        have hg13 : M3.g = M0.g := hN13.g.trans hg12
        have hMs := HM12.out.touch hT13 HA12.out
        have HD13 := Lib.hid hD13
        have HE13 := Lib.hid hE13
        have HM13 := Lib.hid hMs
        have HB13 := Lib.hid (HB12.out.trans (hT13.below hs12 HO12.out))
        clear hMs hl13 hE13 hJ13 hD13 hM13 hP13 hN13 hT13 HTK HB12 HE12 HJ12 HO12 HM12 HA12
        go_wp2_with fail
        have hMn := HM13.out
        rw [HPL.out] at hMn
        have HM13 := Lib.hid hMn
        have HAN13 := HAN12.out
        rw [HPL.out] at HAN13
        have HAN13 := Lib.hid HAN13
        clear hMn HAN12
        go_loopg [14, 15, 85] n (fun gk s14 s15 s85 wr => ∃ (i : Nat), s85 = .int .i64 i ∧ i ≤ n ∧ n - i ≤ gk ∧ Hid (Below w13.heap.size w13 wr))
        case atStart => exact ⟨0, rfl, Nat.zero_le _, Nat.le_refl _, Below.refl _ _⟩
        case round =>
          obtain ⟨i, rfl, hi, hgk, HBW⟩ := hrel
          by_cases hlti : i < n
          · have hltz2 : (i : Int) < (n : Int) := by omega
            have hip : i < ps.length := by rw [HPL.out]; exact hlti
            have hMr := HM13.out.below HBW.out (Nat.le_refl _)
            have hsl := hMr.1.at
            obtain ⟨bo, off, hbo⟩ := hsl.plain scells_len (by decide) (by intro e; rw [e] at hip; exact absurd hip (by simp))
            subst hbo
            have hld := msg_load hsl hip
            have hsi : ps[i].2 = (⟨1, 0, (i : Int) + 1, 0, 0, goneMs n⟩ : Sent) := by
              have h1 : (ps.map (·.2))[i]? = some ps[i].2 := by rw [List.getElem?_map, List.getElem?_eq_getElem hip]; rfl
              rw [HP12.out, HX.out.out, List.getElem?_map, List.getElem?_range hlti] at h1
              exact (Option.some.inj h1).symm
            have hmb := (hMr.2 ps[i] (List.getElem_mem hip)).at
            generalize ps[i] = pi at *
            obtain ⟨hd, sd⟩ := pi
            dsimp only at hsi hmb
            subst hsi
            rw [show (scells (hd, (⟨1, 0, (i : Int) + 1, 0, 0, goneMs n⟩ : Sent))).toArray = #[.int .i64 1, .int .i64 0, .int .i64 ((i : Int) + 1), .int .i64 0, .int .i64 0, .int .i64 0, .int .i64 0, .int .i64 0, .int .i64 0, .int .i64 0, .int .i64 0, .int .i64 0, .int .i64 0, .slice none 0 0, .slice none 0 0, hd.val] from rfl] at hld
            obtain ⟨oh, ch, hv⟩ := slAt_slice hmb
            rw [show (goneMs n).length = n + 1 from by unfold goneMs; rw [List.length_cons, wordsN_len]] at hv
            rw [hv] at hld hmb
            clear hv
            obtain ⟨bm, om, hbm⟩ := hmb.plain Mb.cells_len (by decide) (by intro e; cases e)
            subst hbm
            have y0 := hmb.cell Mb.cells_len (i := 0) (c := 0) (show 0 < (goneMs n).length from Nat.zero_lt_succ _) (by decide)
            have y1 := hmb.cell Mb.cells_len (i := 0) (c := 1) (show 0 < (goneMs n).length from Nat.zero_lt_succ _) (by decide)
            replace y0 : wr.cell? ⟨bm, om, none⟩ = some (.int .i64 0) := y0
            replace y1 : wr.cell? ⟨bm, om + 1, none⟩ = some (.int .i64 4) := y1
            have hbmlt : bm < wr.heap.size := hmb.lt Mb.cells_len (by decide) (by intro e; cases e) _ rfl
            have hB13 := HBW.out.size
            have HLD := Lib.hid hld
            have HBX := Lib.hid (HBW.out.alloc HBW.out.size (.cells #[.int .i64 1, .int .i64 0, .int .i64 ((i : Int) + 1), .int .i64 0, .int .i64 0, .int .i64 0, .int .i64 0, .int .i64 0, .int .i64 0, .int .i64 0, .int .i64 0, .int .i64 0, .int .i64 0, .slice none 0 0, .slice none 0 0, .slice (some ⟨bm, om, none⟩) (n + 1) ch] 42))
            have z0 := (Below.cell ((Below.refl wr.heap.size wr).alloc (Nat.le_refl _) (.cells #[.int .i64 1, .int .i64 0, .int .i64 ((i : Int) + 1), .int .i64 0, .int .i64 0, .int .i64 0, .int .i64 0, .int .i64 0, .int .i64 0, .int .i64 0, .int .i64 0, .int .i64 0, .int .i64 0, .slice none 0 0, .slice none 0 0, .slice (some ⟨bm, om, none⟩) (n + 1) ch] 42)) (p := ⟨bm, om, none⟩) hbmlt).trans y0
            have z1 := (Below.cell ((Below.refl wr.heap.size wr).alloc (Nat.le_refl _) (.cells #[.int .i64 1, .int .i64 0, .int .i64 ((i : Int) + 1), .int .i64 0, .int .i64 0, .int .i64 0, .int .i64 0, .int .i64 0, .int .i64 0, .int .i64 0, .int .i64 0, .int .i64 0, .int .i64 0, .slice none 0 0, .slice none 0 0, .slice (some ⟨bm, om, none⟩) (n + 1) ch] 42)) (p := ⟨bm, om + 1, none⟩) hbmlt).trans y1
            have hn1 : ((n + 1 : Nat) : Int) = (n : Int) + 1 := by omega
            have hzl : (0 : Int) < (n : Int) + 1 := by omega
            clear hld hmb hMr hsl hip HBW
            go_wp2_with (refine wpList_loadAgg _ rfl 42 _ rfl 16 (by kernel_rfl) (by kernel_rfl) ⟨bo, off + i * 16, none⟩ rfl _ HLD.out ?_)
            have wi1 : IntKind.i64.wrap ((i : Int) + 1) = (i : Int) + 1 := by rw [IntKind.wrap_i64]; omega
            go_roundg (n - (i + 1))
            case measure => omega
            case rel => exact ⟨i + 1, by go_num, by omega, Nat.le_refl _, HBX.out⟩
          · have hltz2 : ¬ (i : Int) < (n : Int) := by omega
            have hin : n = i := by omega
            subst hin
            have hD14 := HD13.out.below HBW.out
            have hE14 := HE13.out.below HBW.out
            have hM14 := HM13.out.below HBW.out (Nat.le_refl _)
            have HD14 := Lib.hid hD14
            have HE14 := Lib.hid hE14
            have HM14 := Lib.hid hM14
            have HB14 := Lib.hid (HB13.out.trans (HBW.out.mono HB13.out.size))
            clear hD14 hE14 hM14 HD13 HE13 HM13 HB13 HBW
            go_wp2_with fail
            refine (lping_any 1 0 7 none 0 0 wr).mono ?_
            rintro e w15 ⟨rfl, hb15⟩
            have hD15 := HD14.out.below hb15
            have hr15 : ((⟨1, 1, 0, 7, 0, []⟩ : Sent).msg ⟨none, 0, 0⟩).right := Sent.right (.inl rfl) ⟨by show (0 : Int) ≤ 1; decide, by show (1 : Int) ≤ 7; decide⟩ ⟨by show (0 : Int) ≤ 0; decide, by show (0 : Int) ≤ 7; decide⟩ (by show (1 : Int) ≠ 0; decide) ⟨by show (0 : Int) ≤ 7; decide, by show (7 : Int) ≤ 1099511627776; decide⟩ (.inr rfl) (by decide)
            have hon15 := onSent_left M3 d2 HX.out.kd2 HX.out.nd2.1 HX.out.ld2 ⟨1, 1, 0, 7, 0, []⟩ ⟨none, 0, 0⟩ hr15 HX.out.zd2.symm (Nat.zero_le _) w15 (SlAt.nil _ _) (fun b hb => by cases hb) hD15
            rw [hg13] at hon15
            have HON15 := Lib.hid hon15
            have HD15 := Lib.hid hD15
            have HE15 := Lib.hid (HE14.out.below hb15)
            have HM15 := Lib.hid (HM14.out.below hb15 (Nat.le_refl _))
            have HB15 := Lib.hid (HB14.out.trans (hb15.mono HB14.out.size))
            clear hb15 hD15 hr15 hon15 HD14 HE14 HM14 HB14
            go_wp2_with fail
            refine HON15.out.mono ?_
            rintro e w16 ⟨rfl, hb16⟩
            have hD16 := HD15.out.below hb16
            have hlv := leave_left M3 d2 HX.out.ld2 w16 hD16
            rw [hg13] at hlv
            have HLV := Lib.hid hlv
            have HE16 := Lib.hid (HE15.out.below hb16)
            have HM16 := Lib.hid (HM15.out.below hb16 (Nat.le_refl _))
            have HB16 := Lib.hid (HB15.out.trans (hb16.mono HB15.out.size))
            clear hb16 hD16 hlv HON15 HD15 HE15 HM15 HB15
            go_wp2_with fail
            refine HLV.out.mono ?_
            rintro e w17 ⟨rfl, hw17⟩
            subst w17
            have hip : 0 < ps.length := by rw [HPL.out]; exact h1n
            have hsl := HM16.out.1.at
            obtain ⟨bo, off, hbo⟩ := hsl.plain scells_len (by decide) (by intro e; rw [e] at hip; exact absurd hip (by simp))
            subst hbo
            have hld := msg_load hsl hip
            have hsi : ps[0].2 = (⟨1, 0, 1, 0, 0, goneMs n⟩ : Sent) := by
              have h1 : (ps.map (·.2))[0]? = some ps[0].2 := by rw [List.getElem?_map, List.getElem?_eq_getElem hip]; rfl
              rw [HP12.out, HX.out.out, List.getElem?_map, List.getElem?_range h1n] at h1
              exact (Option.some.inj h1).symm
            have hmem : ps[0] ∈ ps := List.getElem_mem hip
            have hmb := (HM16.out.2 ps[0] hmem).at
            have hasd : ∀ b, ps[0].1.val.ownBlock = some b → b ∉ N1.own := fun b hb => HAN13.out b (.inr ⟨ps[0], hmem, hb⟩)
            clear hmem
            generalize ps[0] = pi at *
            obtain ⟨hd, sd⟩ := pi
            dsimp only at hsi hmb hasd
            subst hsi
            rw [show (scells (hd, (⟨1, 0, 1, 0, 0, goneMs n⟩ : Sent))).toArray = #[.int .i64 1, .int .i64 0, .int .i64 1, .int .i64 0, .int .i64 0, .int .i64 0, .int .i64 0, .int .i64 0, .int .i64 0, .int .i64 0, .int .i64 0, .int .i64 0, .int .i64 0, .slice none 0 0, .slice none 0 0, hd.val] from rfl] at hld
            rw [show off + 0 * 16 = off by omega] at hld
            have hr16 : ((⟨1, 0, 1, 0, 0, goneMs n⟩ : Sent).msg hd).right := Sent.right (.inl rfl) ⟨by show (0 : Int) ≤ 0; decide, by show (0 : Int) ≤ 7; decide⟩ ⟨by show (0 : Int) ≤ 1; decide, by show (1 : Int) ≤ 7; decide⟩ (by show (0 : Int) ≠ 1; decide) ⟨by show (0 : Int) ≤ 0; decide, by show (0 : Int) ≤ 1099511627776; decide⟩ (.inr rfl) (msOk_gone n hn7)
            have hon16 := onSent_any N1 x1 HX.out.kx1 HX.out.nx1 HX.out.lx1 ⟨1, 0, 1, 0, 0, goneMs n⟩ hd hr16 HX.out.zx1.symm (by show (goneMs n).length ≤ 1000; unfold goneMs; rw [List.length_cons, wordsN_len]; omega) w16 hmb hasd HE16.out
            rw [show (⟨1, 0, 1, 0, 0, goneMs n⟩ : Sent).got = ⟨1, 0, 1, 0, 0, goneMs n⟩ from rfl, HX.out.t2, hgn] at hon16
            have HON16 := Lib.hid hon16
            have HLD := Lib.hid hld
            have hzl : (0 : Int) < (n : Int) := by omega
            clear hsl hld hmb hasd hr16 hon16 hip HLV HM16 HAN13 HE16
            go_wp2_with (refine wpList_loadAgg _ rfl 42 _ rfl 16 (by kernel_rfl) (by kernel_rfl) ⟨bo, off, none⟩ rfl _ HLD.out ?_)
            refine HON16.out.mono ?_
            rintro e w17 ⟨v17, rfl, N2, ps17, hE17, _, _, _, hN17, hT17⟩
            have hs16 : w.heap.size ≤ w16.heap.size := HB16.out.size
            have hgn17 : N2.g = N0.g := hN17.g.trans hgn
            have hlv17 := fun W hb => liveD_any N2 x2 W (hE17.below hb)
            rw [hgn17] at hlv17
            have HLV17 := Lib.hid hlv17
            have HB17 := Lib.hid (HB16.out.trans (hT17.below hs16 HP11.out))
            obtain ⟨tl, htl⟩ := HX.out.live
            have HTL := Lib.hid htl
            clear hlv17 hE17 hN17 hT17 HON16 HB16 HLD htl HX
            go_wp2_with fail
            refine (HLV17.out w17 (Below.refl _ _)).mono ?_
            rintro e w18 ⟨o18, c18, rfl, ho18, hb18⟩
            have hsl18 := ho18.at
            rw [HTL.out] at hsl18
            rw [HTL.out, List.length_cons]
            rw [List.length_cons] at hsl18
            have HSL18 := Lib.hid hsl18
            have HB18 := Lib.hid hb18
            have htp : (1 : Int) ≤ (tl.length : Int) + 1 := by omega
            clear hsl18 ho18 hb18
            go_wp2_with fail
            have hb19 := (Below.refl w18.heap.size w18).alloc (Nat.le_refl _) (.cells #[.int .i64 0, .int .i64 1] 3)
            have hsl19 : SlAt icells (w18.alloc (.cells #[.int .i64 0, .int .i64 1] 3)) (.slice (some ⟨w18.heap.size, 0, none⟩) 2 2) [0, 1] := slAt_new w18 #[.int .i64 0, .int .i64 1] 3 2 2 (0, 0) [0, 1] rfl rfl (by decide)
            have hin := intsNe_any o18 (some ⟨w18.heap.size, 0, none⟩) c18 2 tl (w18.alloc (.cells #[.int .i64 0, .int .i64 1] 3)) (HSL18.out.below icells_len (by decide) hb19 (Nat.le_refl _)) hsl19
            have HB19 := Lib.hid (HB18.out.trans (hb19.mono HB18.out.size))
            have HIN := Lib.hid hin
            clear hb19 hsl19 hin HB18 HSL18
            refine HIN.out.mono ?_
            rintro e w20 ⟨rfl, hb20⟩
            have HB20 := Lib.hid (HB19.out.trans (hb20.mono HB19.out.size))
            clear hb20 HB19 HIN
            go_wp2_with fail
            refine (HLV17.out w20 HB20.out).mono ?_
            rintro e w21 ⟨o21, c21, rfl, _, hb21⟩
            rw [HTL.out, List.length_cons]
            have HB21 := Lib.hid (HB17.out.trans ((HB20.out.trans (hb21.mono HB20.out.size)).mono HB17.out.size))
            clear hb21 HB20 HB17 HLV17 HTL
            go_wp2_with fail
            go_ret
            exact ⟨rfl, HB21.out⟩
  · have hnd := fun W => newD_bad2 0 0 c 1 W (by decide) hc
    have hnx := fun W => newD_bad2 1 0 c 2 W (by decide) hc
    have hrr := fun W => refRight20_any c W
    rw [decide_eq_false hc] at hrr
    have HND := Lib.hid hnd
    have HNX := Lib.hid hnx
    have HRR := Lib.hid hrr
    clear hnd hnx hrr hc
    go_enter Tryz.func7, Tryz.ntmps7
    go_wp2_with fail
    rw [HW1.out]
    refine HAL.out.mono ?_
    rintro e w2 ⟨rfl, hb2⟩
    have hr2 := (hb2.block _ hml).trans HR1.out
    have hB2 := HB1.out.trans (hb2.mono HB1.out.size)
    have hml2 : w.heap.size < w2.heap.size := Nat.lt_of_lt_of_le hml hb2.size
    have cc := fun k => cell_of_row w2 w.heap.size k _ _ _ hr2
    have c0 : w2.cell? ⟨w.heap.size, 0, none⟩ = some (.int .i64 c.tout) := cc 0
    have c1 : w2.cell? ⟨w.heap.size, 1, none⟩ = some (.int .i64 c.ind) := cc 1
    have c2 : w2.cell? ⟨w.heap.size, 2, none⟩ = some (.int .i64 c.gr) := cc 2
    have HB2 := Lib.hid hB2
    clear cc hb2 hr2 hB2 HAL HW1 HB1 HR1
    go_wp2_with fail
    refine (HND.out _).mono ?_
    rintro e w3 ⟨rfl, hb3⟩
    have c0 := (hb3.cell (p := ⟨w.heap.size, 0, none⟩) hml2).trans c0
    have c1 := (hb3.cell (p := ⟨w.heap.size, 1, none⟩) hml2).trans c1
    have c2 := (hb3.cell (p := ⟨w.heap.size, 2, none⟩) hml2).trans c2
    have hml3 : w.heap.size < w3.heap.size := Nat.lt_of_lt_of_le hml2 hb3.size
    have HB3 := Lib.hid (HB2.out.trans (hb3.mono HB2.out.size))
    clear hb3 HB2 HND
    go_wp2_with fail
    refine (HNX.out _).mono ?_
    rintro e w4 ⟨rfl, hb4⟩
    have c0 := (hb4.cell (p := ⟨w.heap.size, 0, none⟩) hml3).trans c0
    have c1 := (hb4.cell (p := ⟨w.heap.size, 1, none⟩) hml3).trans c1
    have c2 := (hb4.cell (p := ⟨w.heap.size, 2, none⟩) hml3).trans c2
    have HB4 := Lib.hid (HB3.out.trans (hb4.mono HB3.out.size))
    clear hb4 HB3 HNX
    go_wp2_with fail
    refine (HRR.out _).mono ?_
    rintro e w5 ⟨rfl, hb5⟩
    have HB5 := Lib.hid (HB4.out.trans (hb5.mono HB4.out.size))
    clear hb5 HB4 HRR
    go_wp2_with fail
    go_ret
    exact ⟨rfl, HB5.out⟩
theorem leaves_all (c : DConf) (a : Int) (h : 0 ≤ a ∧ a ≤ 255) (w : World) : Calls Tryz.prog 7 #[.agg #[.int .i64 c.tout, .int .i64 c.ind, .int .i64 c.gr], .int .u8 a] w fun e w' => e = .returned (.bool true) ∧ Below w.heap.size w w' := by
  obtain ⟨n, rfl⟩ := Int.eq_ofNat_of_zero_le h.1
  exact leaves_any c n (by omega) w
end Go.Proofs.YtejihgfigclppaaGreat
