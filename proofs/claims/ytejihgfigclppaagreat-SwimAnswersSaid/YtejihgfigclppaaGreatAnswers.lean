/-
  The law SwimAnswers walked.
-/
import Derived.Test.YtejihgfigclppaaGreatMLeaveP
import Derived.Test.YtejihgfigclppaaGreatAnswerP
namespace Go.Proofs.YtejihgfigclppaaGreat
open Go.Shelf Go.RowKit Go.Lib Go.Sort
set_option linter.unusedVariables false
set_option linter.unusedSimpArgs false
theorem det_grown {w w' : World} {M : DM} {d : Det} (h : DetAt w M d) {row : Option Nat} (hg : w.grownBy w' row) (hr : ∀ b, row = some b → b ∉ M.own) : DetAt w' M d := h.keep fun k hk => hg.block k (h.own_lt k hk) fun e => hr k e.symm hk
theorem aside_app {own : List Nat} {w : World} {v v' : Value} {ps qs : List PSent} (h1 : Aside own v ps) (h2 : ∀ b, (∃ p ∈ qs, p.1.val.ownBlock = some b) → b ∉ own) (hv : v'.ownBlock = v.ownBlock ∨ ∀ g, v'.ownBlock = some g → w.heap.size ≤ g) (hlt : ∀ k ∈ own, k < w.heap.size) : Aside own v' (ps ++ qs) := fun b hb hm => by
  rcases hb with hb | ⟨p, hp, hb⟩
  · rcases hv with e | e
    · rw [e] at hb; exact h1 b (.inl hb) hm
    · have := e b hb; have := hlt b hm; omega
  · rcases List.mem_append.1 hp with hp | hp
    · exact h1 b (.inr ⟨p, hp, hb⟩) hm
    · exact h2 b ⟨p, hp, hb⟩ hm
theorem owns_made0 {e : Nat} (W : World) (n : Nat) (hn : W.heap.size = n) : Owns scells 16 n e (W.alloc (.cells #[] e)) (.slice (some ⟨n, 0, none⟩) 0 0) [] := by
  subst hn
  exact World.ownsRow_made W #[] 0 (Nat.le_refl _) (by decide) rfl
set_option maxRecDepth 100000 in
set_option maxHeartbeats 32000000 in
theorem answers_any (c : DConf) (sa sb : Int) (t : Nat) (ht : t ≤ 255) (w : World) : Calls Tryz.prog 3 #[.agg #[.int .i64 c.tout, .int .i64 c.ind, .int .i64 c.gr, .int .u64 sa, .int .u64 sb, .int .u8 t]] w fun e w' => e = .returned (.bool true) ∧ Below w.heap.size w w' := by
  have hp : Tryz.prog.follows .mixedOrders = true := by kernel_rfl
  obtain ⟨w1, hw1⟩ : ∃ w1, w.alloc (.cells #[.int .i64 c.tout, .int .i64 c.ind, .int .i64 c.gr, .int .u64 sa, .int .u64 sb, .int .u8 t] 26) = w1 := ⟨_, rfl⟩
  have hb1 : Below w.heap.size w w1 := by rw [← hw1]; exact (Below.refl _ _).alloc (Nat.le_refl _) _
  have hr1 : w1.heap[w.heap.size]? = some (.cells #[.int .i64 c.tout, .int .i64 c.ind, .int .i64 c.gr, .int .u64 sa, .int .u64 sb, .int .u8 t] 26) := by rw [← hw1]; exact heap_alloc_new w _
  have hml : w.heap.size < w1.heap.size := (Array.getElem?_eq_some_iff.1 hr1).1
  have HB1 := Lib.hid hb1
  have HR1 := Lib.hid hr1
  have HW1 := Lib.hid hw1
  have HAL := Lib.hid (alive20_any w1)
  clear hb1 hr1 hw1
  go_enter Tryz.func3, Tryz.ntmps3
  go_wp2_with fail
  rw [HW1.out]
  refine HAL.out.mono ?_
  rintro e w2 ⟨rfl, hb2⟩
  have hr2 := (hb2.block _ hml).trans HR1.out
  have hB2 := HB1.out.trans (hb2.mono HB1.out.size)
  have hml2 : w.heap.size < w2.heap.size := Nat.lt_of_lt_of_le hml hb2.size
  have cc := fun k => cell_of_row w2 w.heap.size k _ _ _ hr2
  have c0 : w2.cell? ⟨w.heap.size, 0, none⟩ = some (.int .i64 c.tout) := cc 0
  have c1 : w2.cell? ⟨w.heap.size, 1, none⟩ = some (.int .i64 c.ind) := cc 1
  have c2 : w2.cell? ⟨w.heap.size, 2, none⟩ = some (.int .i64 c.gr) := cc 2
  have c3 : w2.cell? ⟨w.heap.size, 3, none⟩ = some (.int .u64 sa) := cc 3
  have c4 : w2.cell? ⟨w.heap.size, 4, none⟩ = some (.int .u64 sb) := cc 4
  have c5 : w2.cell? ⟨w.heap.size, 5, none⟩ = some (.int .u8 t) := cc 5
  have HB2 := Lib.hid hB2
  clear cc hb2 hr2 hB2 HAL HW1 HB1 HR1
  go_wp2_with fail
  go_cut [3, 4, 5, 6] (fun s3 s4 s5 s6 wx => ∃ b, s3 = .pointer (some ⟨b, 0, none⟩) ∧ s4 = .int .u64 sa ∧ s5 = .int .u64 sb ∧ s6 = .int .u8 t ∧ b < wx.heap.size ∧ Hid (wx.heap[b]? = some (.cells #[.int .i64 c.tout, .int .i64 c.ind, .int .i64 c.gr] 23)) ∧ Hid (Below w2.heap.size w2 wx))
  case first =>
    go_region_held (fun w' => w'.cell? ⟨w.heap.size, 0, none⟩ = some (.int .i64 c.tout) ∧ w'.cell? ⟨w.heap.size, 1, none⟩ = some (.int .i64 c.ind) ∧ w'.cell? ⟨w.heap.size, 2, none⟩ = some (.int .i64 c.gr) ∧ w'.cell? ⟨w.heap.size, 3, none⟩ = some (.int .u64 sa) ∧ w'.cell? ⟨w.heap.size, 4, none⟩ = some (.int .u64 sb) ∧ w'.cell? ⟨w.heap.size, 5, none⟩ = some (.int .u8 t)) (first | exact ⟨c0, c1, c2, c3, c4, c5⟩ | exact ⟨((below_drew ((Below.refl w2.heap.size w2).alloc (Nat.le_refl _) _)).cell (p := ⟨w.heap.size, 0, none⟩) hml2).trans c0, ((below_drew ((Below.refl w2.heap.size w2).alloc (Nat.le_refl _) _)).cell (p := ⟨w.heap.size, 1, none⟩) hml2).trans c1, ((below_drew ((Below.refl w2.heap.size w2).alloc (Nat.le_refl _) _)).cell (p := ⟨w.heap.size, 2, none⟩) hml2).trans c2, ((below_drew ((Below.refl w2.heap.size w2).alloc (Nat.le_refl _) _)).cell (p := ⟨w.heap.size, 3, none⟩) hml2).trans c3, ((below_drew ((Below.refl w2.heap.size w2).alloc (Nat.le_refl _) _)).cell (p := ⟨w.heap.size, 4, none⟩) hml2).trans c4, ((below_drew ((Below.refl w2.heap.size w2).alloc (Nat.le_refl _) _)).cell (p := ⟨w.heap.size, 5, none⟩) hml2).trans c5⟩) (first | (go_at_call 9999; skip))
    all_goals
      go_wp2_with fail
      go_meet
      exact ⟨w2.heap.size, rfl, rfl, rfl, rfl, by simp [World.drew], heap_alloc_new w2 _, below_drew ((Below.refl _ _).alloc (Nat.le_refl _) _)⟩
  case rest =>
    obtain ⟨b3, rfl, rfl, rfl, rfl, hb3l, HR3, HB3⟩ := hcut
    have HBc := Lib.hid (HB2.out.trans (HB3.out.mono HB2.out.size))
    have q0 : wc.cell? ⟨b3, 0, none⟩ = some (.int .i64 c.tout) := cell_of_row wc b3 0 _ _ _ HR3.out
    have q1 : wc.cell? ⟨b3, 1, none⟩ = some (.int .i64 c.ind) := cell_of_row wc b3 1 _ _ _ HR3.out
    have q2 : wc.cell? ⟨b3, 2, none⟩ = some (.int .i64 c.gr) := cell_of_row wc b3 2 _ _ _ HR3.out
    have hrr := fun W => refRight20_any c W
    clear HB2 HB3 c0 c1 c2 c3 c4 c5 hml hml2
    by_cases hc : c.right
    · rw [decide_eq_true hc] at hrr
      have HRR := Lib.hid hrr
      obtain ⟨x0, y0, x1, y1, X⟩ := exB c hc sa sb
      have hnx := fun W => newD_good 0 0 c sa W (by decide) hc
      have hny := fun W => newD_good 1 0 c sb W (by decide) hc
      rw [X.s0] at hnx
      rw [X.t0] at hny
      have HNX := Lib.hid hnx
      have HNY := Lib.hid hny
      have HX := Lib.hid X
      clear hrr hnx hny X hc
      go_wp2_with fail
      refine (HRR.out _).mono ?_
      rintro e w3 ⟨rfl, hb3⟩
      have q0 := (hb3.cell (p := ⟨b3, 0, none⟩) hb3l).trans q0
      have q1 := (hb3.cell (p := ⟨b3, 1, none⟩) hb3l).trans q1
      have q2 := (hb3.cell (p := ⟨b3, 2, none⟩) hb3l).trans q2
      have hb3l3 : b3 < w3.heap.size := Nat.lt_of_lt_of_le hb3l hb3.size
      have HB3 := Lib.hid (HBc.out.trans (hb3.mono HBc.out.size))
      clear hb3 HBc HRR HR3
      go_wp2_with fail
      refine (HNX.out _).mono ?_
      rintro e w4 ⟨M0, rfl, hD4, hO4, hb4⟩
      have HD4 := Lib.hid hD4
      have hs3 : w.heap.size ≤ w3.heap.size := HB3.out.size
      have HO4 : Hid (∀ k ∈ M0.own, w.heap.size ≤ k) := fun k hk => by have := hO4 k hk; omega
      have q0 := (hb4.cell (p := ⟨b3, 0, none⟩) hb3l3).trans q0
      have q1 := (hb4.cell (p := ⟨b3, 1, none⟩) hb3l3).trans q1
      have q2 := (hb4.cell (p := ⟨b3, 2, none⟩) hb3l3).trans q2
      have HB4 := Lib.hid (HB3.out.trans (hb4.mono HB3.out.size))
      clear hb4 HB3 HNX hD4 hO4
      go_wp2_with fail
      refine (HNY.out _).mono ?_
      rintro e w5 ⟨N0, rfl, hE5, hO5, hb5⟩
      have HD5 := Lib.hid (HD4.out.below hb5)
      have HE5 := Lib.hid hE5
      have hs4 : w.heap.size ≤ w4.heap.size := HB4.out.size
      have HP5 : Hid (∀ k ∈ N0.own, w.heap.size ≤ k) := fun k hk => by have := hO5 k hk; omega
      have HJ5 : Hid (∀ k ∈ M0.own, k ∉ N0.own) := fun k hk hm => by
        have h1 := HD4.out.own_lt k hk
        have h2 := hO5 k hm
        omega
      have HB5 := Lib.hid (HB4.out.trans (hb5.mono HB4.out.size))
      have HWA := Lib.hid (fun W => word_any 1 W)
      clear hb5 HB4 HNY hE5 hO5 HD4 q0 q1 q2
      go_wp2_with fail
      refine (HWA.out _).mono ?_
      rintro e w8 ⟨rfl, hb8⟩
      have HB8 := Lib.hid hb8
      clear hb8 HWA
      go_wp2_with fail
      have hb9 := HB8.out.alloc HB8.out.size (.cells #[.int .i64 1, .int .i64 1, .int .i64 0] 45)
      have hsl9 : SlAt Mb.cells (w8.alloc (.cells #[.int .i64 1, .int .i64 1, .int .i64 0] 45)) (.slice (some ⟨w8.heap.size, 0, none⟩) 1 1) [(⟨1, 1, 0⟩ : Mb)] := slAt_new w8 #[.int .i64 1, .int .i64 1, .int .i64 0] 45 1 1 (0, 0) [(⟨1, 1, 0⟩ : Mb)] rfl rfl (by decide)
      have hw58 : w5.heap.size ≤ w8.heap.size := HB8.out.size
      generalize hg9 : w8.heap.size = g9 at *
      generalize w8.alloc (.cells #[.int .i64 1, .int .i64 1, .int .i64 0] 45) = w9 at *
      have HB9 := Lib.hid hb9
      have HSL9 := Lib.hid hsl9
      clear hb9 hsl9 hg9 HB8
      refine (lping_any 1 0 0 (some ⟨g9, 0, none⟩) 1 1 w9).mono ?_
      rintro e w10 ⟨rfl, hb10⟩
      have hb910 := HB9.out.trans (hb10.mono HB9.out.size)
      have hE10 := HE5.out.below hb910
      have hD10 := HD5.out.below hb910
      have hon10 := onPing_any M0 x0 HX.out.fx.ok HX.out.fx.num HX.out.fx.left 1 0 (by decide) (by rw [HX.out.fx.self]; decide) (by decide) [(⟨1, 1, 0⟩ : Mb)] (by decide) (by decide) ⟨some ⟨g9, 0, none⟩, 1, 1⟩ w10 (HSL9.out.below Mb.cells_len (by decide) hb10 (Nat.le_refl _)) (fun b hb hm => by
        have h1 : g9 = b := Option.some.inj hb
        have h2 := HD5.out.own_lt b hm
        omega) hD10
      rw [HX.out.fx.self, HX.out.s1] at hon10
      have HON10 := Lib.hid hon10
      have HE10 := Lib.hid hE10
      have HB10 := Lib.hid (HB5.out.trans (hb910.mono HB5.out.size))
      clear hb10 hb910 hE10 hD10 hon10 HB5 HB9 HSL9 HD5 HE5
      go_wp2_with fail
      refine HON10.out.mono ?_
      rintro e w11 ⟨v11, rfl, M1, ps11, hD11, _, _, _, hN11, hT11⟩
      obtain ⟨hE11, hJ11⟩ := two_kept HE10.out hT11 hN11 HJ5.out
      have hs10 : w.heap.size ≤ w10.heap.size := HB10.out.size
      have hgm1 : M1.g = M0.g := hN11.g
      have HD11 := Lib.hid hD11
      have HE11 := Lib.hid hE11
      have HJ11 := Lib.hid hJ11
      have HO11 : Hid (∀ k ∈ M1.own, w.heap.size ≤ k) := fun k hk => (hN11.own k hk).elim (HO4.out k) fun h => by omega
      have HB11 := Lib.hid (HB10.out.trans (hT11.below hs10 HO4.out))
      have HWB := Lib.hid (fun W => word_any 0 W)
      clear hD11 hE11 hJ11 hN11 hT11 HON10 HB10 HE10 HJ5 HO4
      go_wp2_with fail
      refine (HWB.out _).mono ?_
      rintro e w12 ⟨rfl, hb12⟩
      have HB12 := Lib.hid hb12
      clear hb12 HWB
      go_wp2_with fail
      have hb13 := HB12.out.alloc HB12.out.size (.cells #[.int .i64 0, .int .i64 1, .int .i64 0] 45)
      have hsl13 : SlAt Mb.cells (w12.alloc (.cells #[.int .i64 0, .int .i64 1, .int .i64 0] 45)) (.slice (some ⟨w12.heap.size, 0, none⟩) 1 1) [(⟨0, 1, 0⟩ : Mb)] := slAt_new w12 #[.int .i64 0, .int .i64 1, .int .i64 0] 45 1 1 (0, 0) [(⟨0, 1, 0⟩ : Mb)] rfl rfl (by decide)
      have hw1112 : w11.heap.size ≤ w12.heap.size := HB12.out.size
      generalize hg13 : w12.heap.size = g13 at *
      generalize w12.alloc (.cells #[.int .i64 0, .int .i64 1, .int .i64 0] 45) = w13 at *
      have HB13 := Lib.hid hb13
      have HSL13 := Lib.hid hsl13
      clear hb13 hsl13 hg13 HB12
      refine (lping_any 0 1 0 (some ⟨g13, 0, none⟩) 1 1 w13).mono ?_
      rintro e w14 ⟨rfl, hb14⟩
      have hb1314 := HB13.out.trans (hb14.mono HB13.out.size)
      have hE14 := HE11.out.below hb1314
      have hD14 := HD11.out.below hb1314
      have hon14 := onPing_any N0 y0 HX.out.fy.ok HX.out.fy.num HX.out.fy.left 0 0 (by decide) (by rw [HX.out.fy.self]; decide) (by decide) [(⟨0, 1, 0⟩ : Mb)] (by decide) (by decide) ⟨some ⟨g13, 0, none⟩, 1, 1⟩ w14 (HSL13.out.below Mb.cells_len (by decide) hb14 (Nat.le_refl _)) (fun b hb hm => by
        have h1 : g13 = b := Option.some.inj hb
        have h2 := HE11.out.own_lt b hm
        omega) hE14
      rw [HX.out.fy.self, HX.out.t1] at hon14
      have HON14 := Lib.hid hon14
      have HD14 := Lib.hid hD14
      have HB14 := Lib.hid (HB11.out.trans (hb1314.mono HB11.out.size))
      clear hb14 hb1314 hE14 hD14 hon14 HB11 HB13 HSL13 HD11 HE11
      go_wp2_with fail
      refine HON14.out.mono ?_
      rintro e w15 ⟨v15, rfl, N1, ps15, hE15, _, _, _, hN15, hT15⟩
      have hJr : ∀ k ∈ N0.own, k ∉ M1.own := fun k hk hm => HJ11.out k hm hk
      obtain ⟨hD15, hJ15⟩ := two_kept HD14.out hT15 hN15 hJr
      have hs14 : w.heap.size ≤ w14.heap.size := HB14.out.size
      have hgn1 : N1.g = N0.g := hN15.g
      have HD15 := Lib.hid hD15
      have HE15 := Lib.hid hE15
      have HJ15 : Hid (∀ k ∈ M1.own, k ∉ N1.own) := fun k hk hm => hJ15 k hm hk
      have HP15 : Hid (∀ k ∈ N1.own, w.heap.size ≤ k) := fun k hk => (hN15.own k hk).elim (HP5.out k) fun h => by omega
      have HB15 := Lib.hid (HB14.out.trans (hT15.below hs14 HP5.out))
      have HCX := Lib.hid HX.out.cx
      have HCY := Lib.hid HX.out.cy
      clear hJr hD15 hE15 hJ15 hN15 hT15 HON14 HB14 HD14 HJ11 HP5 HX
      go_wp2_with fail
      go_loopg [11, 12, 13, 14, 16, 59] t (fun gk s11 s12 s13 s14 s16 s59 wr => ∃ (i : Nat) (x y : Det) (M N : DM), s59 = .int .u8 i ∧ i ≤ t ∧ t - i ≤ gk ∧ M.g = M0.g ∧ N.g = N0.g ∧ Hid (Calm 0 1 i x) ∧ Hid (Calm 1 0 i y) ∧ Hid (DetAt wr M x) ∧ Hid (DetAt wr N y) ∧ Hid (∀ k ∈ M.own, k ∉ N.own) ∧ Hid (∀ k ∈ M.own, w.heap.size ≤ k) ∧ Hid (∀ k ∈ N.own, w.heap.size ≤ k) ∧ Hid (Below w.heap.size w wr))
      case atStart => exact ⟨0, x1, y1, M1, N1, rfl, Nat.zero_le _, Nat.le_refl _, hgm1, hgn1, HCX.out, HCY.out, HD15.out, HE15.out, HJ15.out, HO11.out, HP15.out, HB15.out⟩
      case round =>
        obtain ⟨i, x, y, M, N, rfl, hi, hgk, hgM, hgN, HCx, HCy, HD, HE, HJ, HO, HP, HB⟩ := hrel
        clear HCX HCY HD15 HE15 HJ15 HO11 HP15 HB15 hgm1 hgn1
        by_cases hlt : i < t
        · have hltz : (i : Int) < (t : Int) := by omega
          have hi1000 : i ≤ 1000 := by omega
          obtain ⟨lx, ly, X, Y, L, hT, hcx, hcy⟩ := exT hi1000 HCx.out HCy.out
          have htx := tick_stepped M x HCx.out.ok (by rw [HCx.out.clock]; omega) (by rw [HCx.out.num]; omega) wr HD.out
          rw [hT.tx, hgM] at htx
          have HTX := Lib.hid htx
          have HT := Lib.hid hT
          have HCX := Lib.hid hcx
          have HCY := Lib.hid hcy
          have hsr : w.heap.size ≤ wr.heap.size := HB.out.size
          clear htx hT hcx hcy
          go_wp2_with fail
          refine HTX.out.mono ?_
          rintro e v1 ⟨vx, rfl, M2, ps, hD2, hM2, hP2, hA2, hN2, hT2⟩
          obtain ⟨ox, cx, rfl⟩ := slAt_slice hM2.1.at
          obtain ⟨hE2, hJ2⟩ := two_kept HE.out hT2 hN2 HJ.out
          have hgM2 : M2.g = M0.g := hN2.g.trans hgM
          have HO2 : Hid (∀ k ∈ M2.own, w.heap.size ≤ k) := fun k hk => (hN2.own k hk).elim (HO.out k) fun h => by omega
          have HB2 := Lib.hid (HB.out.trans (hT2.below hsr HO.out))
          have hlow2 : wr.heap.size ≤ v1.heap.size := hT2.size
          have hAN : Aside N.own (.slice ox ps.length cx) ps := fun b hb hm => by
            have h1 := (hM2.blk b hb).1
            have h2 := HE.out.own_lt b hm
            omega
          have hpl : ps.length ≤ 1 := by have := HT.out.lx1; rw [← hP2, List.length_map] at this; exact this
          have hty := tick_stepped N y HCy.out.ok (by rw [HCy.out.clock]; omega) (by rw [HCy.out.num]; omega) v1 hE2
          rw [HT.out.ty, hgN] at hty
          have HTY := Lib.hid hty
          have HD2 := Lib.hid hD2
          have HJ2 := Lib.hid hJ2
          have HM2 := Lib.hid hM2
          have HP2 := Lib.hid hP2
          have HA2 := Lib.hid hA2
          have HAN := Lib.hid hAN
          have HPL := Lib.hid hpl
          clear hty hD2 hE2 hJ2 hM2 hP2 hA2 hAN hN2 hT2 hpl HTX HD HE HJ HO HB HCx HCy
          go_wp2_with fail
          refine HTY.out.mono ?_
          rintro e v2 ⟨vy, rfl, N2, qs, hE3, hM3, hP3, hA3, hN3, hT3⟩
          obtain ⟨oy, cy, rfl⟩ := slAt_slice hM3.1.at
          have hJr : ∀ k ∈ N.own, k ∉ M2.own := fun k hk hm => HJ2.out k hm hk
          obtain ⟨hD3, hJ3⟩ := two_kept HD2.out hT3 hN3 hJr
          have hgN3 : N2.g = N0.g := hN3.g.trans hgN
          have hs1 : w.heap.size ≤ v1.heap.size := HB2.out.size
          have HP3' : Hid (∀ k ∈ N2.own, w.heap.size ≤ k) := fun k hk => (hN3.own k hk).elim (HP.out k) fun h => by omega
          have HB3 := Lib.hid (HB2.out.trans (hT3.below hs1 HP.out))
          have hlow3 : v1.heap.size ≤ v2.heap.size := hT3.size
          have hM2' := HM2.out.touch hT3 HAN.out
          have hAN3 : Aside N2.own (.slice ox ps.length cx) ps := fun b hb hm => by
            rcases hN3.own b hm with h | h
            · exact HAN.out b hb h
            · have := (HM2.out.blk b hb).2; omega
          have hAM3 : Aside M2.own (.slice oy qs.length cy) qs := fun b hb hm => by
            have h1 := (hM3.blk b hb).1
            have h2 := HD2.out.own_lt b hm
            omega
          have hql : qs.length ≤ 1 := by have := HT.out.ly1; rw [← hP3, List.length_map] at this; exact this
          have hpl := HPL.out
          have HD3 := Lib.hid hD3
          have HE3 := Lib.hid hE3
          have HJ3 : Hid (∀ k ∈ M2.own, k ∉ N2.own) := fun k hk hm => hJ3 k hm hk
          have HM3 := Lib.hid hM3
          have HM2' := Lib.hid hM2'
          have HP3 := Lib.hid hP3
          have HA3 := Lib.hid hA3
          have HAN3 := Lib.hid hAN3
          have HAM3 := Lib.hid hAM3
          clear hJr hD3 hE3 hJ3 hM3 hM2' hP3 hA3 hAN3 hAM3 hN3 hT3 HTY HD2 HJ2 HM2 HAN HP HB2
          go_wp2_with (at_builtin; refine wpList_app scells 16 scells_len (by decide) scells_one _ rfl _ _ 34 rfl w.heap.size 42 _ 176 Tryz.underlying34 infoMsg rfl _ ps rfl ?h1 _ qs rfl ?h2 ?h3 ?h4 ?h5 ?_)
          case h1 => exact (HM2'.out.lower hsr).1
          case h2 => exact HM3.out.1.at
          case h3 => omega
          case h4 => omega
          case h5 => omega
          intro vz v3 hown3 hg3 hv3
          have hmm := msgs_app (HM2'.out.lower hsr) (fun p hp => ((HM3.out.2 p hp).lower (by omega))) hown3 hg3
          have hD4 := det_grown HD3.out hg3 fun b hb => HA2.out b (.inl hb)
          have hE4 := det_grown HE3.out hg3 fun b hb => HAN3.out b (.inl hb)
          have hAM4 := aside_app HA2.out (qs := qs) (fun b hb => HAM3.out b (.inr hb)) hv3 HD3.out.own_lt
          have hAN4 := aside_app HAN3.out (qs := qs) (fun b hb => HA3.out b (.inr hb)) hv3 HE3.out.own_lt
          have hB4 := HB3.out.grown hg3 HB3.out.size fun k hk => (HM2'.out.lower hsr |>.blk k (.inl hk)).1
          have hPP : (ps ++ qs).map (·.2) = L 0 := by rw [List.map_append, HP2.out, HP3.out, HT.out.l0]
          obtain ⟨oz, cz, rfl⟩ := slAt_slice hown3.at
          generalize ps ++ qs = rs at *
          have HM4 := Lib.hid hmm
          have HD4 := Lib.hid hD4
          have HE4 := Lib.hid hE4
          have HAM4 := Lib.hid hAM4
          have HAN4 := Lib.hid hAN4
          have HB4 := Lib.hid hB4
          have HPP := Lib.hid hPP
          clear hmm hD4 hE4 hAM4 hAN4 hB4 hPP hown3 hg3 hv3 HM2' HM3 HA2 HA3 HAN3 HAM3 HD3 HE3 HB3 HP2 HP3 HPL hpl hql
          go_wp2_with fail
          go_loopg [11, 12, 13, 14] 4 (fun gk s11 s12 s13 s14 wr => ∃ (k : Nat) (M N : DM) (oq : Option Addr) (cq : Nat) (ps : List PSent), s11 = .slice oq ps.length cq ∧ s12 = .int .i64 k ∧ k ≤ 4 ∧ 4 - k ≤ gk ∧ M.g = M0.g ∧ N.g = N0.g ∧ Hid (DetAt wr M (X k)) ∧ Hid (DetAt wr N (Y k)) ∧ Hid (∀ k ∈ M.own, k ∉ N.own) ∧ Hid (∀ k ∈ M.own, w.heap.size ≤ k) ∧ Hid (∀ k ∈ N.own, w.heap.size ≤ k) ∧ Hid (MsgsAt w.heap.size wr (.slice oq ps.length cq) ps) ∧ Hid (ps.map (·.2) = L k) ∧ Hid (Aside M.own (.slice oq ps.length cq) ps) ∧ Hid (Aside N.own (.slice oq ps.length cq) ps) ∧ Hid (Below w.heap.size w wr))
          case atStart => exact ⟨0, M2, N2, oz, cz, rs, rfl, rfl, Nat.zero_le _, Nat.le_refl _, hgM2, hgN3, HD4.out, HE4.out, HJ3.out, HO2.out, HP3'.out, HM4.out, HPP.out, HAM4.out, HAN4.out, HB4.out⟩
          case round =>
            obtain ⟨k, M, N, oq, cq, ps, rfl, rfl, hk, hgk2, hgM, hgN, HD, HE, HJ, HO, HP, HM, HPM, HAM, HAN, HB⟩ := hrel
            clear HD4 HE4 HJ3 HO2 HP3' HM4 HPP HAM4 HAN4 HB4 hgM2 hgN3
            by_cases hk4 : k < 4
            · obtain ⟨m, rest, o, hTn⟩ := HT.out.turn k hk4
              have hpm := HPM.out
              rw [hTn.L] at hpm
              cases ps with
              | nil => cases hpm
              | cons p ps' =>
                obtain ⟨⟨ha, hn, hc'⟩, sd⟩ := p
                simp only [List.map_cons, List.cons.injEq] at hpm
                obtain ⟨rfl, hrest⟩ := hpm
                have hl2 : ps'.length + 1 ≤ 2 := by
                  have h1 := HT.out.len k hk
                  rw [← HPM.out, List.length_map, List.length_cons] at h1
                  exact h1
                have hsl := HM.out.1.at
                obtain ⟨bo, off, hbo⟩ := hsl.plain scells_len (by decide) (by intro e; cases e)
                subst hbo
                have hld := msg_load hsl (i := 0) (Nat.zero_lt_succ _)
                have hcap : ps'.length + 1 ≤ cq := by
                  obtain ⟨o1, q1, e1, e2, _⟩ := hsl
                  simp only [Value.slice.injEq] at e1
                  rw [List.length_cons] at e2
                  omega
                have hmb := (HM.out.2 _ (List.mem_cons_self ..)).at
                rw [show off + 0 * 16 = off by omega, show (scells ((⟨(⟨ha, hn, hc'⟩ : Hdr), sd⟩ :: ps' : List PSent)[0])).toArray = #[.int .i64 sd.kind, .int .i64 sd.frm, .int .i64 sd.to_, .int .i64 sd.seq, .int .i64 sd.node, .int .i64 0, .int .i64 0, .int .i64 0, .int .i64 0, .int .i64 0, .int .i64 0, .int .i64 0, .int .i64 0, .slice none 0 0, .slice none 0 0, .slice ha hn hc'] from rfl] at hld
                have hn0 : (0 : Int) < (ps'.length : Int) + 1 := by omega
                have hk50 : ¬ (50 : Int) < (k : Int) := by omega
                have hcq0 : ¬ cq = 0 := by omega
                have hc1 : 1 ≤ cq := by omega
                have hz1 : (1 : Int) ≤ (ps'.length : Int) + 1 := by omega
                have HLD := Lib.hid hld
                have HTN := Lib.hid hTn
                have HRS := Lib.hid hrest
                have HMB := Lib.hid hmb
                have HSL := Lib.hid hsl
                have HL2 := Lib.hid hl2
                rw [List.length_cons]
                clear hld hTn hrest hmb hsl hl2 HPM
                by_cases hcq1 : cq = 1
                · have hps0 : ps' = [] := List.eq_nil_of_length_eq_zero (by omega)
                  have HPS0 := Lib.hid hps0
                  clear hps0
                  go_wp2_with (first | (refine wpList_loadAgg _ rfl 42 _ rfl 16 (by kernel_rfl) (by kernel_rfl) ⟨bo, off, none⟩ rfl _ HLD.out ?_) | (at_builtin; refine wpList_app scells 16 scells_len (by decide) scells_one _ rfl _ _ 34 rfl (wr.heap.size + 1) 42 _ 176 Tryz.underlying34 infoMsg rfl _ [] rfl ?h1 _ ps' rfl ?h2 ?h3 ?h4 ?h5 ?_))
                  case h1 => exact owns_made0 _ _ (by simp)
                  case h2 => rw [HPS0.out]; exact ⟨_, _, rfl, Nat.zero_le _, fun _ => rfl, fun a _ j u hu => by simp at hu⟩
                  case h3 => have := HL2.out; simp; omega
                  case h4 => have := HL2.out; simp; omega
                  intro v5 w5 hown5 hg5 hv5
                  have hb0 : Below wr.heap.size wr ((wr.alloc (.cells #[.int .i64 sd.kind, .int .i64 sd.frm, .int .i64 sd.to_, .int .i64 sd.seq, .int .i64 sd.node, .int .i64 0, .int .i64 0, .int .i64 0, .int .i64 0, .int .i64 0, .int .i64 0, .int .i64 0, .int .i64 0, .slice none 0 0, .slice none 0 0, .slice ha hn hc'] 42)).alloc (.cells #[] 42)) := ((Below.refl _ _).alloc (Nat.le_refl _) _).alloc (by simp) _
                  have hb5 := hb0.grown hg5 (by simp only [World.size_alloc]; omega) (fun k hk => by have := Option.some.inj (show some (wr.heap.size + 1) = some k from hk); omega)
                  have hrow5 : w5.heap[wr.heap.size]? = some (.cells #[.int .i64 sd.kind, .int .i64 sd.frm, .int .i64 sd.to_, .int .i64 sd.seq, .int .i64 sd.node, .int .i64 0, .int .i64 0, .int .i64 0, .int .i64 0, .int .i64 0, .int .i64 0, .int .i64 0, .int .i64 0, .slice none 0 0, .slice none 0 0, .slice ha hn hc'] 42) := (hg5.block wr.heap.size (by simp only [World.size_alloc]; omega) (fun e => by have := Option.some.inj (show some wr.heap.size = some (wr.heap.size + 1) from e); omega)).trans ((Below.heap_alloc _ _ _ (by simp)).trans (heap_alloc_new wr _))
                  have a2 : w5.cell? ⟨wr.heap.size, 2, none⟩ = some (.int .i64 sd.to_) := cell_of_row w5 wr.heap.size 2 _ _ _ hrow5
                  obtain ⟨o5, c5, rfl⟩ := slAt_slice hown5.at
                  have hvv : ∀ b, (Value.slice o5 ps'.length c5).ownBlock = some b → wr.heap.size ≤ b := fun b hb => by have := (hown5.lt b hb).1; omega
                  have hsr : w.heap.size ≤ wr.heap.size := HB.out.size
                  have HM5 : Hid (MsgsAt w.heap.size w5 (.slice o5 ps'.length c5) ps') := ⟨hown5.lower (by omega), fun p hp => (HM.out.2 p (List.mem_cons_of_mem _ hp)).below hb5 (Nat.le_refl _)⟩
                  have HD5 := Lib.hid (HD.out.below hb5)
                  have HE5 := Lib.hid (HE.out.below hb5)
                  have HAM5 : Hid (Aside M.own (.slice o5 ps'.length c5) ps') := fun b hb hm => by
                    rcases hb with hb | ⟨p, hp, hb⟩
                    · have h1 := hvv b hb; have h2 := HD.out.own_lt b hm; omega
                    · exact HAM.out b (.inr ⟨p, List.mem_cons_of_mem _ hp, hb⟩) hm
                  have HAN5 : Hid (Aside N.own (.slice o5 ps'.length c5) ps') := fun b hb hm => by
                    rcases hb with hb | ⟨p, hp, hb⟩
                    · have h1 := hvv b hb; have h2 := HE.out.own_lt b hm; omega
                    · exact HAN.out b (.inr ⟨p, List.mem_cons_of_mem _ hp, hb⟩) hm
                  have HMB5 := Lib.hid (HMB.out.below Mb.cells_len (by decide) hb5 (Nat.le_refl _))
                  have HB5 := Lib.hid (HB.out.trans (hb5.mono HB.out.size))
                  have HWL := Lib.hid (load_whole hrow5 rfl)
                  clear hb0 hb5 hrow5 hown5 hg5 hv5 hvv HLD HSL HMB HM HB hcap hcq0 hc1 hz1 hn0 hk50 hcq1
                  rcases HTN.out.step with ⟨hto, hst, hq⟩ | ⟨hto, hst, hq⟩
                  · have htb : (sd.to_ == 0) = true := by rw [hto]; rfl
                    have hon := onSent_any M (X k) (HT.out.fx k hk).ok (HT.out.fx k hk).num (HT.out.fx k hk).left sd ⟨ha, hn, hc'⟩ (HTN.out.right _) (hto.trans (HT.out.fx k hk).self.symm) HTN.out.small w5 HMB5.out (fun b hb => HAM.out b (.inr ⟨_, List.mem_cons_self .., hb⟩)) HD5.out
                    rw [hgM, hst] at hon
                    have HON := Lib.hid hon
                    have HQE := Lib.hid hq
                    clear hto hst hq hon
                    go_wp2_with (refine wpList_loadAgg _ rfl 42 _ rfl 16 (by kernel_rfl) (by kernel_rfl) ⟨wr.heap.size, 0, none⟩ rfl _ HWL.out ?_)
                    refine HON.out.mono ?_
                    rintro e w6 ⟨v6, rfl, P2, qs, hD6, hM6, hP6, hA6, hN6, hT6⟩
                    obtain ⟨o6, c6, rfl⟩ := slAt_slice hM6.1.at
                    obtain ⟨hE6, hJ6⟩ := two_kept HE5.out hT6 hN6 (HJ.out)
                    have hgP2 : P2.g = M0.g := hN6.g.trans hgM
                    have hs5 : w.heap.size ≤ w5.heap.size := HB5.out.size
                    have HOP7 : Hid (∀ k ∈ P2.own, w.heap.size ≤ k) := fun k hk => (hN6.own k hk).elim (HO.out k) fun h => by omega
                    have HB6 := Lib.hid (HB5.out.trans (hT6.below hs5 HO.out))
                    have hlow6 : w5.heap.size ≤ w6.heap.size := hT6.size
                    have hM5' := HM5.out.touch hT6 HAM5.out
                    have hAP6 : Aside P2.own (.slice o5 ps'.length c5) ps' := fun b hb hm => by
                      rcases hN6.own b hm with h | h
                      · exact HAM5.out b hb h
                      · have := (HM5.out.blk b hb).2; omega
                    have hAQ6 : ∀ b, (∃ p ∈ qs, p.1.val.ownBlock = some b) → b ∉ N.own := fun b hb hm => by
                      have h1 := (hM6.blk b (.inr hb)).1
                      have h2 := HE5.out.own_lt b hm
                      omega
                    have hql : ps'.length + qs.length ≤ 2 := by
                      have h1 := HT.out.len (k + 1) (by omega)
                      rw [HTN.out.L', List.length_append, ← HRS.out, ← hP6, List.length_map, List.length_map] at h1
                      exact h1
                    have hPP7 : (ps' ++ qs).map (·.2) = L (k + 1) := by rw [List.map_append, HRS.out, hP6, HTN.out.L']
                    have hE6q : DetAt w6 N (Y (k + 1)) := by rw [HQE.out]; exact hE6
                    have HP6 := Lib.hid hD6
                    have HQ6 := Lib.hid hE6q
                    have HM5' := Lib.hid hM5'
                    have HM6 := Lib.hid hM6
                    have HAP6 := Lib.hid hAP6
                    have HAQ6 := Lib.hid hAQ6
                    have HAP6q := Lib.hid hA6
                    have HJ7 : Hid (∀ k ∈ P2.own, k ∉ N.own) := hJ6
                    have HPP7 := Lib.hid hPP7
                    have HQL := Lib.hid hql
                    clear hD6 hM6 hP6 hA6 hN6 hT6 hE6 hE6q hJ6 hM5' hAP6 hAQ6 hPP7 hql HON HM5 HWL HMB5 HB5
                    go_wp2_with (at_builtin; refine wpList_app scells 16 scells_len (by decide) scells_one _ rfl _ _ 34 rfl w.heap.size 42 _ 176 Tryz.underlying34 infoMsg rfl _ ps' rfl ?g1 _ qs rfl ?g2 ?g3 ?g4 ?g5 ?_)
                    case g1 => exact HM5'.out.1
                    case g2 => exact HM6.out.1.at
                    case g3 => have := HQL.out; omega
                    case g4 => have := HQL.out; omega
                    case g5 => omega
                    intro v7 w7 hown7 hg7 hv7
                    have hmm := msgs_app HM5'.out (fun p hp => ((HM6.out.2 p hp).lower (by omega))) hown7 hg7
                    have HP7 := Lib.hid (det_grown HP6.out hg7 fun b hb => HAP6.out b (.inl hb))
                    have HQ7 := Lib.hid (det_grown HQ6.out hg7 fun b hb => HAN5.out b (.inl hb))
                    have HAP7 := Lib.hid (aside_app HAP6.out (qs := qs) (fun b hb => HAP6q.out b (.inr hb)) hv7 HP6.out.own_lt)
                    have HAQ7 := Lib.hid (aside_app HAN5.out (qs := qs) HAQ6.out hv7 HQ6.out.own_lt)
                    have HB7 := Lib.hid (HB6.out.grown hg7 HB6.out.size fun k hk => (HM5'.out.blk k (.inl hk)).1)
                    obtain ⟨o7, c7, rfl⟩ := slAt_slice hown7.at
                    have HM7 := Lib.hid hmm
                    have wk1 : IntKind.i64.wrap ((k : Int) + 1) = (k : Int) + 1 := by rw [IntKind.wrap_i64]; omega
                    clear hmm hown7 hg7 hv7
                    generalize ps' ++ qs = rs2 at *
                    go_wp2_with fail
                    go_roundg (4 - (k + 1))
                    case measure => omega
                    case rel => exact ⟨k + 1, P2, N, o7, c7, rs2, rfl, by go_num, by omega, Nat.le_refl _, hgP2, hgN, HP7.out, HQ7.out, HJ7.out, HOP7.out, HP.out, HM7.out, HPP7.out, HAP7.out, HAQ7.out, HB7.out⟩
                  · have htb : (sd.to_ == 0) = false := by rw [hto]; rfl
                    have hon := onSent_any N (Y k) (HT.out.fy k hk).ok (HT.out.fy k hk).num (HT.out.fy k hk).left sd ⟨ha, hn, hc'⟩ (HTN.out.right _) (hto.trans (HT.out.fy k hk).self.symm) HTN.out.small w5 HMB5.out (fun b hb => HAN.out b (.inr ⟨_, List.mem_cons_self .., hb⟩)) HE5.out
                    rw [hgN, hst] at hon
                    have HON := Lib.hid hon
                    have HQE := Lib.hid hq
                    clear hto hst hq hon
                    go_wp2_with (refine wpList_loadAgg _ rfl 42 _ rfl 16 (by kernel_rfl) (by kernel_rfl) ⟨wr.heap.size, 0, none⟩ rfl _ HWL.out ?_)
                    refine HON.out.mono ?_
                    rintro e w6 ⟨v6, rfl, P2, qs, hD6, hM6, hP6, hA6, hN6, hT6⟩
                    obtain ⟨o6, c6, rfl⟩ := slAt_slice hM6.1.at
                    obtain ⟨hE6, hJ6⟩ := two_kept HD5.out hT6 hN6 (fun k hk hm => HJ.out k hm hk)
                    have hgP2 : P2.g = N0.g := hN6.g.trans hgN
                    have hs5 : w.heap.size ≤ w5.heap.size := HB5.out.size
                    have HOP7 : Hid (∀ k ∈ P2.own, w.heap.size ≤ k) := fun k hk => (hN6.own k hk).elim (HP.out k) fun h => by omega
                    have HB6 := Lib.hid (HB5.out.trans (hT6.below hs5 HP.out))
                    have hlow6 : w5.heap.size ≤ w6.heap.size := hT6.size
                    have hM5' := HM5.out.touch hT6 HAN5.out
                    have hAP6 : Aside P2.own (.slice o5 ps'.length c5) ps' := fun b hb hm => by
                      rcases hN6.own b hm with h | h
                      · exact HAN5.out b hb h
                      · have := (HM5.out.blk b hb).2; omega
                    have hAQ6 : ∀ b, (∃ p ∈ qs, p.1.val.ownBlock = some b) → b ∉ M.own := fun b hb hm => by
                      have h1 := (hM6.blk b (.inr hb)).1
                      have h2 := HD5.out.own_lt b hm
                      omega
                    have hql : ps'.length + qs.length ≤ 2 := by
                      have h1 := HT.out.len (k + 1) (by omega)
                      rw [HTN.out.L', List.length_append, ← HRS.out, ← hP6, List.length_map, List.length_map] at h1
                      exact h1
                    have hPP7 : (ps' ++ qs).map (·.2) = L (k + 1) := by rw [List.map_append, HRS.out, hP6, HTN.out.L']
                    have hE6q : DetAt w6 M (X (k + 1)) := by rw [HQE.out]; exact hE6
                    have HP6 := Lib.hid hD6
                    have HQ6 := Lib.hid hE6q
                    have HM5' := Lib.hid hM5'
                    have HM6 := Lib.hid hM6
                    have HAP6 := Lib.hid hAP6
                    have HAQ6 := Lib.hid hAQ6
                    have HAP6q := Lib.hid hA6
                    have HJ7 : Hid (∀ k ∈ M.own, k ∉ P2.own) := fun k hk hm => hJ6 k hm hk
                    have HPP7 := Lib.hid hPP7
                    have HQL := Lib.hid hql
                    clear hD6 hM6 hP6 hA6 hN6 hT6 hE6 hE6q hJ6 hM5' hAP6 hAQ6 hPP7 hql HON HM5 HWL HMB5 HB5
                    go_wp2_with (at_builtin; refine wpList_app scells 16 scells_len (by decide) scells_one _ rfl _ _ 34 rfl w.heap.size 42 _ 176 Tryz.underlying34 infoMsg rfl _ ps' rfl ?g1 _ qs rfl ?g2 ?g3 ?g4 ?g5 ?_)
                    case g1 => exact HM5'.out.1
                    case g2 => exact HM6.out.1.at
                    case g3 => have := HQL.out; omega
                    case g4 => have := HQL.out; omega
                    case g5 => omega
                    intro v7 w7 hown7 hg7 hv7
                    have hmm := msgs_app HM5'.out (fun p hp => ((HM6.out.2 p hp).lower (by omega))) hown7 hg7
                    have HP7 := Lib.hid (det_grown HP6.out hg7 fun b hb => HAP6.out b (.inl hb))
                    have HQ7 := Lib.hid (det_grown HQ6.out hg7 fun b hb => HAM5.out b (.inl hb))
                    have HAP7 := Lib.hid (aside_app HAP6.out (qs := qs) (fun b hb => HAP6q.out b (.inr hb)) hv7 HP6.out.own_lt)
                    have HAQ7 := Lib.hid (aside_app HAM5.out (qs := qs) HAQ6.out hv7 HQ6.out.own_lt)
                    have HB7 := Lib.hid (HB6.out.grown hg7 HB6.out.size fun k hk => (HM5'.out.blk k (.inl hk)).1)
                    obtain ⟨o7, c7, rfl⟩ := slAt_slice hown7.at
                    have HM7 := Lib.hid hmm
                    have wk1 : IntKind.i64.wrap ((k : Int) + 1) = (k : Int) + 1 := by rw [IntKind.wrap_i64]; omega
                    clear hmm hown7 hg7 hv7
                    generalize ps' ++ qs = rs2 at *
                    go_wp2_with fail
                    go_roundg (4 - (k + 1))
                    case measure => omega
                    case rel => exact ⟨k + 1, M, P2, o7, c7, rs2, rfl, by go_num, by omega, Nat.le_refl _, hgM, hgP2, HQ7.out, HP7.out, HJ7.out, HO.out, HOP7.out, HM7.out, HPP7.out, HAQ7.out, HAP7.out, HB7.out⟩
                · skip
                  go_wp2_with (first | (refine wpList_loadAgg _ rfl 42 _ rfl 16 (by kernel_rfl) (by kernel_rfl) ⟨bo, off, none⟩ rfl _ HLD.out ?_) | (at_builtin; refine wpList_app scells 16 scells_len (by decide) scells_one _ rfl _ _ 34 rfl (wr.heap.size + 1) 42 _ 176 Tryz.underlying34 infoMsg rfl _ [] rfl ?h1 _ ps' rfl ?h2 ?h3 ?h4 ?h5 ?_))
                  case h1 => exact owns_made0 _ _ (by simp)
                  case h2 =>
                    have h1 := HSL.out.sub scells_len (by decide) 1 (ps'.length + 1) (by omega) (by simp)
                    unfold sliced at h1
                    rw [if_neg hcq1] at h1
                    have hb0 : Below wr.heap.size wr ((wr.alloc (.cells #[.int .i64 sd.kind, .int .i64 sd.frm, .int .i64 sd.to_, .int .i64 sd.seq, .int .i64 sd.node, .int .i64 0, .int .i64 0, .int .i64 0, .int .i64 0, .int .i64 0, .int .i64 0, .int .i64 0, .int .i64 0, .slice none 0 0, .slice none 0 0, .slice ha hn hc'] 42)).alloc (.cells #[] 42)) := ((Below.refl _ _).alloc (Nat.le_refl _) _).alloc (by simp) _
                    have h2 := h1.below scells_len (by decide) hb0 (Nat.le_refl _)
                    simpa [Addr.add_lit] using h2
                  case h3 => have := HL2.out; simp; omega
                  case h4 => have := HL2.out; simp; omega
                  intro v5 w5 hown5 hg5 hv5
                  have hb0 : Below wr.heap.size wr ((wr.alloc (.cells #[.int .i64 sd.kind, .int .i64 sd.frm, .int .i64 sd.to_, .int .i64 sd.seq, .int .i64 sd.node, .int .i64 0, .int .i64 0, .int .i64 0, .int .i64 0, .int .i64 0, .int .i64 0, .int .i64 0, .int .i64 0, .slice none 0 0, .slice none 0 0, .slice ha hn hc'] 42)).alloc (.cells #[] 42)) := ((Below.refl _ _).alloc (Nat.le_refl _) _).alloc (by simp) _
                  have hb5 := hb0.grown hg5 (by simp only [World.size_alloc]; omega) (fun k hk => by have := Option.some.inj (show some (wr.heap.size + 1) = some k from hk); omega)
                  have hrow5 : w5.heap[wr.heap.size]? = some (.cells #[.int .i64 sd.kind, .int .i64 sd.frm, .int .i64 sd.to_, .int .i64 sd.seq, .int .i64 sd.node, .int .i64 0, .int .i64 0, .int .i64 0, .int .i64 0, .int .i64 0, .int .i64 0, .int .i64 0, .int .i64 0, .slice none 0 0, .slice none 0 0, .slice ha hn hc'] 42) := (hg5.block wr.heap.size (by simp only [World.size_alloc]; omega) (fun e => by have := Option.some.inj (show some wr.heap.size = some (wr.heap.size + 1) from e); omega)).trans ((Below.heap_alloc _ _ _ (by simp)).trans (heap_alloc_new wr _))
                  have a2 : w5.cell? ⟨wr.heap.size, 2, none⟩ = some (.int .i64 sd.to_) := cell_of_row w5 wr.heap.size 2 _ _ _ hrow5
                  obtain ⟨o5, c5, rfl⟩ := slAt_slice hown5.at
                  have hvv : ∀ b, (Value.slice o5 ps'.length c5).ownBlock = some b → wr.heap.size ≤ b := fun b hb => by have := (hown5.lt b hb).1; omega
                  have hsr : w.heap.size ≤ wr.heap.size := HB.out.size
                  have HM5 : Hid (MsgsAt w.heap.size w5 (.slice o5 ps'.length c5) ps') := ⟨hown5.lower (by omega), fun p hp => (HM.out.2 p (List.mem_cons_of_mem _ hp)).below hb5 (Nat.le_refl _)⟩
                  have HD5 := Lib.hid (HD.out.below hb5)
                  have HE5 := Lib.hid (HE.out.below hb5)
                  have HAM5 : Hid (Aside M.own (.slice o5 ps'.length c5) ps') := fun b hb hm => by
                    rcases hb with hb | ⟨p, hp, hb⟩
                    · have h1 := hvv b hb; have h2 := HD.out.own_lt b hm; omega
                    · exact HAM.out b (.inr ⟨p, List.mem_cons_of_mem _ hp, hb⟩) hm
                  have HAN5 : Hid (Aside N.own (.slice o5 ps'.length c5) ps') := fun b hb hm => by
                    rcases hb with hb | ⟨p, hp, hb⟩
                    · have h1 := hvv b hb; have h2 := HE.out.own_lt b hm; omega
                    · exact HAN.out b (.inr ⟨p, List.mem_cons_of_mem _ hp, hb⟩) hm
                  have HMB5 := Lib.hid (HMB.out.below Mb.cells_len (by decide) hb5 (Nat.le_refl _))
                  have HB5 := Lib.hid (HB.out.trans (hb5.mono HB.out.size))
                  have HWL := Lib.hid (load_whole hrow5 rfl)
                  clear hb0 hb5 hrow5 hown5 hg5 hv5 hvv HLD HSL HMB HM HB hcap hcq0 hc1 hz1 hn0 hk50 hcq1
                  rcases HTN.out.step with ⟨hto, hst, hq⟩ | ⟨hto, hst, hq⟩
                  · have htb : (sd.to_ == 0) = true := by rw [hto]; rfl
                    have hon := onSent_any M (X k) (HT.out.fx k hk).ok (HT.out.fx k hk).num (HT.out.fx k hk).left sd ⟨ha, hn, hc'⟩ (HTN.out.right _) (hto.trans (HT.out.fx k hk).self.symm) HTN.out.small w5 HMB5.out (fun b hb => HAM.out b (.inr ⟨_, List.mem_cons_self .., hb⟩)) HD5.out
                    rw [hgM, hst] at hon
                    have HON := Lib.hid hon
                    have HQE := Lib.hid hq
                    clear hto hst hq hon
                    go_wp2_with (refine wpList_loadAgg _ rfl 42 _ rfl 16 (by kernel_rfl) (by kernel_rfl) ⟨wr.heap.size, 0, none⟩ rfl _ HWL.out ?_)
                    refine HON.out.mono ?_
                    rintro e w6 ⟨v6, rfl, P2, qs, hD6, hM6, hP6, hA6, hN6, hT6⟩
                    obtain ⟨o6, c6, rfl⟩ := slAt_slice hM6.1.at
                    obtain ⟨hE6, hJ6⟩ := two_kept HE5.out hT6 hN6 (HJ.out)
                    have hgP2 : P2.g = M0.g := hN6.g.trans hgM
                    have hs5 : w.heap.size ≤ w5.heap.size := HB5.out.size
                    have HOP7 : Hid (∀ k ∈ P2.own, w.heap.size ≤ k) := fun k hk => (hN6.own k hk).elim (HO.out k) fun h => by omega
                    have HB6 := Lib.hid (HB5.out.trans (hT6.below hs5 HO.out))
                    have hlow6 : w5.heap.size ≤ w6.heap.size := hT6.size
                    have hM5' := HM5.out.touch hT6 HAM5.out
                    have hAP6 : Aside P2.own (.slice o5 ps'.length c5) ps' := fun b hb hm => by
                      rcases hN6.own b hm with h | h
                      · exact HAM5.out b hb h
                      · have := (HM5.out.blk b hb).2; omega
                    have hAQ6 : ∀ b, (∃ p ∈ qs, p.1.val.ownBlock = some b) → b ∉ N.own := fun b hb hm => by
                      have h1 := (hM6.blk b (.inr hb)).1
                      have h2 := HE5.out.own_lt b hm
                      omega
                    have hql : ps'.length + qs.length ≤ 2 := by
                      have h1 := HT.out.len (k + 1) (by omega)
                      rw [HTN.out.L', List.length_append, ← HRS.out, ← hP6, List.length_map, List.length_map] at h1
                      exact h1
                    have hPP7 : (ps' ++ qs).map (·.2) = L (k + 1) := by rw [List.map_append, HRS.out, hP6, HTN.out.L']
                    have hE6q : DetAt w6 N (Y (k + 1)) := by rw [HQE.out]; exact hE6
                    have HP6 := Lib.hid hD6
                    have HQ6 := Lib.hid hE6q
                    have HM5' := Lib.hid hM5'
                    have HM6 := Lib.hid hM6
                    have HAP6 := Lib.hid hAP6
                    have HAQ6 := Lib.hid hAQ6
                    have HAP6q := Lib.hid hA6
                    have HJ7 : Hid (∀ k ∈ P2.own, k ∉ N.own) := hJ6
                    have HPP7 := Lib.hid hPP7
                    have HQL := Lib.hid hql
                    clear hD6 hM6 hP6 hA6 hN6 hT6 hE6 hE6q hJ6 hM5' hAP6 hAQ6 hPP7 hql HON HM5 HWL HMB5 HB5
                    go_wp2_with (at_builtin; refine wpList_app scells 16 scells_len (by decide) scells_one _ rfl _ _ 34 rfl w.heap.size 42 _ 176 Tryz.underlying34 infoMsg rfl _ ps' rfl ?g1 _ qs rfl ?g2 ?g3 ?g4 ?g5 ?_)
                    case g1 => exact HM5'.out.1
                    case g2 => exact HM6.out.1.at
                    case g3 => have := HQL.out; omega
                    case g4 => have := HQL.out; omega
                    case g5 => omega
                    intro v7 w7 hown7 hg7 hv7
                    have hmm := msgs_app HM5'.out (fun p hp => ((HM6.out.2 p hp).lower (by omega))) hown7 hg7
                    have HP7 := Lib.hid (det_grown HP6.out hg7 fun b hb => HAP6.out b (.inl hb))
                    have HQ7 := Lib.hid (det_grown HQ6.out hg7 fun b hb => HAN5.out b (.inl hb))
                    have HAP7 := Lib.hid (aside_app HAP6.out (qs := qs) (fun b hb => HAP6q.out b (.inr hb)) hv7 HP6.out.own_lt)
                    have HAQ7 := Lib.hid (aside_app HAN5.out (qs := qs) HAQ6.out hv7 HQ6.out.own_lt)
                    have HB7 := Lib.hid (HB6.out.grown hg7 HB6.out.size fun k hk => (HM5'.out.blk k (.inl hk)).1)
                    obtain ⟨o7, c7, rfl⟩ := slAt_slice hown7.at
                    have HM7 := Lib.hid hmm
                    have wk1 : IntKind.i64.wrap ((k : Int) + 1) = (k : Int) + 1 := by rw [IntKind.wrap_i64]; omega
                    clear hmm hown7 hg7 hv7
                    generalize ps' ++ qs = rs2 at *
                    go_wp2_with fail
                    go_roundg (4 - (k + 1))
                    case measure => omega
                    case rel => exact ⟨k + 1, P2, N, o7, c7, rs2, rfl, by go_num, by omega, Nat.le_refl _, hgP2, hgN, HP7.out, HQ7.out, HJ7.out, HOP7.out, HP.out, HM7.out, HPP7.out, HAP7.out, HAQ7.out, HB7.out⟩
                  · have htb : (sd.to_ == 0) = false := by rw [hto]; rfl
                    have hon := onSent_any N (Y k) (HT.out.fy k hk).ok (HT.out.fy k hk).num (HT.out.fy k hk).left sd ⟨ha, hn, hc'⟩ (HTN.out.right _) (hto.trans (HT.out.fy k hk).self.symm) HTN.out.small w5 HMB5.out (fun b hb => HAN.out b (.inr ⟨_, List.mem_cons_self .., hb⟩)) HE5.out
                    rw [hgN, hst] at hon
                    have HON := Lib.hid hon
                    have HQE := Lib.hid hq
                    clear hto hst hq hon
                    go_wp2_with (refine wpList_loadAgg _ rfl 42 _ rfl 16 (by kernel_rfl) (by kernel_rfl) ⟨wr.heap.size, 0, none⟩ rfl _ HWL.out ?_)
                    refine HON.out.mono ?_
                    rintro e w6 ⟨v6, rfl, P2, qs, hD6, hM6, hP6, hA6, hN6, hT6⟩
                    obtain ⟨o6, c6, rfl⟩ := slAt_slice hM6.1.at
                    obtain ⟨hE6, hJ6⟩ := two_kept HD5.out hT6 hN6 (fun k hk hm => HJ.out k hm hk)
                    have hgP2 : P2.g = N0.g := hN6.g.trans hgN
                    have hs5 : w.heap.size ≤ w5.heap.size := HB5.out.size
                    have HOP7 : Hid (∀ k ∈ P2.own, w.heap.size ≤ k) := fun k hk => (hN6.own k hk).elim (HP.out k) fun h => by omega
                    have HB6 := Lib.hid (HB5.out.trans (hT6.below hs5 HP.out))
                    have hlow6 : w5.heap.size ≤ w6.heap.size := hT6.size
                    have hM5' := HM5.out.touch hT6 HAN5.out
                    have hAP6 : Aside P2.own (.slice o5 ps'.length c5) ps' := fun b hb hm => by
                      rcases hN6.own b hm with h | h
                      · exact HAN5.out b hb h
                      · have := (HM5.out.blk b hb).2; omega
                    have hAQ6 : ∀ b, (∃ p ∈ qs, p.1.val.ownBlock = some b) → b ∉ M.own := fun b hb hm => by
                      have h1 := (hM6.blk b (.inr hb)).1
                      have h2 := HD5.out.own_lt b hm
                      omega
                    have hql : ps'.length + qs.length ≤ 2 := by
                      have h1 := HT.out.len (k + 1) (by omega)
                      rw [HTN.out.L', List.length_append, ← HRS.out, ← hP6, List.length_map, List.length_map] at h1
                      exact h1
                    have hPP7 : (ps' ++ qs).map (·.2) = L (k + 1) := by rw [List.map_append, HRS.out, hP6, HTN.out.L']
                    have hE6q : DetAt w6 M (X (k + 1)) := by rw [HQE.out]; exact hE6
                    have HP6 := Lib.hid hD6
                    have HQ6 := Lib.hid hE6q
                    have HM5' := Lib.hid hM5'
                    have HM6 := Lib.hid hM6
                    have HAP6 := Lib.hid hAP6
                    have HAQ6 := Lib.hid hAQ6
                    have HAP6q := Lib.hid hA6
                    have HJ7 : Hid (∀ k ∈ M.own, k ∉ P2.own) := fun k hk hm => hJ6 k hm hk
                    have HPP7 := Lib.hid hPP7
                    have HQL := Lib.hid hql
                    clear hD6 hM6 hP6 hA6 hN6 hT6 hE6 hE6q hJ6 hM5' hAP6 hAQ6 hPP7 hql HON HM5 HWL HMB5 HB5
                    go_wp2_with (at_builtin; refine wpList_app scells 16 scells_len (by decide) scells_one _ rfl _ _ 34 rfl w.heap.size 42 _ 176 Tryz.underlying34 infoMsg rfl _ ps' rfl ?g1 _ qs rfl ?g2 ?g3 ?g4 ?g5 ?_)
                    case g1 => exact HM5'.out.1
                    case g2 => exact HM6.out.1.at
                    case g3 => have := HQL.out; omega
                    case g4 => have := HQL.out; omega
                    case g5 => omega
                    intro v7 w7 hown7 hg7 hv7
                    have hmm := msgs_app HM5'.out (fun p hp => ((HM6.out.2 p hp).lower (by omega))) hown7 hg7
                    have HP7 := Lib.hid (det_grown HP6.out hg7 fun b hb => HAP6.out b (.inl hb))
                    have HQ7 := Lib.hid (det_grown HQ6.out hg7 fun b hb => HAM5.out b (.inl hb))
                    have HAP7 := Lib.hid (aside_app HAP6.out (qs := qs) (fun b hb => HAP6q.out b (.inr hb)) hv7 HP6.out.own_lt)
                    have HAQ7 := Lib.hid (aside_app HAM5.out (qs := qs) HAQ6.out hv7 HQ6.out.own_lt)
                    have HB7 := Lib.hid (HB6.out.grown hg7 HB6.out.size fun k hk => (HM5'.out.blk k (.inl hk)).1)
                    obtain ⟨o7, c7, rfl⟩ := slAt_slice hown7.at
                    have HM7 := Lib.hid hmm
                    have wk1 : IntKind.i64.wrap ((k : Int) + 1) = (k : Int) + 1 := by rw [IntKind.wrap_i64]; omega
                    clear hmm hown7 hg7 hv7
                    generalize ps' ++ qs = rs2 at *
                    go_wp2_with fail
                    go_roundg (4 - (k + 1))
                    case measure => omega
                    case rel => exact ⟨k + 1, M, P2, o7, c7, rs2, rfl, by go_num, by omega, Nat.le_refl _, hgM, hgP2, HQ7.out, HP7.out, HJ7.out, HO.out, HOP7.out, HM7.out, HPP7.out, HAQ7.out, HAP7.out, HB7.out⟩
            · have hk40 : k = 4 := by omega
              subst hk40
              have hpn : ps.length = 0 := by
                have h1 := HPM.out
                rw [HT.out.l4] at h1
                have := congrArg List.length h1
                simpa using this
              have hwx := words_any M (X 4) wr HD.out
              rw [hgM, HCX.out.two.all] at hwx
              have HWX := Lib.hid hwx
              rw [hpn]
              clear hwx hpn HM HPM HAM HAN HT
              go_wp2_with fail
              refine HWX.out.mono ?_
              rintro e w5 ⟨o5, c5, rfl, ho5, hb5⟩
              have hwy := words_any N (Y 4) w5 (HE.out.below hb5)
              rw [hgN, HCY.out.two.all] at hwy
              have HWY := Lib.hid hwy
              have HO5 := Lib.hid ho5
              have HB5 := Lib.hid hb5
              clear hwy ho5 hb5 HWX
              go_wp2_with fail
              refine HWY.out.mono ?_
              rintro e w6 ⟨o6, c6, rfl, ho6, hb6⟩
              have hs5 : wr.heap.size ≤ w5.heap.size := HB5.out.size
              have HO5' := Lib.hid (HO5.out.below hb6 (Nat.le_refl _))
              have HO6 := Lib.hid ho6
              have HB6 := Lib.hid (HB5.out.trans (hb6.mono hs5))
              clear ho6 hb6 HWY HO5 HB5
              go_wp2_with (at_builtin; refine wpList_app Mb.cells 3 Mb.cells_len (by decide) Mb.cells_one _ rfl _ _ 40 rfl wr.heap.size 45 _ 24 Tryz.underlying40 infoMember rfl _ W2 rfl HO5'.out _ W2 rfl HO6.out.at (by decide) (by decide) HB6.out.size ?_)
              intro v7 w7 hown7 hg7 hv7
              have hb7 := HB6.out.grown hg7 HB6.out.size fun j hj => (HO5'.out.lt j hj).1
              obtain ⟨o7, c7, rfl⟩ := slAt_slice hown7.at
              have HD7 := Lib.hid (HD.out.below hb7)
              have HE7 := Lib.hid (HE.out.below hb7)
              have HB7 := Lib.hid (HB.out.trans (hb7.mono HB.out.size))
              have HSL7 := Lib.hid hown7.at
              have hW4 : (W2 ++ W2).length = 4 := rfl
              rw [hW4]
              have hall : ∀ m ∈ W2 ++ W2, m.st = 1 ∧ m.inc = 0 := by decide
              generalize W2 ++ W2 = W4 at *
              have HW4 := Lib.hid hW4
              have HALL := Lib.hid hall
              clear hW4 hall hown7 hg7 hv7 hb7 HO5' HO6 HB6 HD HE HB
              go_wp2_with fail
              go_loopg [16, 104] 4 (fun gk s16 s104 wr => ∃ (j : Nat), s104 = .int .i64 j ∧ j ≤ 4 ∧ 4 - j ≤ gk ∧ Hid (Below w7.heap.size w7 wr))
              case atStart => exact ⟨0, rfl, Nat.zero_le _, Nat.le_refl _, Below.refl _ _⟩
              case round =>
                obtain ⟨j, rfl, hj, hgk3, HBW⟩ := hrel
                by_cases hltj : j < 4
                · have hltz2 : (j : Int) < 4 := by omega
                  have hjW : j < W4.length := by rw [HW4.out]; exact hltj
                  have hsr := HSL7.out.below Mb.cells_len (by decide) HBW.out (Nat.le_refl _)
                  obtain ⟨b, off, hbo⟩ := hsr.plain Mb.cells_len (by decide) (by intro e; rw [e] at hjW; exact absurd hjW (by simp))
                  subst hbo
                  have x0 := hsr.cell Mb.cells_len (i := j) (c := 0) hjW (by decide)
                  have x1 := hsr.cell Mb.cells_len (i := j) (c := 1) hjW (by decide)
                  have x2 := hsr.cell Mb.cells_len (i := j) (c := 2) hjW (by decide)
                  obtain ⟨e1, e2⟩ := HALL.out W4[j] (List.getElem_mem hjW)
                  replace x0 : wr.cell? ⟨b, off + j * 3, none⟩ = some (.int .i64 W4[j].node) := x0
                  replace x1 : wr.cell? ⟨b, off + j * 3 + 1, none⟩ = some (.int .i64 1) := by rw [← e1]; exact x1
                  replace x2 : wr.cell? ⟨b, off + j * 3 + 2, none⟩ = some (.int .i64 0) := by rw [← e2]; exact x2
                  clear e1 e2
                  generalize W4[j].node = nd at *
                  have HBX : Hid (Below w7.heap.size w7 (wr.alloc (.cells #[.int .i64 nd, .int .i64 1, .int .i64 0] 45))) := HBW.out.alloc HBW.out.size _
                  have wi1 : IntKind.i64.wrap ((j : Int) + 1) = (j : Int) + 1 := by rw [IntKind.wrap_i64]; omega
                  clear hsr HBW hjW
                  go_wp2_with fail
                  go_roundg (4 - (j + 1))
                  case measure => omega
                  case rel => exact ⟨j + 1, by go_num, by omega, Nat.le_refl _, HBX.out⟩
                · have hltz2 : ¬ (j : Int) < 4 := by omega
                  have HD8 := Lib.hid (HD7.out.below HBW.out)
                  have HE8 := Lib.hid (HE7.out.below HBW.out)
                  have HB8 := Lib.hid (HB7.out.trans (HBW.out.mono HB7.out.size))
                  have wi1 : IntKind.u8.wrap ((i : Int) + 1) = (i : Int) + 1 := by rw [IntKind.wrap_u8]; omega
                  clear HBW HD7 HE7 HB7 HSL7
                  go_wp2_with fail
                  go_roundg (t - (i + 1))
                  case measure => omega
                  case rel => exact ⟨i + 1, X 4, Y 4, M, N, by go_num, by omega, Nat.le_refl _, hgM, hgN, HCX.out, HCY.out, HD8.out, HE8.out, HJ.out, HO.out, HP.out, HB8.out⟩
        · have hltz : ¬ (i : Int) < (t : Int) := by omega
          clear HCx HCy HD HE HJ HO HP
          go_wp2_with fail
          go_ret
          exact ⟨rfl, HB.out⟩
    · rw [decide_eq_false hc] at hrr
      have HRR := Lib.hid hrr
      clear hrr hc
      go_wp2_with fail
      refine (HRR.out _).mono ?_
      rintro e w3 ⟨rfl, hb3⟩
      have HB3 := Lib.hid (HBc.out.trans (hb3.mono HBc.out.size))
      clear hb3 HBc HRR HR3 q0 q1 q2
      go_wp2_with fail
      go_ret
      exact ⟨rfl, HB3.out⟩
end Go.Proofs.YtejihgfigclppaaGreat
