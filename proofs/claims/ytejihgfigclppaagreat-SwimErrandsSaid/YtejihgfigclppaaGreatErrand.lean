/-
  The law SwimErrands walked.
-/
import Derived.Test.YtejihgfigclppaaGreatMLaw20b
namespace Go.Proofs.YtejihgfigclppaaGreat
open Go.Shelf Go.RowKit Go.Lib Go.Sort
set_option linter.unusedVariables false
set_option linter.unusedSimpArgs false
theorem msOk_nil : MsOk [] := by decide
set_option maxRecDepth 100000 in
set_option maxHeartbeats 32000000 in
theorem errands_any (c : DConf) (seq : Int) (nn fn : Nat) (hnn : nn ≤ 255) (hfn : fn ≤ 255) (w : World) : Calls Tryz.prog 5 #[.agg #[.int .i64 c.tout, .int .i64 c.ind, .int .i64 c.gr, .int .i64 seq, .int .u8 nn, .int .u8 fn]] w fun e w' => e = .returned (.bool true) ∧ Below w.heap.size w w' := by
  have hp : Tryz.prog.follows .mixedOrders = true := by kernel_rfl
  obtain ⟨w1, hw1⟩ : ∃ w1, w.alloc (.cells #[.int .i64 c.tout, .int .i64 c.ind, .int .i64 c.gr, .int .i64 seq, .int .u8 nn, .int .u8 fn] 54) = w1 := ⟨_, rfl⟩
  have hb1 : Below w.heap.size w w1 := by rw [← hw1]; exact (Below.refl _ _).alloc (Nat.le_refl _) _
  have hr1 : w1.heap[w.heap.size]? = some (.cells #[.int .i64 c.tout, .int .i64 c.ind, .int .i64 c.gr, .int .i64 seq, .int .u8 nn, .int .u8 fn] 54) := by rw [← hw1]; exact heap_alloc_new w _
  have hml : w.heap.size < w1.heap.size := (Array.getElem?_eq_some_iff.1 hr1).1
  have HB1 := Lib.hid hb1
  have HR1 := Lib.hid hr1
  have HW1 := Lib.hid hw1
  have HAL := Lib.hid (alive20_any w1)
  clear hb1 hr1 hw1
  go_enter Tryz.func5, Tryz.ntmps5
  go_wp2_with fail
  rw [HW1.out]
  refine HAL.out.mono ?_
  rintro e w2 ⟨rfl, hb2⟩
  have hr2 := (hb2.block _ hml).trans HR1.out
  have hB2 := HB1.out.trans (hb2.mono HB1.out.size)
  have hml2 : w.heap.size < w2.heap.size := Nat.lt_of_lt_of_le hml hb2.size
  have cc := fun k => cell_of_row w2 w.heap.size k _ _ _ hr2
  have c0 : w2.cell? ⟨w.heap.size, 0, none⟩ = some (.int .i64 c.tout) := cc 0
  have c1 : w2.cell? ⟨w.heap.size, 1, none⟩ = some (.int .i64 c.ind) := cc 1
  have c2 : w2.cell? ⟨w.heap.size, 2, none⟩ = some (.int .i64 c.gr) := cc 2
  have c3 : w2.cell? ⟨w.heap.size, 3, none⟩ = some (.int .i64 seq) := cc 3
  have c4 : w2.cell? ⟨w.heap.size, 4, none⟩ = some (.int .u8 nn) := cc 4
  have c5 : w2.cell? ⟨w.heap.size, 5, none⟩ = some (.int .u8 fn) := cc 5
  have HB2 := Lib.hid hB2
  clear cc hb2 hr2 hB2 HAL HW1 HB1 HR1
  go_wp2_with fail
  go_cut [3, 4, 5, 6] (fun s3 s4 s5 s6 wx => ∃ b, s3 = .pointer (some ⟨b, 0, none⟩) ∧ s4 = .int .i64 seq ∧ s5 = .int .u8 nn ∧ s6 = .int .u8 fn ∧ b < wx.heap.size ∧ Hid (wx.heap[b]? = some (.cells #[.int .i64 c.tout, .int .i64 c.ind, .int .i64 c.gr] 23)) ∧ Hid (Below w2.heap.size w2 wx))
  case first =>
    go_region_held (fun w' => w'.cell? ⟨w.heap.size, 0, none⟩ = some (.int .i64 c.tout) ∧ w'.cell? ⟨w.heap.size, 1, none⟩ = some (.int .i64 c.ind) ∧ w'.cell? ⟨w.heap.size, 2, none⟩ = some (.int .i64 c.gr) ∧ w'.cell? ⟨w.heap.size, 3, none⟩ = some (.int .i64 seq) ∧ w'.cell? ⟨w.heap.size, 4, none⟩ = some (.int .u8 nn) ∧ w'.cell? ⟨w.heap.size, 5, none⟩ = some (.int .u8 fn)) (first | exact ⟨c0, c1, c2, c3, c4, c5⟩ | exact ⟨((below_drew ((Below.refl w2.heap.size w2).alloc (Nat.le_refl _) _)).cell (p := ⟨w.heap.size, 0, none⟩) hml2).trans c0, ((below_drew ((Below.refl w2.heap.size w2).alloc (Nat.le_refl _) _)).cell (p := ⟨w.heap.size, 1, none⟩) hml2).trans c1, ((below_drew ((Below.refl w2.heap.size w2).alloc (Nat.le_refl _) _)).cell (p := ⟨w.heap.size, 2, none⟩) hml2).trans c2, ((below_drew ((Below.refl w2.heap.size w2).alloc (Nat.le_refl _) _)).cell (p := ⟨w.heap.size, 3, none⟩) hml2).trans c3, ((below_drew ((Below.refl w2.heap.size w2).alloc (Nat.le_refl _) _)).cell (p := ⟨w.heap.size, 4, none⟩) hml2).trans c4, ((below_drew ((Below.refl w2.heap.size w2).alloc (Nat.le_refl _) _)).cell (p := ⟨w.heap.size, 5, none⟩) hml2).trans c5⟩) (first | (go_at_call 9999; skip))
    all_goals
      go_wp2_with fail
      go_meet
      exact ⟨w2.heap.size, rfl, rfl, rfl, rfl, by simp [World.drew], heap_alloc_new w2 _, below_drew ((Below.refl _ _).alloc (Nat.le_refl _) _)⟩
  case rest =>
    obtain ⟨b3, rfl, rfl, rfl, rfl, hb3l, HR3, HB3⟩ := hcut
    have HBc := Lib.hid (HB2.out.trans (HB3.out.mono HB2.out.size))
    have q0 : wc.cell? ⟨b3, 0, none⟩ = some (.int .i64 c.tout) := cell_of_row wc b3 0 _ _ _ HR3.out
    have q1 : wc.cell? ⟨b3, 1, none⟩ = some (.int .i64 c.ind) := cell_of_row wc b3 1 _ _ _ HR3.out
    have q2 : wc.cell? ⟨b3, 2, none⟩ = some (.int .i64 c.gr) := cell_of_row wc b3 2 _ _ _ HR3.out
    clear HB2 HB3 c0 c1 c2 c3 c4 c5
    by_cases hc : c.right
    · obtain ⟨byn, hbyn⟩ : ∃ n : Nat, n = fn % 7 := ⟨_, rfl⟩
      obtain ⟨ofn, hofn⟩ : ∃ n : Nat, n = nn % 8 := ⟨_, rfl⟩
      have hby7 : byn < 7 := by rw [hbyn]; exact Nat.mod_lt _ (by decide)
      have hof8 : ofn < 8 := by rw [hofn]; exact Nat.mod_lt _ (by decide)
      have t7 : (fn : Int).tmod 7 = (byn : Int) := by rw [hbyn]; exact (Int.ofNat_tmod fn 7).symm
      have t8 : (nn : Int).tmod 8 = (ofn : Int) := by rw [hofn]; exact (Int.ofNat_tmod nn 8).symm
      clear hbyn hofn
      obtain ⟨d0, d1, d2, X⟩ := exE c hc seq (ofn : Int) ((byn : Int) + 1)
      have hnew := newD_good 0 0 c 1 wc (by decide) hc
      rw [X.s0] at hnew
      have HNEW := Lib.hid hnew
      have HX := Lib.hid X
      have wf : IntKind.i64.wrap (fn : Int) = (fn : Int) := by rw [IntKind.wrap_i64]; omega
      have wn : IntKind.i64.wrap (nn : Int) = (nn : Int) := by rw [IntKind.wrap_i64]; omega
      have wb : IntKind.i64.wrap (byn : Int) = (byn : Int) := by rw [IntKind.wrap_i64]; omega
      have wo : IntKind.i64.wrap (ofn : Int) = (ofn : Int) := by rw [IntKind.wrap_i64]; omega
      have wb1 : IntKind.i64.wrap ((byn : Int) + 1) = (byn : Int) + 1 := by rw [IntKind.wrap_i64]; omega
      clear hnew X
      go_wp2_with fail
      refine HNEW.out.mono ?_
      rintro e w3 ⟨M0, rfl, hD3, hO3, hb3⟩
      have HD3 := Lib.hid hD3
      have HO3 := Lib.hid hO3
      have HBB := Lib.hid (HBc.out.trans (hb3.mono HBc.out.size))
      have hs3 : w.heap.size ≤ wc.heap.size := HBc.out.size
      have hs33 : wc.heap.size ≤ w3.heap.size := hb3.size
      clear hD3 hO3 hb3 q0 q1 q2 HR3 HNEW hb3l
      go_wp2_with fail
      have hb4 := (Below.refl w3.heap.size w3).alloc (Nat.le_refl _) (.cells #[.int .i64 3, .int .i64 ((byn : Int) + 1), .int .i64 0, .int .i64 seq, .int .i64 (ofn : Int), .int .i64 0, .int .i64 0, .int .i64 0, .int .i64 0, .int .i64 0, .int .i64 0, .int .i64 0, .int .i64 0, .slice none 0 0, .slice none 0 0, .slice none 0 0] 42)
      generalize w3.alloc (.cells #[.int .i64 3, .int .i64 ((byn : Int) + 1), .int .i64 0, .int .i64 seq, .int .i64 (ofn : Int), .int .i64 0, .int .i64 0, .int .i64 0, .int .i64 0, .int .i64 0, .int .i64 0, .int .i64 0, .int .i64 0, .slice none 0 0, .slice none 0 0, .slice none 0 0] 42) = w4 at *
      have hD4 := HD3.out.below hb4
      have HB4 := Lib.hid (HBB.out.trans (hb4.mono (by omega)))
      have hlow4 : ∀ k ∈ M0.own, w.heap.size ≤ k := fun k hk => by have := HO3.out k hk; omega
      have HO4 := Lib.hid hlow4
      clear hb4 hlow4 HD3 HO3 HBB t7 t8 wf wn wb wo wb1
      by_cases hq : 0 ≤ seq ∧ seq ≤ 1099511627776
      · have hr4 : ((⟨3, (byn : Int) + 1, 0, seq, (ofn : Int), []⟩ : Sent).msg ⟨none, 0, 0⟩).right := Sent.right (.inr (.inr rfl)) ⟨by show (0 : Int) ≤ (byn : Int) + 1; omega, by show (byn : Int) + 1 ≤ 7; omega⟩ ⟨by show (0 : Int) ≤ 0; omega, by show (0 : Int) ≤ 7; omega⟩ (by show (byn : Int) + 1 ≠ 0; omega) hq (.inl ⟨by show (3 : Int) ≠ 1; decide, by show (0 : Int) ≤ (ofn : Int); omega, by show (ofn : Int) ≤ 7; omega⟩) msOk_nil
        have hon := onSent_any M0 d0 HX.out.k0 HX.out.n0 HX.out.lf0 ⟨3, (byn : Int) + 1, 0, seq, (ofn : Int), []⟩ ⟨none, 0, 0⟩ hr4 HX.out.z0.symm (Nat.zero_le _) w4 (SlAt.nil _ _) (fun b hb => by cases hb) hD4
        have hq1 : ¬ seq < 0 := by omega
        have hq2 : ¬ 1099511627776 < seq := by omega
        by_cases ho : ofn = 0
        · subst ho
          obtain ⟨tm, hown⟩ := HX.out.own rfl
          rw [show (⟨3, (byn : Int) + 1, 0, seq, ((0 : Nat) : Int), []⟩ : Sent).got = ⟨3, (byn : Int) + 1, 0, seq, 0, []⟩ from rfl, hown] at hon
          have HON := Lib.hid hon
          clear hon hr4 hown hD4
          refine HON.out.mono ?_
          rintro e w5 ⟨v, rfl, M1, ps, hD5, hM5, hP5, hA5, hN5, hT5⟩
          obtain ⟨g, cg, hd, rfl, rfl, hg, hgl, _, hcg⟩ := msg_one hM5 hP5
          have a0 : w5.cell? ⟨g, 0, none⟩ = some (.int .i64 2) := hcg 0 (by decide)
          have a2 : w5.cell? ⟨g, 2, none⟩ = some (.int .i64 ((byn : Int) + 1)) := hcg 2 (by decide)
          have a3 : w5.cell? ⟨g, 3, none⟩ = some (.int .i64 seq) := hcg 3 (by decide)
          have a4 : w5.cell? ⟨g, 4, none⟩ = some (.int .i64 0) := hcg 4 (by decide)
          have hs4 : w.heap.size ≤ w4.heap.size := HB4.out.size
          have HB5 := Lib.hid (HB4.out.trans (hT5.below hs4 fun k hk => HO4.out k hk))
          clear hM5 hP5 hA5 hN5 hT5 hD5 hcg HON HB4 HO4 HX
          go_wp2_with fail
          go_ret
          exact ⟨rfl, HB5.out⟩
        · have ho2 : (ofn : Int) ≠ 0 := by omega
          have hob : ((ofn : Int) == 0) = false := by simpa using ho2
          obtain ⟨tm, hs1⟩ := HX.out.s1 ho2
          rw [show (⟨3, (byn : Int) + 1, 0, seq, (ofn : Int), []⟩ : Sent).got = ⟨3, (byn : Int) + 1, 0, seq, (ofn : Int), []⟩ from rfl, hs1] at hon
          have HON := Lib.hid hon
          have HO2 := Lib.hid ho2
          clear hon hr4 hs1 hD4 ho2 ho
          refine HON.out.mono ?_
          rintro e w5 ⟨v, rfl, M1, ps, hD5, hM5, hP5, hA5, hN5, hT5⟩
          obtain ⟨g, cg, hd, rfl, rfl, hg, hgl, _, hcg⟩ := msg_one hM5 hP5
          have a0 : w5.cell? ⟨g, 0, none⟩ = some (.int .i64 1) := hcg 0 (by decide)
          have a2 : w5.cell? ⟨g, 2, none⟩ = some (.int .i64 (ofn : Int)) := hcg 2 (by decide)
          have a3 : w5.cell? ⟨g, 3, none⟩ = some (.int .i64 1) := hcg 3 (by decide)
          have hs4 : w.heap.size ≤ w4.heap.size := HB4.out.size
          have hg1 : M1.g = M0.g := hN5.g
          have HD5 := Lib.hid hD5
          have HO5 : Hid (∀ k ∈ M1.own, w.heap.size ≤ k) := fun k hk => (hN5.own k hk).elim (HO4.out k) fun h => by omega
          have HB5 := Lib.hid (HB4.out.trans (hT5.below hs4 fun k hk => HO4.out k hk))
          clear hM5 hP5 hA5 hN5 hT5 hD5 hcg HON HB4 HO4
          go_wp2_with fail
          have hb6 := (Below.refl w5.heap.size w5).alloc (Nat.le_refl _) (.cells #[.int .i64 2, .int .i64 (ofn : Int), .int .i64 0, .int .i64 1, .int .i64 (ofn : Int), .int .i64 0, .int .i64 0, .int .i64 0, .int .i64 0, .int .i64 0, .int .i64 0, .int .i64 0, .int .i64 0, .slice none 0 0, .slice none 0 0, .slice none 0 0] 42)
          have hr6 := heap_alloc_new w5 (.cells #[.int .i64 2, .int .i64 (ofn : Int), .int .i64 0, .int .i64 1, .int .i64 (ofn : Int), .int .i64 0, .int .i64 0, .int .i64 0, .int .i64 0, .int .i64 0, .int .i64 0, .int .i64 0, .int .i64 0, .slice none 0 0, .slice none 0 0, .slice none 0 0] 42)
          generalize hw6 : w5.alloc (.cells #[.int .i64 2, .int .i64 (ofn : Int), .int .i64 0, .int .i64 1, .int .i64 (ofn : Int), .int .i64 0, .int .i64 0, .int .i64 0, .int .i64 0, .int .i64 0, .int .i64 0, .int .i64 0, .int .i64 0, .slice none 0 0, .slice none 0 0, .slice none 0 0] 42) = w6 at *
          have HR6 := Lib.hid hr6
          have hl6 : w5.heap.size < w6.heap.size := (Array.getElem?_eq_some_iff.1 hr6).1
          have HW6 := Lib.hid hw6
          have hr2 : ((⟨2, (ofn : Int), 0, 1, (ofn : Int), []⟩ : Sent).msg ⟨none, 0, 0⟩).right := Sent.right (.inr (.inl rfl)) ⟨by show (0 : Int) ≤ (ofn : Int); omega, by show (ofn : Int) ≤ 7; omega⟩ ⟨by show (0 : Int) ≤ 0; omega, by show (0 : Int) ≤ 7; omega⟩ HO2.out ⟨by show (0 : Int) ≤ 1; omega, by show (1 : Int) ≤ 1099511627776; omega⟩ (.inl ⟨by show (2 : Int) ≠ 1; decide, by show (0 : Int) ≤ (ofn : Int); omega, by show (ofn : Int) ≤ 7; omega⟩) msOk_nil
          have hD6 := HD5.out.below hb6
          have hon := onSent_any M1 d1 (HX.out.k1 HO2.out) HX.out.n1 HX.out.lf1 ⟨2, (ofn : Int), 0, 1, (ofn : Int), []⟩ ⟨none, 0, 0⟩ hr2 HX.out.z1.symm (Nat.zero_le _) w6 (SlAt.nil _ _) (fun b hb => by cases hb) hD6
          obtain ⟨tm2, hs2⟩ := HX.out.s2 HO2.out
          rw [show (⟨2, (ofn : Int), 0, 1, (ofn : Int), []⟩ : Sent).got = ⟨2, (ofn : Int), 0, 1, (ofn : Int), []⟩ from rfl, hs2, hg1] at hon
          have HON := Lib.hid hon
          have HB6 := Lib.hid (HB5.out.trans (hb6.mono (by have := HB5.out.size; omega)))
          have HM5 := Lib.hid (show w5.heap.size ∉ M1.own from fun h => absurd (HD5.out.own_lt _ h) (Nat.lt_irrefl _))
          have hs6 : w.heap.size ≤ w6.heap.size := HB6.out.size
          clear hon hs2 hD6 hb6 hr6 hw6 HD5 HB5 a0 a2 a3 hq1 hq2
          refine HON.out.mono ?_
          rintro e w7 ⟨v, rfl, M2, ps, hD7, hM7, hP7, hA7, hN7, hT7⟩
          obtain ⟨g7, cg7, hd7, rfl, rfl, hg7, hgl7, _, hcg7⟩ := msg_one hM7 hP7
          have e0 : w7.cell? ⟨g7, 0, none⟩ = some (.int .i64 2) := hcg7 0 (by decide)
          have e2 : w7.cell? ⟨g7, 2, none⟩ = some (.int .i64 ((byn : Int) + 1)) := hcg7 2 (by decide)
          have e3 : w7.cell? ⟨g7, 3, none⟩ = some (.int .i64 seq) := hcg7 3 (by decide)
          have e4 : w7.cell? ⟨g7, 4, none⟩ = some (.int .i64 (ofn : Int)) := hcg7 4 (by decide)
          have hg2 : M2.g = M0.g := hN7.g.trans hg1
          obtain ⟨kr, _, hrl7⟩ := aside_kept hT7 hN7 hl6 HM5.out
          have HR7 := Lib.hid (kr.trans HR6.out)
          have hon := onSent_any M2 d2 (HX.out.k2 HO2.out) HX.out.n2 HX.out.lf2 ⟨2, (ofn : Int), 0, 1, (ofn : Int), []⟩ ⟨none, 0, 0⟩ hr2 HX.out.z2.symm (Nat.zero_le _) w7 (SlAt.nil _ _) (fun b hb => by cases hb) hD7
          rw [show (⟨2, (ofn : Int), 0, 1, (ofn : Int), []⟩ : Sent).got = ⟨2, (ofn : Int), 0, 1, (ofn : Int), []⟩ from rfl, HX.out.s3, hg2] at hon
          have HON2 := Lib.hid hon
          have HB7 := Lib.hid (HB6.out.trans (hT7.below hs6 fun k hk => HO5.out k hk))
          have HO7 : Hid (∀ k ∈ M2.own, w.heap.size ≤ k) := fun k hk => (hN7.own k hk).elim (HO5.out k) fun h => by omega
          have hgn : g7 ∉ M2.own := hA7 g7 (.inl rfl)
          have HG7 := Lib.hid hgn
          have c8 := fun k => cell_of_row w7 w5.heap.size k _ _ _ HR7.out
          have hwl7 := load_whole HR7.out rfl
          have HWL7 := Lib.hid hwl7
          clear hgn hon kr hD7 hM7 hP7 hA7 hN7 hT7 hcg7 HON HB6 HO5 hr2 c8 hwl7
          go_wp2_with (refine wpList_loadAgg _ rfl 42 _ rfl 16 (by kernel_rfl) (by kernel_rfl) ⟨w5.heap.size, 0, none⟩ rfl _ HWL7.out ?_)
          refine HON2.out.mono ?_
          rintro e w8 ⟨v, rfl, M3, ps, hD8, hM8, hP8, hA8, hN8, hT8⟩
          obtain ⟨o8, c8, rfl⟩ := slAt_slice hM8.1.at
          have hl8 : ps.length = 0 := by have := congrArg List.length hP8; simpa using this
          rw [hl8]
          obtain ⟨kg, _, hgl8⟩ := aside_kept hT8 hN8 hgl7 HG7.out
          have f0 := (World.cell?_of_block (a := ⟨g7, 0, none⟩) kg).trans e0
          have f2 := (World.cell?_of_block (a := ⟨g7, 2, none⟩) kg).trans e2
          have f3 := (World.cell?_of_block (a := ⟨g7, 3, none⟩) kg).trans e3
          have f4 := (World.cell?_of_block (a := ⟨g7, 4, none⟩) kg).trans e4
          have hs7 : w.heap.size ≤ w7.heap.size := HB7.out.size
          have HB8 := Lib.hid (HB7.out.trans (hT8.below hs7 fun k hk => HO7.out k hk))
          clear kg hD8 hM8 hP8 hA8 hN8 hT8 hl8 e0 e2 e3 e4 HON2 HB7 HO7 HR7 HWL7 HG7 HX
          go_wp2_with fail
          go_ret
          exact ⟨rfl, HB8.out⟩
      · have hr4 : ¬ ((⟨3, (byn : Int) + 1, 0, seq, (ofn : Int), []⟩ : Sent).msg ⟨none, 0, 0⟩).right := fun h => hq (by
          have := h.seq
          exact this)
        have hon := onSent_bad M0 d0 HX.out.k0 HX.out.n0 ⟨3, (byn : Int) + 1, 0, seq, (ofn : Int), []⟩ ⟨none, 0, 0⟩ hr4 (Nat.zero_le _) w4 (SlAt.nil _ _) (fun b hb => by cases hb) hD4
        have HON := Lib.hid hon
        clear hon hr4 hD4
        by_cases hq1 : seq < 0
        · clear hq
          refine HON.out.mono ?_
          rintro e w5 ⟨rfl, hb5⟩
          have HB5 := Lib.hid (HB4.out.trans (hb5.mono HB4.out.size))
          clear hb5 HON
          go_wp2_with fail
          go_ret
          exact ⟨rfl, HB5.out⟩
        · have hq2 : 1099511627776 < seq := by omega
          clear hq
          refine HON.out.mono ?_
          rintro e w5 ⟨rfl, hb5⟩
          have HB5 := Lib.hid (HB4.out.trans (hb5.mono HB4.out.size))
          clear hb5 HON
          go_wp2_with fail
          go_ret
          exact ⟨rfl, HB5.out⟩
    · have hnb := newD_bad2 0 0 c 1 wc (by decide) hc
      have HNB := Lib.hid hnb
      have hrr := fun W => refRight20_any c W
      rw [decide_eq_false hc] at hrr
      have HRR := Lib.hid hrr
      clear hnb hrr hc
      go_wp2_with fail
      refine HNB.out.mono ?_
      rintro e w3 ⟨rfl, hb4⟩
      have r0 := (hb4.cell (p := ⟨b3, 0, none⟩) hb3l).trans q0
      have r1 := (hb4.cell (p := ⟨b3, 1, none⟩) hb3l).trans q1
      have r2 := (hb4.cell (p := ⟨b3, 2, none⟩) hb3l).trans q2
      have HB4 := Lib.hid (HBc.out.trans (hb4.mono HBc.out.size))
      clear hb4 q0 q1 q2 HNB HBc
      go_wp2_with fail
      refine (HRR.out _).mono ?_
      rintro e w4 ⟨rfl, hb5⟩
      have HB5 := Lib.hid (HB4.out.trans (hb5.mono HB4.out.size))
      clear hb5 HB4 r0 r1 r2
      go_wp2_with fail
      go_ret
      exact ⟨rfl, HB5.out⟩
end Go.Proofs.YtejihgfigclppaaGreat
