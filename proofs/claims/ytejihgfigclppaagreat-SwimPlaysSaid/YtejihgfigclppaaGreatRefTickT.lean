/-
  The reference's Tick: a probe that ends.
-/
import Derived.Test.YtejihgfigclppaaGreatRefTickU
namespace Go.Proofs.YtejihgfigclppaaGreat
open Go.Shelf Go.RowKit Go.Lib Go.Sort
set_option linter.unusedVariables false
set_option linter.unusedSimpArgs false
noncomputable def tail27 : Code := codeDrop 6 (Tryz.f27.body.getD .skip)
set_option maxRecDepth 100000 in
set_option maxHeartbeats 32000000 in
theorem rtick_tail (R : RM) (d e1 : Det) (w wc : World) (HTK2 : Hid (d.tick = (e1.around.1.give.begin.1, e1.around.2 ++ e1.around.1.give.begin.2))) (HOK2 : Hid (DetOk e1)) (HSO2 : Hid (SinceOk e1)) (HN2 : Hid (e1.num < 1000000)) {u1 u2 u3 u4 u5 u6 u7 u8 u9 u10 u11 u12 u13 u14 u15 u16 u17 u18 u19 u20 u21 u22 u23 u24 u25 u26 u27 u28 u29 u30 u31 u32 u33 u34 u35 u36 u37 u38 u39 u40 u41 u42 u43 u44 u45 u46 u47 u48 u49 u50 u51 u52 u53 u54 u55 u56 u57 u58 u59 u60 u61 u62 u63 u64 u65 u66 u67 u68 u69 u70 u71 u72 u73 u74 u75 u76 u77 u78 u79 u80 u81 u82 u83 u84 u85 u86 u87 u88 u89 u90 u91 u92 u93 u94 u95 u96 u97 u98 u99 u100 u101 u102 u103 u104 u105 u106 u107 u108 u109 u110 u111 u112 u113 u114 u115 u116 u117 u118 u119 u120 u121 u122 u123 u124 u125 u126 u127 u128 u129 u130 u131 u132 u133 u134 u135 u136 u137 u138 u139 u140 u141 u142 u143 u144 u145 u146 u147 u148 u149 u150 u151 u152 u153 u154 u155 u156 u157 u158 u159 u160 u161 u162 u163 u164 u165 u166 u167 u168 u169 u170 u171 u172 u173 u174 u175 u176 u177 u178 u179 u180 u181 u182 u183 u184 u185 u186 u187 u188 u189 u190 u191 u192 u193 u194 u195 u196 u197 u198 u199 u200 u201 u202 u203 u204 u205 u206 u207 u208 u209 u210 u211 u212 u213 u214 u215 u216 u217 u218 u219 u220 u221 u222 u223 u224 u225 u226 u227 u228 u229 u230 u231 u232 u233 u234 u235 u236 u237 u238 u239 u240 u241 u242 u243 u244 u245 u246 u247 u248 u249 u250 u251 u252 u253 u254 u255 u256 : Value} :
  Hid (RMid R e1.around.1 e1.around.2 w u3 wc) → Code.wp Tryz.prog tail27 (bodyPost Tryz.prog Tryz.f27 fun e w' => ∃ v, e = .returned v ∧ RStepped R d.tick.1 d.tick.2 w v w') { tmps := List.toArray (.pointer (some ⟨R.g, 0, none⟩) :: u1 :: u2 :: u3 :: u4 :: u5 :: u6 :: u7 :: u8 :: u9 :: u10 :: u11 :: u12 :: u13 :: u14 :: u15 :: u16 :: u17 :: u18 :: u19 :: u20 :: u21 :: u22 :: u23 :: u24 :: u25 :: u26 :: u27 :: u28 :: u29 :: u30 :: u31 :: u32 :: u33 :: u34 :: u35 :: u36 :: u37 :: u38 :: u39 :: u40 :: u41 :: u42 :: u43 :: u44 :: u45 :: u46 :: u47 :: u48 :: u49 :: u50 :: u51 :: u52 :: u53 :: u54 :: u55 :: u56 :: u57 :: u58 :: u59 :: u60 :: u61 :: u62 :: u63 :: u64 :: u65 :: u66 :: u67 :: u68 :: u69 :: u70 :: u71 :: u72 :: u73 :: u74 :: u75 :: u76 :: u77 :: u78 :: u79 :: u80 :: u81 :: u82 :: u83 :: u84 :: u85 :: u86 :: u87 :: u88 :: u89 :: u90 :: u91 :: u92 :: u93 :: u94 :: u95 :: u96 :: u97 :: u98 :: u99 :: u100 :: u101 :: u102 :: u103 :: u104 :: u105 :: u106 :: u107 :: u108 :: u109 :: u110 :: u111 :: u112 :: u113 :: u114 :: u115 :: u116 :: u117 :: u118 :: u119 :: u120 :: u121 :: u122 :: u123 :: u124 :: u125 :: u126 :: u127 :: u128 :: u129 :: u130 :: u131 :: u132 :: u133 :: u134 :: u135 :: u136 :: u137 :: u138 :: u139 :: u140 :: u141 :: u142 :: u143 :: u144 :: u145 :: u146 :: u147 :: u148 :: u149 :: u150 :: u151 :: u152 :: u153 :: u154 :: u155 :: u156 :: u157 :: u158 :: u159 :: u160 :: u161 :: u162 :: u163 :: u164 :: u165 :: u166 :: u167 :: u168 :: u169 :: u170 :: u171 :: u172 :: u173 :: u174 :: u175 :: u176 :: u177 :: u178 :: u179 :: u180 :: u181 :: u182 :: u183 :: u184 :: u185 :: u186 :: u187 :: u188 :: u189 :: u190 :: u191 :: u192 :: u193 :: u194 :: u195 :: u196 :: u197 :: u198 :: u199 :: u200 :: u201 :: u202 :: u203 :: u204 :: u205 :: u206 :: u207 :: u208 :: u209 :: u210 :: u211 :: u212 :: u213 :: u214 :: u215 :: u216 :: u217 :: u218 :: u219 :: u220 :: u221 :: u222 :: u223 :: u224 :: u225 :: u226 :: u227 :: u228 :: u229 :: u230 :: u231 :: u232 :: u233 :: u234 :: u235 :: u236 :: u237 :: u238 :: u239 :: u240 :: u241 :: u242 :: u243 :: u244 :: u245 :: u246 :: u247 :: u248 :: u249 :: u250 :: u251 :: u252 :: u253 :: u254 :: u255 :: u256 :: []), defers := [] } wc := by
 intro hcut
 have hp : Tryz.prog.follows .mixedOrders = true := by kernel_rfl
 conv => enter [2]; whnf
 obtain ⟨R2, ps2, hR2, hM2, hP2, hA2, hN2, hT2⟩ := hcut.out
 obtain ⟨o2, c2, rfl⟩ := slAt_slice hM2.1.at
 have hok3 := HOK2.out.around
 have hol := around_out_len e1
 have hso3 := HSO2.out.around
 have hn3 : e1.around.1.num < 1000000 := by rw [(same_around e1).num]; exact HN2.out
 have HOK3 := Lib.hid hok3
 have HOL := Lib.hid hol
 have HSO3 := Lib.hid hso3
 have HN3 := Lib.hid hn3
 have HR2 := Lib.hid hR2
 have HM2 := Lib.hid hM2
 have HP2 := Lib.hid hP2
 have HA2 := Lib.hid hA2
 have HNW2 := Lib.hid hN2
 have HT2 := Lib.hid hT2
 have hg2 := hN2.g
 clear hol hok3 hso3 hn3 hR2 hM2 hP2 hA2 hN2 hT2 hcut HOK2 HSO2 HN2
 generalize e1.around.1 = e2 at *
 generalize e1.around.2 = out1 at *
 have k7 : wc.cell? ⟨R.g, 7, none⟩ = some (.bool e2.pr.isSome) := by rw [← hg2]; exact HR2.out.cell 7
 have k5 : wc.cell? ⟨R.g, 5, none⟩ = some (.int .i64 e2.clock) := by rw [← hg2]; exact HR2.out.cell 5
 have k10 : wc.cell? ⟨R.g, 10, none⟩ = some (.int .i64 R2.beg) := by rw [← hg2]; exact HR2.out.cell 10
 have k0 : wc.cell? ⟨R.g, 0, none⟩ = some (.int .i64 e2.c.tout) := by rw [← hg2]; exact HR2.out.cell 0
 have hby : ∃ bb : Bool, (bb = true → ∃ p, e2.pr = some p ∧ R2.tgt = p.2 ∧ 0 ≤ p.2 ∧ p.2 ≤ 7 ∧ e2.give = (match e2.tab p.2.toNat with | some w => if w.st = 1 then { e2.say p.2 2 with pr := none } else { e2 with pr := none } | none => { e2 with pr := none })) ∧ (bb = false → e2.give = e2) ∧
   ((e2.pr.isSome = false ∧ bb = false) ∨ (e2.pr.isSome = true ∧ IntKind.i64.wrap (e2.clock - R2.beg) = e2.clock - R2.beg ∧ IntKind.i64.wrap (2 * e2.c.tout) = 2 * e2.c.tout ∧ decide (2 * e2.c.tout ≤ e2.clock - R2.beg) = bb)) := by
  cases hpr : e2.pr with
  | none => exact ⟨false, (fun h => by cases h), (fun _ => by unfold Det.give; rw [hpr]), .inl ⟨rfl, rfl⟩⟩
  | some p =>
   obtain ⟨q1, q2, q3⟩ := HR2.out.opn.pr p hpr
   have hb1 := HOK3.out.began
   have hb2 := HOK3.out.clock
   have hb3 := HOK3.out.c
   have hb4 := HOK3.out.pr p hpr
   have hwr : IntKind.i64.wrap (e2.clock - R2.beg) = e2.clock - R2.beg := by rw [IntKind.wrap_i64]; omega
   have hwm : IntKind.i64.wrap (2 * e2.c.tout) = 2 * e2.c.tout := by rw [IntKind.wrap_i64]; have := hb3.1; have := hb3.2.1; omega
   by_cases hq : e2.clock - e2.began < 2 * e2.c.tout
   ·refine ⟨false, (fun h => by cases h), (fun _ => ?_), .inr ⟨rfl, hwr, hwm, decide_eq_false (by rw [q3]; omega)⟩⟩
    unfold Det.give
    rw [hpr]
    exact if_pos hq
   ·refine ⟨true, (fun _ => ⟨p, rfl, q2, hb4.2.2.1, hb4.2.2.2.1, ?_⟩), (fun h => by cases h), .inr ⟨rfl, hwr, hwm, decide_eq_true (by rw [q3]; omega)⟩⟩
    unfold Det.give
    rw [hpr]
    exact if_neg hq
 obtain ⟨bb, hb1, hb2, hb3⟩ := hby
 have HB1 := Lib.hid hb1
 have HB2 := Lib.hid hb2
 clear hb1 hb2
 go_wp2_with fail
 generalize hwe : wc = we at *
 have HWE := Lib.hid hwe
 clear hwe
 go_cut [171] (fun s171 wx => s171 = .bool bb ∧ Hid (∃ n, wx = we.drewN n))
 case first =>
  as_aux_lemma =>
  rcases hb3 with ⟨f1, rfl⟩ | ⟨f1, f2, f3, f4⟩
  ·rw [f1] at k7
   go_big_quiet (fail)
   go_wp2_with fail
   go_meet
   exact ⟨rfl, ⟨nq, rfl⟩⟩
  ·rw [f1] at k7
   go_big_quiet (fail)
   go_wp2_with fail
   go_meet
   exact ⟨rfl, ⟨nq, rfl⟩⟩
 obtain ⟨rfl, HN⟩ := hcut
 obtain ⟨nq, hnq⟩ := HN.out
 have hbl0 : Below we.heap.size we wc := by rw [hnq]; exact below_drewN we nq
 have HR2b := Lib.hid (HR2.out.below hbl0)
 have HM2b := Lib.hid (HM2.out.below hbl0 (Nat.le_refl _))
 have HT2b := Lib.hid (HT2.out.trans (Touch.of_below (L := fun k => k ∈ R.own) hbl0 (Nat.le_refl _)) fun _ _ h => h)
 clear hbl0 hnq HN hb3 k7 k5 k10 k0 HR2 HM2 HT2 HWE
 go_step
 go_cut [3] (fun s3 wx => Hid (RMid R e2.give out1 w s3 wx))
 case first =>
  cases bb with
  | false =>
   have hr : RMid R e2.give out1 w (.slice o2 ps2.length c2) wc := by
    rw [HB2.out rfl]
    exact ⟨R2, ps2, HR2b.out, HM2b.out, HP2.out, HA2.out, HNW2.out, HT2b.out⟩
   have HRR := Lib.hid hr
   clear hr
   go_wp2_with fail
   go_meet
   exact HRR.out
  | true =>
   have hR2 := HR2b.out
   have hM2 := HM2b.out
   have hT2 := HT2b.out
   obtain ⟨⟨num, t⟩, hpr, htg, ht0, ht7, hgv⟩ := HB1.out rfl
   dsimp only at htg ht0 ht7 hgv
   obtain ⟨k, rfl⟩ : ∃ k : Nat, t = (k : Int) := ⟨t.toNat, by omega⟩
   have hk8 : k < 8 := by omega
   have hkz : (k : Int) < 8 := by omega
   have hkz0 : ¬ (k : Int) < 0 := by omega
   obtain ⟨nd, st, ic, hrw⟩ : ∃ a b c, rWd e2.tab k = ⟨a, b, c⟩ := ⟨_, _, _, rfl⟩
   have hgive : (st = 1 → e2.give = { e2.hear ⟨(k : Int), 2, ic⟩ with pr := none }) ∧ (st ≠ 1 → e2.give = { e2 with pr := none }) := by
    rw [Int.toNat_natCast] at hgv
    cases htk : e2.tab k with
    | none =>
     rw [rWd_none htk] at hrw
     cases hrw
     rw [htk] at hgv
     exact ⟨(fun h => absurd h (by decide)), fun _ => hgv⟩
    | some wd =>
     rw [rWd_some htk] at hrw
     cases hrw
     rw [htk] at hgv
     dsimp only at hgv
     refine ⟨fun h => ?_, fun h => ?_⟩
     ·rw [if_pos h] at hgv
      rw [hgv]
      unfold Det.say
      rw [Int.toNat_natCast, htk]
     ·rw [if_neg h] at hgv
      exact hgv
   obtain ⟨hgi1, hgi2⟩ := hgive
   have hgl : R.g < wc.heap.size := by rw [← hg2]; exact hR2.lt
   have hgtl : R2.gt < wc.heap.size := hR2.tab.lt
   have k3 : wc.cell? ⟨R.g, 3, none⟩ = some (.pointer (some ⟨R2.gt, 0, none⟩)) := by rw [← hg2]; exact hR2.cell 3
   have k8 : wc.cell? ⟨R.g, 8, none⟩ = some (.int .i64 (k : Int)) := by rw [← htg, ← hg2]; exact hR2.cell 8
   have t0 := hR2.tab.c0 hk8
   have t1 := hR2.tab.c1 hk8
   have t2 := hR2.tab.c2 hk8
   rw [hrw] at t0 t1 t2
   dsimp only at t0 t1 t2
   have hkp : ∀ W, Below wc.heap.size wc W → W.cell? ⟨R.g, 3, none⟩ = some (.pointer (some ⟨R2.gt, 0, none⟩)) ∧ W.cell? ⟨R.g, 8, none⟩ = some (.int .i64 (k : Int)) ∧ W.cell? ⟨R2.gt, 1 + k * 3, none⟩ = some (.int .i64 nd) ∧ W.cell? ⟨R2.gt, 1 + k * 3 + 1, none⟩ = some (.int .i64 st) ∧ W.cell? ⟨R2.gt, 1 + k * 3 + 2, none⟩ = some (.int .i64 ic) := fun W hW =>
    ⟨(hW.cell (p := ⟨R.g, 3, none⟩) hgl).trans k3, (hW.cell (p := ⟨R.g, 8, none⟩) hgl).trans k8, (hW.cell (p := ⟨R2.gt, 1 + k * 3, none⟩) hgtl).trans t0, (hW.cell (p := ⟨R2.gt, 1 + k * 3 + 1, none⟩) hgtl).trans t1, (hW.cell (p := ⟨R2.gt, 1 + k * 3 + 2, none⟩) hgtl).trans t2⟩
   have HKP := Lib.hid hkp
   have HGI1 := Lib.hid hgi1
   have HGI2 := Lib.hid hgi2
   have HR2 := Lib.hid hR2
   have HM2 := Lib.hid hM2
   have HT2 := Lib.hid hT2
   clear hkp hgi1 hgi2 hR2 hM2 hT2 hgv hrw hpr HR2b HM2b HT2b HB1 HB2
   go_wp2_with fail
   generalize hwe : wc = we at *
   have HWE := Lib.hid hwe
   clear hwe
   go_cut [11] (fun s11 wx => ∃ b, s11 = .pointer (some ⟨b, 0, none⟩) ∧ we.heap.size ≤ b ∧ Hid (wx.heap[b]? = some (.cells #[.int .i64 nd, .int .i64 st, .int .i64 ic] 45)) ∧ Hid (Below we.heap.size we wx))
   case first =>
    as_aux_lemma =>
    go_region_held (fun w' => w'.cell? ⟨R.g, 3, none⟩ = some (.pointer (some ⟨R2.gt, 0, none⟩)) ∧ w'.cell? ⟨R.g, 8, none⟩ = some (.int .i64 (k : Int)) ∧ w'.cell? ⟨R2.gt, 1 + k * 3, none⟩ = some (.int .i64 nd) ∧ w'.cell? ⟨R2.gt, 1 + k * 3 + 1, none⟩ = some (.int .i64 st) ∧ w'.cell? ⟨R2.gt, 1 + k * 3 + 2, none⟩ = some (.int .i64 ic)) (first | exact ⟨k3, k8, t0, t1, t2⟩ | exact HKP.out _ (below_drew ((Below.refl _ _).alloc (Nat.le_refl _) _))) (fail)
    all_goals
     go_wp2_with fail
     go_meet
     exact ⟨we.heap.size, rfl, Nat.le_refl _, heap_alloc_new we _, below_drew ((Below.refl _ _).alloc (Nat.le_refl _) _)⟩
   obtain ⟨b, rfl, hb0, HRB, HBC⟩ := hcut
   have hbl : b < wc.heap.size := (Array.getElem?_eq_some_iff.1 HRB.out).1
   have hRC := HR2.out.below HBC.out
   have b1 : wc.cell? ⟨b, 1, none⟩ = some (.int .i64 st) := cell_of_row wc b 1 _ _ _ HRB.out
   have b2 : wc.cell? ⟨b, 2, none⟩ = some (.int .i64 ic) := cell_of_row wc b 2 _ _ _ HRB.out
   have j8 : wc.cell? ⟨R.g, 8, none⟩ = some (.int .i64 (k : Int)) := (HBC.out.cell (p := ⟨R.g, 8, none⟩) hgl).trans k8
   have hbn : b ∉ R2.own := fun h => by have := HR2.out.own_lt b h; omega
   have HRC := Lib.hid hRC
   have HBN := Lib.hid hbn
   clear hRC hbn k3 k8 t0 t1 t2 HKP
   by_cases e1s : st = 1
   ·as_aux_lemma =>
    subst e1s
    have hhe : Calls Tryz.prog 63 #[.pointer (some ⟨R.g, 0, none⟩), .agg #[.int .i64 (k : Int), .int .i64 2, .int .i64 ic]] wc.drew fun e w' => e = .returned (.tuple #[]) ∧ ∃ f, RAt w' { R2 with sn := f } (e2.hear ⟨(k : Int), 2, ic⟩) ∧ Touch (fun k => k = R2.g ∨ k = R2.gt) wc.drew w' := by
     rw [← hg2]
     exact rdhear_any R2 e2 HOK3.out ⟨(k : Int), 2, ic⟩ wc.drew (HRC.out.keep fun _ _ => rfl)
    have HHE := Lib.hid hhe
    clear hhe
    go_wp2_with fail
    go_region_held (fun w' => w'.cell? ⟨R.g, 8, none⟩ = some (.int .i64 (k : Int)) ∧ w'.cell? ⟨b, 2, none⟩ = some (.int .i64 ic)) (first | exact ⟨j8, b2⟩ | exact ⟨i8, i2⟩) (first | (go_at_call 63; refine HHE.out.mono ?_; rintro e w7 ⟨rfl, f', hR7, hT7⟩; have i8 : w7.cell? ⟨R.g, 8, none⟩ = some (.int .i64 (k : Int)) := (by rw [← htg, ← hg2]; exact hR7.cell 8); have i2 : w7.cell? ⟨b, 2, none⟩ = some (.int .i64 ic) := (World.cell?_of_block (a := ⟨b, 2, none⟩) (hT7.block b hbl fun e => HBN.out (e.elim (fun e => by rw [e]; exact R2.mem_g) fun e => by rw [e]; exact R2.mem_gt))).trans b2))
    all_goals
     have z7 : w7.frozen? ⟨R.g, 7, none⟩ = false := by rw [← hg2]; exact hR7.frozen 7
     have j7 : w7.cell? ⟨R.g, 7, none⟩ = some (.bool (e2.hear ⟨(k : Int), 2, ic⟩).pr.isSome) := by rw [← hg2]; exact hR7.cell 7
     have hR8 : RAt (w7.setCell ⟨R.g, 7, none⟩ (.bool false)) { R2 with sn := f' } { e2.hear ⟨(k : Int), 2, ic⟩ with pr := none } := by
      rw [← hg2]
      exact hR7.scalar ⟨rfl, rfl, rfl, rfl, rfl⟩ ⟨rfl, rfl, rfl, rfl, rfl⟩ ⟨fun p hp => (nomatch hp), hR7.opn.sn⟩ (heap_cellSame _ _ _ _ _ _ hR7.obj) fun q hq => Below.heap_setCell w7 ⟨R2.g, 7, none⟩ _ q hq
     have hT8 : Touch (fun k => k ∈ R2.own) we (w7.setCell ⟨R.g, 7, none⟩ (.bool false)) :=
      ((Touch.of_below (L := fun k => k ∈ R2.own) HBC.out (Nat.le_refl _)).trans (Touch.mono (L' := fun k => k ∈ R2.own) (⟨hT7.os, hT7.tape, hT7.output, hT7.size, hT7.block⟩ : Touch (fun k => k = R2.g ∨ k = R2.gt) wc w7) fun n _ e => e.elim (fun e => by rw [e]; exact R2.mem_g) fun e => by rw [e]; exact R2.mem_gt) fun _ _ h => h).trans (touch_set (fun k => k ∈ R2.own) w7 ⟨R.g, 7, none⟩ (.bool false) (by show R.g ∈ R2.own; rw [← hg2]; exact R2.mem_g)) fun _ _ h => h
     have hr : RMid R e2.give out1 w (.slice o2 ps2.length c2) (w7.setCell ⟨R.g, 7, none⟩ (.bool false)) := by
      rw [HGI1.out (by first | rfl | trivial)]
      exact RMid.step HM2.out HP2.out HA2.out HNW2.out HT2.out hT8 hR8 ⟨rfl, rfl, rfl⟩ rfl
     have HRR := Lib.hid hr
     clear hr hR8 hT8 hR7 hT7 i8 i2
     go_wp2_with fail
     go_meet
     exact HRR.out
   ·as_aux_lemma =>
    have f1 : (st == 1) = false := by simpa using e1s
    have z7 : wc.frozen? ⟨R.g, 7, none⟩ = false := by rw [← hg2]; exact HRC.out.frozen 7
    have j7 : wc.cell? ⟨R.g, 7, none⟩ = some (.bool e2.pr.isSome) := by rw [← hg2]; exact HRC.out.cell 7
    have hR8 : RAt (wc.setCell ⟨R.g, 7, none⟩ (.bool false)) R2 { e2 with pr := none } := by
     rw [← hg2]
     exact HRC.out.scalar ⟨rfl, rfl, rfl, rfl, rfl⟩ ⟨rfl, rfl, rfl, rfl, rfl⟩ ⟨fun p hp => (nomatch hp), HRC.out.opn.sn⟩ (heap_cellSame _ _ _ _ _ _ HRC.out.obj) fun q hq => Below.heap_setCell wc ⟨R2.g, 7, none⟩ _ q hq
    have hT8 : Touch (fun k => k ∈ R2.own) we (wc.setCell ⟨R.g, 7, none⟩ (.bool false)) :=
     (Touch.of_below (L := fun k => k ∈ R2.own) HBC.out (Nat.le_refl _)).trans (touch_set (fun k => k ∈ R2.own) wc ⟨R.g, 7, none⟩ (.bool false) (by show R.g ∈ R2.own; rw [← hg2]; exact R2.mem_g)) fun _ _ h => h
    have hr : RMid R e2.give out1 w (.slice o2 ps2.length c2) (wc.setCell ⟨R.g, 7, none⟩ (.bool false)) := by
     rw [HGI2.out e1s]
     exact RMid.step HM2.out HP2.out HA2.out HNW2.out HT2.out hT8 hR8 ⟨rfl, rfl, rfl⟩ rfl
    have HRR := Lib.hid hr
    clear hr hR8 hT8 e1s
    go_wp2_with fail
    go_meet
    exact HRR.out
 case rest =>
  go_step
  exact rtick_begin R d e2 out1 w wc HTK2 HOL HOK3 HN3 hcut
end Go.Proofs.YtejihgfigclppaaGreat
