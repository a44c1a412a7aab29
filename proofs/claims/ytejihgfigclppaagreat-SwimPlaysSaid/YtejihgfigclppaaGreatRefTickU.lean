/-
  The last part of the reference's Tick: the next probe.
-/
import Derived.Test.YtejihgfigclppaaGreatMRefLeave
import Derived.Test.YtejihgfigclppaaGreatMRefOnce
import Derived.Test.YtejihgfigclppaaGreatMSwimU
namespace Go.Proofs.YtejihgfigclppaaGreat
open Go.Shelf Go.RowKit Go.Lib Go.Sort
set_option linter.unusedVariables false
set_option linter.unusedSimpArgs false
theorem RAt.turnedOrd {W W' : World} {R : RM} {d : Det} (h : RAt W R d) (hg : W.grownBy W' (some R.go)) {s : Int} {ws : List Int} {wb : Option Nat} (hw : RWaits W' R.go wb s ws) (hn : ∀ b, wb = some b → R.wb = some b ∨ W.heap.size ≤ b) : RAt W' { R with wb := wb } { d with s := s, ws := ws } := by
 obtain ⟨n1, n2, n3, n4, n5⟩ := rnod_ne h.nod
 have ho : ∀ k, k < W.heap.size → k ≠ R.go → W'.heap[k]? = W.heap[k]? := fun k hk hne => hg.block k hk fun e => hne (Option.some.inj e)
 refine ⟨(ho _ h.lt n2).trans h.obj, h.tab.keep (ho _ h.tab.lt n3), hw, h.ers.keep fun b hb => ho b (h.ers.lt b hb).2 (n4 b hb).2.2, ?_, ⟨h.opn.pr, h.opn.sn⟩⟩
 have hnd := h.nod
 have hlt := h.own_lt
 unfold RM.own at hnd hlt ⊢
 have e : ∀ x : List Nat, R.g :: R.gt :: R.go :: (R.ev.ownBlock.toList ++ x) = (R.g :: R.gt :: R.go :: R.ev.ownBlock.toList) ++ x := fun x => by simp
 dsimp only
 rw [e] at hnd hlt ⊢
 rw [List.nodup_append] at hnd ⊢
 refine ⟨hnd.1, ?_, fun a ha b hb hab => ?_⟩
 ·cases wb <;> simp
 ·rcases hn b (by simpa using hb) with h2 | h2
  ·exact hnd.2.2 a ha b (by rw [h2]; simp) hab
  ·have h1 := hlt a (List.mem_append_left _ ha)
   omega
def RMid (R : RM) (d' : Det) (out : List Sent) (w : World) (v : Value) (wx : World) : Prop := ∃ R' ps, RAt wx R' d' ∧ MsgsAt w.heap.size wx v ps ∧ ps.map (·.2) = out ∧ Aside R'.own v ps ∧ RNew R R' w ∧ Touch (fun k => k ∈ R.own) w wx
def NextIs (R : RM) (d : Det) (w : World) (x : Int) (ok : Bool) (wx : World) : Prop := (ok = false ∧ othersT d.self d.tab = [] ∧ RAt wx R d) ∨ (ok = true ∧ othersT d.self d.tab ≠ [] ∧ (nextL d.s d.ws (othersT d.self d.tab)).2.head? = some x ∧ ∃ wb, RAt wx { R with wb := wb } { d with s := (nextL d.s d.ws (othersT d.self d.tab)).1, ws := (nextL d.s d.ws (othersT d.self d.tab)).2.tail } ∧ ∀ b, wb = some b → w.heap.size ≤ b)
theorem RAt.probes {W6 W : World} {R : RM} {d : Det} (h : RAt W6 R d) (x q b : Int) (hW : W.heap = ((((W6.setCell ⟨R.g, 7, none⟩ (.bool true)).setCell ⟨R.g, 8, none⟩ (.int .i64 x)).setCell ⟨R.g, 9, none⟩ (.int .i64 q)).setCell ⟨R.g, 10, none⟩ (.int .i64 b)).heap) :
  RAt W { R with tgt := x, seq := q, beg := b } { d with pr := some (q, x), began := b } ∧ (W.os = W6.os → W.tape = W6.tape → W.output = W6.output → Touch (fun k => k = R.g) W6 W) := by
 refine ⟨h.scalar ⟨rfl, rfl, rfl, rfl, rfl⟩ ⟨rfl, rfl, rfl, rfl, rfl⟩ ⟨fun p hp => by cases hp; exact ⟨rfl, rfl, rfl⟩, h.opn.sn⟩ ?_ fun k hk => ?_, fun h2 h3 h4 => ⟨h2, h3, h4, ?_, fun k _ hk => ?_⟩⟩
 ·rw [hW]
  exact heap_cellSame _ _ _ _ _ _ (heap_cellSame _ _ _ _ _ _ (heap_cellSame _ _ _ _ _ _ (heap_cellSame _ _ _ _ _ _ h.obj)))
 ·rw [hW]
  exact (Below.heap_setCell _ ⟨R.g, 10, none⟩ _ k hk).trans ((Below.heap_setCell _ ⟨R.g, 9, none⟩ _ k hk).trans ((Below.heap_setCell _ ⟨R.g, 8, none⟩ _ k hk).trans (Below.heap_setCell _ ⟨R.g, 7, none⟩ _ k hk)))
 ·rw [hW]
  simp [World.setCell]
 ·rw [hW]
  exact (Below.heap_setCell _ ⟨R.g, 10, none⟩ _ k hk).trans ((Below.heap_setCell _ ⟨R.g, 9, none⟩ _ k hk).trans ((Below.heap_setCell _ ⟨R.g, 8, none⟩ _ k hk).trans (Below.heap_setCell _ ⟨R.g, 7, none⟩ _ k hk)))
theorem around_out_len (d : Det) : d.around.2.length ≤ 8 := by
 unfold Det.around
 split
 ·exact Nat.zero_le _
 ·rename_i p hp
  split
  ·rw [List.length_map]
   have h1 := someL_len d.s (d.aroundL p.2) d.c.ind
   have h3 : (d.aroundL p.2).length ≤ 8 := Nat.le_trans (List.length_filter_le _ _) (othersT_len _ _)
   omega
  ·exact Nat.zero_le _
theorem RMid.step {R R2 R3 : RM} {d' : Det} {out : List Sent} {w we W8 : World} {v : Value} {ps : List PSent} (hM : MsgsAt w.heap.size we v ps) (hP : ps.map (·.2) = out) (hA : Aside R2.own v ps) (hN : RNew R R2 w) (hT : Touch (fun k => k ∈ R.own) w we) (hT8 : Touch (fun k => k ∈ R2.own) we W8) (hR3 : RAt W8 R3 d') (hg : R3.g = R2.g ∧ R3.gt = R2.gt ∧ R3.go = R2.go) (ho : R3.own = R2.own) : RMid R d' out w v W8 :=
 ⟨R3, ps, hR3, hM.touch hT8 fun b hb => hA b hb, hP, by rw [ho]; exact hA, ⟨hg.1.trans hN.g, hg.2.1.trans hN.gt, hg.2.2.trans hN.go, by rw [ho]; exact hN.own⟩, hT.trans hT8 fun n hn hL => (hN.own n hL).elim id fun h => by omega⟩
def codeDrop : Nat → Code → Code
 | 0, c => c
 | n + 1, .seq _ b => codeDrop n b
 | _ + 1, c => c
noncomputable def tail27b : Code := codeDrop 7 (Tryz.f27.body.getD .skip)
set_option maxRecDepth 100000 in
set_option maxHeartbeats 32000000 in
theorem rtick_begin (R : RM) (d e2 : Det) (out1 : List Sent) (w wc : World) (HTK2 : Hid (d.tick = (e2.give.begin.1, out1 ++ e2.give.begin.2))) (HOL : Hid (out1.length ≤ 8)) (HOK3 : Hid (DetOk e2)) (HN3 : Hid (e2.num < 1000000)) {u1 u2 u3 u4 u5 u6 u7 u8 u9 u10 u11 u12 u13 u14 u15 u16 u17 u18 u19 u20 u21 u22 u23 u24 u25 u26 u27 u28 u29 u30 u31 u32 u33 u34 u35 u36 u37 u38 u39 u40 u41 u42 u43 u44 u45 u46 u47 u48 u49 u50 u51 u52 u53 u54 u55 u56 u57 u58 u59 u60 u61 u62 u63 u64 u65 u66 u67 u68 u69 u70 u71 u72 u73 u74 u75 u76 u77 u78 u79 u80 u81 u82 u83 u84 u85 u86 u87 u88 u89 u90 u91 u92 u93 u94 u95 u96 u97 u98 u99 u100 u101 u102 u103 u104 u105 u106 u107 u108 u109 u110 u111 u112 u113 u114 u115 u116 u117 u118 u119 u120 u121 u122 u123 u124 u125 u126 u127 u128 u129 u130 u131 u132 u133 u134 u135 u136 u137 u138 u139 u140 u141 u142 u143 u144 u145 u146 u147 u148 u149 u150 u151 u152 u153 u154 u155 u156 u157 u158 u159 u160 u161 u162 u163 u164 u165 u166 u167 u168 u169 u170 u171 u172 u173 u174 u175 u176 u177 u178 u179 u180 u181 u182 u183 u184 u185 u186 u187 u188 u189 u190 u191 u192 u193 u194 u195 u196 u197 u198 u199 u200 u201 u202 u203 u204 u205 u206 u207 u208 u209 u210 u211 u212 u213 u214 u215 u216 u217 u218 u219 u220 u221 u222 u223 u224 u225 u226 u227 u228 u229 u230 u231 u232 u233 u234 u235 u236 u237 u238 u239 u240 u241 u242 u243 u244 u245 u246 u247 u248 u249 u250 u251 u252 u253 u254 u255 u256 : Value} :
  Hid (RMid R e2.give out1 w u3 wc) → Code.wp Tryz.prog tail27b (bodyPost Tryz.prog Tryz.f27 fun e w' => ∃ v, e = .returned v ∧ RStepped R d.tick.1 d.tick.2 w v w') { tmps := List.toArray (.pointer (some ⟨R.g, 0, none⟩) :: u1 :: u2 :: u3 :: u4 :: u5 :: u6 :: u7 :: u8 :: u9 :: u10 :: u11 :: u12 :: u13 :: u14 :: u15 :: u16 :: u17 :: u18 :: u19 :: u20 :: u21 :: u22 :: u23 :: u24 :: u25 :: u26 :: u27 :: u28 :: u29 :: u30 :: u31 :: u32 :: u33 :: u34 :: u35 :: u36 :: u37 :: u38 :: u39 :: u40 :: u41 :: u42 :: u43 :: u44 :: u45 :: u46 :: u47 :: u48 :: u49 :: u50 :: u51 :: u52 :: u53 :: u54 :: u55 :: u56 :: u57 :: u58 :: u59 :: u60 :: u61 :: u62 :: u63 :: u64 :: u65 :: u66 :: u67 :: u68 :: u69 :: u70 :: u71 :: u72 :: u73 :: u74 :: u75 :: u76 :: u77 :: u78 :: u79 :: u80 :: u81 :: u82 :: u83 :: u84 :: u85 :: u86 :: u87 :: u88 :: u89 :: u90 :: u91 :: u92 :: u93 :: u94 :: u95 :: u96 :: u97 :: u98 :: u99 :: u100 :: u101 :: u102 :: u103 :: u104 :: u105 :: u106 :: u107 :: u108 :: u109 :: u110 :: u111 :: u112 :: u113 :: u114 :: u115 :: u116 :: u117 :: u118 :: u119 :: u120 :: u121 :: u122 :: u123 :: u124 :: u125 :: u126 :: u127 :: u128 :: u129 :: u130 :: u131 :: u132 :: u133 :: u134 :: u135 :: u136 :: u137 :: u138 :: u139 :: u140 :: u141 :: u142 :: u143 :: u144 :: u145 :: u146 :: u147 :: u148 :: u149 :: u150 :: u151 :: u152 :: u153 :: u154 :: u155 :: u156 :: u157 :: u158 :: u159 :: u160 :: u161 :: u162 :: u163 :: u164 :: u165 :: u166 :: u167 :: u168 :: u169 :: u170 :: u171 :: u172 :: u173 :: u174 :: u175 :: u176 :: u177 :: u178 :: u179 :: u180 :: u181 :: u182 :: u183 :: u184 :: u185 :: u186 :: u187 :: u188 :: u189 :: u190 :: u191 :: u192 :: u193 :: u194 :: u195 :: u196 :: u197 :: u198 :: u199 :: u200 :: u201 :: u202 :: u203 :: u204 :: u205 :: u206 :: u207 :: u208 :: u209 :: u210 :: u211 :: u212 :: u213 :: u214 :: u215 :: u216 :: u217 :: u218 :: u219 :: u220 :: u221 :: u222 :: u223 :: u224 :: u225 :: u226 :: u227 :: u228 :: u229 :: u230 :: u231 :: u232 :: u233 :: u234 :: u235 :: u236 :: u237 :: u238 :: u239 :: u240 :: u241 :: u242 :: u243 :: u244 :: u245 :: u246 :: u247 :: u248 :: u249 :: u250 :: u251 :: u252 :: u253 :: u254 :: u255 :: u256 :: []), defers := [] } wc := by
 intro hcut
 have hp : Tryz.prog.follows .mixedOrders = true := by kernel_rfl
 conv => enter [2]; whnf
 obtain ⟨R3, ps3, hR3, hM3, hP3, hA3, hN3, hT3⟩ := hcut.out
 obtain ⟨o3, c3, rfl⟩ := slAt_slice hM3.1.at
 have hok4 := HOK3.out.give
 have hn4 : e2.give.num < 1000000 := by rw [(same_give e2).num]; exact HN3.out
 have HOK4 := Lib.hid hok4
 have HN4 := Lib.hid hn4
 have HR3 := Lib.hid hR3
 have HM3 := Lib.hid hM3
 have HP3 := Lib.hid hP3
 have HA3 := Lib.hid hA3
 have HNW3 := Lib.hid hN3
 have HT3 := Lib.hid hT3
 have hg3 := hN3.g
 clear hok4 hn4 hR3 hM3 hP3 hA3 hN3 hT3 hcut HOK3 HN3
 generalize e2.give = e3 at *
 have k7 : wc.cell? ⟨R.g, 7, none⟩ = some (.bool e3.pr.isSome) := by rw [← hg3]; exact HR3.out.cell 7
 cases hpr : e3.pr with
 | some p =>
  rw [hpr] at k7
  have hb : e3.begin = (e3, []) := by unfold Det.begin; rw [hpr]
  have hr : RStepped R d.tick.1 d.tick.2 w (.slice o3 ps3.length c3) wc := by
   rw [HTK2.out, hb]
   exact ⟨R3, ps3, HR3.out, HM3.out, by rw [List.append_nil]; exact HP3.out, HNW3.out, HT3.out⟩
  have HRR := Lib.hid hr
  clear hr hb hpr
  go_wp2_with fail
  go_ret
  exact ⟨_, rfl, HRR.out⟩
 | none =>
  rw [hpr] at k7
  have k3 : wc.cell? ⟨R.g, 3, none⟩ = some (.pointer (some ⟨R3.gt, 0, none⟩)) := by rw [← hg3]; exact HR3.out.cell 3
  have k4 : wc.cell? ⟨R.g, 4, none⟩ = some (.pointer (some ⟨R3.go, 0, none⟩)) := by rw [← hg3]; exact HR3.out.cell 4
  have hgl : R.g < wc.heap.size := by rw [← hg3]; exact HR3.out.lt
  obtain ⟨n1, n2, n3, n4, n5⟩ := rnod_ne HR3.out.nod
  have hRd : RAt wc.drew R3 e3 := HR3.out.keep fun _ _ => rfl
  have hot := rothers_any R3.gt e3.self e3.tab HOK4.out.tab wc.drew hRd.tab
  have hl8 := othersT_len e3.self e3.tab
  have hws := HOK4.out.ws
  have hkp : ∀ W : World, Below wc.drew.heap.size wc.drew W → W.cell? ⟨R.g, 3, none⟩ = some (.pointer (some ⟨R3.gt, 0, none⟩)) ∧ W.cell? ⟨R.g, 4, none⟩ = some (.pointer (some ⟨R3.go, 0, none⟩)) := fun W hW =>
   ⟨(hW.cell (p := ⟨R.g, 3, none⟩) hgl).trans k3, (hW.cell (p := ⟨R.g, 4, none⟩) hgl).trans k4⟩
  have hkq : ∀ W V : World, W.cell? ⟨R.g, 3, none⟩ = some (.pointer (some ⟨R3.gt, 0, none⟩)) ∧ W.cell? ⟨R.g, 4, none⟩ = some (.pointer (some ⟨R3.go, 0, none⟩)) → R.g < W.heap.size → W.grownBy V (some R3.go) → V.cell? ⟨R.g, 3, none⟩ = some (.pointer (some ⟨R3.gt, 0, none⟩)) ∧ V.cell? ⟨R.g, 4, none⟩ = some (.pointer (some ⟨R3.go, 0, none⟩)) := fun W V h1 h2 h3 =>
   have hb := h3.block R.g h2 fun e => n2 (hg3.trans (Option.some.inj e))
   ⟨(World.cell?_of_block (a := ⟨R.g, 3, none⟩) hb).trans h1.1, (World.cell?_of_block (a := ⟨R.g, 4, none⟩) hb).trans h1.2⟩
  have hnx : othersT e3.self e3.tab ≠ [] → ∀ (W : World) (o : Option Addr) (c : Nat), Below wc.drew.heap.size wc.drew W → SlAt icells W (.slice o (othersT e3.self e3.tab).length c) (othersT e3.self e3.tab) →
    Calls Tryz.prog 66 #[.pointer (some ⟨R3.go, 0, none⟩), .slice o (othersT e3.self e3.tab).length c] W fun e w' => ∃ x, e = .returned (.tuple #[.int .i64 x, .bool true]) ∧ NextIs R3 e3 wc x true w' ∧ W.grownBy w' (some R3.go) := fun hne W o c hW hs => by
   have hRW := hRd.below hW
   have hsz := hW.size
   refine (rnext_new R3.go (R3.go + 1) W.heap.size e3.s e3.ws o c _ W hRW.ord.obj hRW.ord.lt (Nat.le_refl _) hs hne (by omega) (by omega)).mono ?_
   rintro e w' ⟨x, rfl, hx, hob, hg⟩
   obtain ⟨wb, hwb, hwn⟩ := rwaits_of hob
   exact ⟨x, rfl, .inr ⟨rfl, hne, hx, wb, hRW.turnedOrd hg hwb fun b hb => .inr (hwn b hb), fun b hb => Nat.le_trans hsz (hwn b hb)⟩, hg⟩
  have HOT := Lib.hid hot
  have HKP := Lib.hid hkp
  have HKQ := Lib.hid hkq
  have HNX := Lib.hid hnx
  have HRD := Lib.hid hRd
  have HPR := Lib.hid hpr
  clear hot hkp hkq hnx hRd hpr n1 n2 n3 n4 n5
  go_wp2_with fail
  generalize hwe : wc = we at *
  have HWE := Lib.hid hwe
  clear hwe
  go_cut [12, 13] (fun s12 s13 wx => ∃ (x : Int) (ok : Bool), s12 = .int .i64 x ∧ s13 = .bool ok ∧ Hid (NextIs R3 e3 we x ok wx) ∧ Hid (Touch (fun k => k = R3.go) we wx))
  case first =>
   by_cases hz : othersT e3.self e3.tab = []
   ·as_aux_lemma =>
    have hot := HOT.out
    rw [hz] at hot
    have HOT := Lib.hid hot
    have HZ := Lib.hid hz
    clear hot hz
    go_region_held (fun w' => w'.cell? ⟨R.g, 3, none⟩ = some (.pointer (some ⟨R3.gt, 0, none⟩)) ∧ w'.cell? ⟨R.g, 4, none⟩ = some (.pointer (some ⟨R3.go, 0, none⟩))) (first | exact ⟨k3, k4⟩ | exact ⟨j3, j4⟩) (first | (go_at_call 35; refine HOT.out.mono ?_; rintro e w7 ⟨o7, c7, rfl, ho7, hb7⟩; obtain ⟨j3, j4⟩ := HKP.out w7 hb7) | (go_at_call 66; refine (refNextNone_any R3.go o7 c7 w7).mono ?_; rintro e w8 ⟨rfl, rfl⟩))
    all_goals
     go_wp2_with fail
     go_meet
     exact ⟨0, false, rfl, rfl, .inl ⟨rfl, HZ.out, HRD.out.below hb7⟩, Touch.of_below (B := we.heap.size) ⟨hb7.os, hb7.tape, hb7.output, hb7.size, hb7.block⟩ (Nat.le_refl _)⟩
   ·as_aux_lemma =>
    have HZ := Lib.hid hz
    clear hz
    go_region_held (fun w' => w'.cell? ⟨R.g, 3, none⟩ = some (.pointer (some ⟨R3.gt, 0, none⟩)) ∧ w'.cell? ⟨R.g, 4, none⟩ = some (.pointer (some ⟨R3.go, 0, none⟩))) (first | exact ⟨k3, k4⟩ | exact ⟨j3, j4⟩ | exact HKQ.out w7 w8 ⟨j3, j4⟩ (Nat.lt_of_lt_of_le hgl hb7.size) hg8) (first | (go_at_call 35; refine HOT.out.mono ?_; rintro e w7 ⟨o7, c7, rfl, ho7, hb7⟩; obtain ⟨j3, j4⟩ := HKP.out w7 hb7) | (go_at_call 66; refine (HNX.out HZ.out w7 o7 c7 hb7 ho7.at).mono ?_; rintro e w8 ⟨x8, rfl, hx8, hg8⟩))
    all_goals
     go_wp2_with fail
     go_meet
     exact ⟨x8, true, rfl, rfl, hx8, (Touch.of_below (L := fun k => k = R3.go) (B := we.heap.size) (⟨hb7.os, hb7.tape, hb7.output, hb7.size, hb7.block⟩ : Below we.heap.size we w7) (Nat.le_refl _)).trans (Touch.of_grown hg8 fun j hj => (Option.some.inj hj).symm) fun _ _ h => h⟩
  have HT3S : w.heap.size ≤ we.heap.size := HT3.out.size
  have HBLT : Hid (∀ b, (Value.slice o3 ps3.length c3).ownBlock = some b → w.heap.size ≤ b ∧ b < we.heap.size) := fun b hb => HM3.out.blk b (.inl hb)
  obtain ⟨x, ok, rfl, rfl, HNI, HTN⟩ := hcut
  have hMw : MsgsAt w.heap.size wc (.slice o3 ps3.length c3) ps3 := HM3.out.touch HTN.out fun b hb e => HA3.out b hb (by rw [e]; exact R3.mem_go)
  have hTw : Touch (fun k => k ∈ R.own) w wc := HT3.out.trans HTN.out fun n hn hL => (HNW3.out.own n (by rw [hL]; exact R3.mem_go)).elim id fun h => by omega
  have HMW := Lib.hid hMw
  have HTW := Lib.hid hTw
  clear hMw hTw k3 k4 k7 HOT HKP HKQ HNX HRD HM3 HT3 HTN
  cases ok with
  | false =>
   obtain ⟨_, hz, hRc⟩ := HNI.out.resolve_right fun h => by cases h.1
   have hb : e3.begin = (e3, []) := by unfold Det.begin; rw [HPR.out]; exact if_pos hz
   have hr : RStepped R d.tick.1 d.tick.2 w (.slice o3 ps3.length c3) wc := by
    rw [HTK2.out, hb]
    exact ⟨R3, ps3, hRc, HMW.out, by rw [List.append_nil]; exact HP3.out, HNW3.out, HTW.out⟩
   have HRR := Lib.hid hr
   clear hr hb hz hRc HNI
   go_wp2_with fail
   go_ret
   exact ⟨_, rfl, HRR.out⟩
  | true =>
   obtain ⟨_, hne, hx, wb, hRc, hwb⟩ := HNI.out.resolve_left fun h => by cases h.1
   have hbe : e3.begin = ({ e3 with s := (nextL e3.s e3.ws (othersT e3.self e3.tab)).1, ws := (nextL e3.s e3.ws (othersT e3.self e3.tab)).2.tail, num := e3.num + 1, pr := some (e3.num + 1, x), began := e3.clock }, [Det.send { e3 with s := (nextL e3.s e3.ws (othersT e3.self e3.tab)).1, ws := (nextL e3.s e3.ws (othersT e3.self e3.tab)).2.tail, num := e3.num + 1, pr := some (e3.num + 1, x), began := e3.clock } 1 x (e3.num + 1) 0]) := by
    have hd : (nextL e3.s e3.ws (othersT e3.self e3.tab)).2.headD 0 = x := by
     rw [List.headD_eq_head?_getD, hx]; rfl
    unfold Det.begin
    rw [HPR.out]
    dsimp only
    rw [if_neg hne, hd]
   have hok5 := HOK4.out.begin HN4.out
   rw [hbe] at hok5
   have hws5 : (nextL e3.s e3.ws (othersT e3.self e3.tab)).2.tail.length ≤ 8 := hok5.ws
   rw [hbe] at HTK2
   have HBE := Lib.hid (HTK2.out)
   have HOK5 := Lib.hid hok5
   generalize (nextL e3.s e3.ws (othersT e3.self e3.tab)).1 = s5 at *
   generalize (nextL e3.s e3.ws (othersT e3.self e3.tab)).2.tail = ws5 at *
   have hnum := HOK4.out.num
   have wk : IntKind.i64.wrap (e3.num + 1) = e3.num + 1 := by rw [IntKind.wrap_i64]; omega
   have k6 : wc.cell? ⟨R.g, 6, none⟩ = some (.int .i64 e3.num) := by rw [← hg3]; exact hRc.cell 6
   have z6 : wc.frozen? ⟨R.g, 6, none⟩ = false := by rw [← hg3]; exact hRc.frozen 6
   have hR6 : RAt (wc.setCell ⟨R.g, 6, none⟩ (.int .i64 (e3.num + 1))) { R3 with wb := wb } { e3 with s := s5, ws := ws5, num := e3.num + 1 } := by
    rw [← hg3]
    exact hRc.scalar ⟨rfl, rfl, rfl, rfl, rfl⟩ ⟨rfl, rfl, rfl, rfl, rfl⟩ ⟨hRc.opn.pr, hRc.opn.sn⟩ (heap_cellSame _ _ _ _ _ _ hRc.obj) fun q hq => Below.heap_setCell wc ⟨R3.g, 6, none⟩ _ q hq
   have hT6 := touch_set (fun k => k = R3.g) wc ⟨R.g, 6, none⟩ (.int .i64 (e3.num + 1)) (by show R.g = R3.g; exact hg3.symm)
   have HR6 := Lib.hid hR6
   have HT6 := Lib.hid hT6
   have HWB := Lib.hid hwb
   clear hbe hok5 hws5 hne hx hRc hwb hR6 hT6 HNI HTK2 HPR hnum
   go_wp2_with fail
   generalize hw6 : wc.setCell ⟨R.g, 6, none⟩ (.int .i64 (e3.num + 1)) = w6 at *
   have j6 : w6.cell? ⟨R.g, 6, none⟩ = some (.int .i64 (e3.num + 1)) := by rw [← hg3]; exact HR6.out.cell 6
   have j5 : w6.cell? ⟨R.g, 5, none⟩ = some (.int .i64 e3.clock) := by rw [← hg3]; exact HR6.out.cell 5
   have j7 : w6.cell? ⟨R.g, 7, none⟩ = some (.bool e3.pr.isSome) := by rw [← hg3]; exact HR6.out.cell 7
   have j8 : w6.cell? ⟨R.g, 8, none⟩ = some (.int .i64 R3.tgt) := by rw [← hg3]; exact HR6.out.cell 8
   have j9 : w6.cell? ⟨R.g, 9, none⟩ = some (.int .i64 R3.seq) := by rw [← hg3]; exact HR6.out.cell 9
   have j10 : w6.cell? ⟨R.g, 10, none⟩ = some (.int .i64 R3.beg) := by rw [← hg3]; exact HR6.out.cell 10
   have zz : ∀ k, w6.frozen? ⟨R.g, k, none⟩ = false := fun k => by rw [← hg3]; exact HR6.out.frozen k
   have z7 := zz 7
   have z8 := zz 8
   have z9 := zz 9
   have z10 := zz 10
   have hres : ∀ W : World, W.heap = ((((w6.setCell ⟨R.g, 7, none⟩ (.bool true)).setCell ⟨R.g, 8, none⟩ (.int .i64 x)).setCell ⟨R.g, 9, none⟩ (.int .i64 (e3.num + 1))).setCell ⟨R.g, 10, none⟩ (.int .i64 e3.clock)).heap → W.os = w6.os → W.tape = w6.tape → W.output = w6.output →
     RAt W { R3 with wb := wb, tgt := x, seq := e3.num + 1, beg := e3.clock } { e3 with s := s5, ws := ws5, num := e3.num + 1, pr := some (e3.num + 1, x), began := e3.clock } ∧ Touch (fun k => k = R3.g) wc W := fun W h1 h2 h3 h4 => by
    rw [← hg3] at h1
    have h5 := HR6.out.probes x (e3.num + 1) e3.clock h1
    exact ⟨h5.1, HT6.out.trans (h5.2 h2 h3 h4) fun _ _ h => h⟩
   have HRES := Lib.hid hres
   clear hres zz hw6 HR6 k6 z6 wk
   generalize hwf : wc = wf at *
   have HWF := Lib.hid hwf
   clear hwf
   go_cut [3] (fun s3 wx => s3 = .slice o3 ps3.length c3 ∧ Hid (RAt wx { R3 with wb := wb, tgt := x, seq := e3.num + 1, beg := e3.clock } { e3 with s := s5, ws := ws5, num := e3.num + 1, pr := some (e3.num + 1, x), began := e3.clock }) ∧ Hid (Touch (fun k => k = R3.g) wf wx))
   case first =>
    go_region_law (fail)
    all_goals
     go_wp2_with fail
     go_meet
     exact ⟨rfl, HRES.out _ rfl rfl rfl rfl⟩
   case rest =>
    obtain ⟨rfl, HR8, HT8⟩ := hcut
    have k9 : wc.cell? ⟨R.g, 9, none⟩ = some (.int .i64 (e3.num + 1)) := by rw [← hg3]; exact HR8.out.cell 9
    have hse : Calls Tryz.prog 65 #[.pointer (some ⟨R.g, 0, none⟩), .int .i64 1, .int .i64 x, .int .i64 (e3.num + 1), .int .i64 0] wc fun e w' => ∃ o c, e = .returned (sentV (Det.send { e3 with s := s5, ws := ws5, num := e3.num + 1, pr := some (e3.num + 1, x), began := e3.clock } 1 x (e3.num + 1) 0) o c) ∧ Owns Mb.cells 3 wc.heap.size 45 w' (.slice o (allT e3.tab).length c) (allT e3.tab) ∧ Below wc.heap.size wc w' := by
     rw [← hg3]
     exact rsend_any { R3 with wb := wb, tgt := x, seq := e3.num + 1, beg := e3.clock } { e3 with s := s5, ws := ws5, num := e3.num + 1, pr := some (e3.num + 1, x), began := e3.clock } 1 x (e3.num + 1) 0 wc HOK5.out HR8.out
    have hM8 : MsgsAt w.heap.size wc (.slice o3 ps3.length c3) ps3 := HMW.out.touch HT8.out fun b hb e => HA3.out b hb (by rw [e]; exact R3.mem_g)
    have hT8w : Touch (fun k => k ∈ R.own) w wc := HTW.out.trans HT8.out fun n hn hL => (HNW3.out.own n (by rw [hL]; exact R3.mem_g)).elim id fun h => by omega
    have hps : ps3.length ≤ 8 := by have h1 := congrArg List.length HP3.out; rw [List.length_map] at h1; rw [h1]; exact HOL.out
    have hswc : w.heap.size ≤ wc.heap.size := hT8w.size
    have HSE := Lib.hid hse
    have HM8 := Lib.hid hM8
    have HT8W := Lib.hid hT8w
    clear hse hM8 hT8w HMW HTW HT8 HRES HT6
    go_wp2_with fail
    refine HSE.out.mono ?_
    rintro e w8 ⟨o8, c8, rfl, ho8, hb8⟩
    have HO8 := Lib.hid ho8
    have HB8 := Lib.hid hb8
    clear ho8 hb8 HSE
    unfold sentV Det.send
    dsimp only
    go_wp2_with (at_builtin; refine wpList_app scells 16 scells_len (by decide) scells_one _ rfl _ _ 34 rfl w.heap.size 42 _ 176 Tryz.underlying34 infoMsg rfl _ ps3 rfl ?h1 _ [((⟨o8, (allT e3.tab).length, c8⟩ : Hdr), (⟨1, e3.self, x, e3.num + 1, 0, allT e3.tab⟩ : Sent))] rfl ?h2 ?h3 ?h4 ?h5 ?_)
    case h1 => exact (HM8.out.1.below HB8.out (Nat.le_refl _)).below ((Below.refl _ _).alloc (Nat.le_refl _) _) (Nat.le_refl _)
    case h2 => exact (owns_new scells_len w8 (scells (⟨o8, (allT e3.tab).length, c8⟩, (⟨1, e3.self, x, e3.num + 1, 0, allT e3.tab⟩ : Sent))).toArray 42 [((⟨o8, (allT e3.tab).length, c8⟩ : Hdr), (⟨1, e3.self, x, e3.num + 1, 0, allT e3.tab⟩ : Sent))] (by simp) (by simp)).at
    case h3 => simp only [List.length_singleton]; omega
    case h4 => simp only [List.length_singleton]; omega
    case h5 => have := HB8.out.size; simp; omega
    intro v2 w2 hown2 hg2 hv2
    have hbA : Below wc.heap.size wc (w8.alloc (.cells (scells (⟨o8, (allT e3.tab).length, c8⟩, (⟨1, e3.self, x, e3.num + 1, 0, allT e3.tab⟩ : Sent))).toArray 42)) := HB8.out.alloc HB8.out.size _
    have hM9 := HM8.out.below hbA (Nat.le_refl _)
    have hmm := msgs_app (ms := [((⟨o8, (allT e3.tab).length, c8⟩ : Hdr), (⟨1, e3.self, x, e3.num + 1, 0, allT e3.tab⟩ : Sent))]) hM9 (fun q hq => by
     rw [List.mem_singleton] at hq
     subst hq
     exact (HO8.out.below ((Below.refl _ _).alloc (Nat.le_refl _) _) (Nat.le_refl _)).lower hswc) hown2 hg2
    have hR9 := HR8.out.below hbA
    have hR2 := hR9.keep fun k hk => hg2.block k (hR9.own_lt k hk) fun e => by
     have hb := HBLT.out k e.symm
     have hk2 : k ∈ R3.own ∨ wb = some k := by
      simp only [RM.own, List.mem_cons, List.mem_append, Option.mem_toList] at hk ⊢
      rcases hk with h | h | h | h | h
      ·exact .inl (.inl h)
      ·exact .inl (.inr (.inl h))
      ·exact .inl (.inr (.inr (.inl h)))
      ·exact .inl (.inr (.inr (.inr (.inl h))))
      ·exact .inr h
     rcases hk2 with hk2 | hk2
     ·exact HA3.out k (.inl e.symm) hk2
     ·have := HWB.out k hk2; omega
    have hTF : Touch (fun k => k ∈ R.own) w w2 := (HT8W.out.trans (Touch.of_below (L := fun k => k ∈ R.own) hbA (Nat.le_refl _)) fun _ _ h => h).trans (Touch.of_grown (L := fun k => (Value.slice o3 ps3.length c3).ownBlock = some k) hg2 fun j hj => hj) fun n hn hL => absurd (HBLT.out n hL).1 (by omega)
    obtain ⟨oz, cz, rfl⟩ := slAt_slice hown2.at
    have hr : RStepped R d.tick.1 d.tick.2 w (.slice oz (ps3 ++ [((⟨o8, (allT e3.tab).length, c8⟩ : Hdr), (⟨1, e3.self, x, e3.num + 1, 0, allT e3.tab⟩ : Sent))]).length cz) w2 := by
     rw [HBE.out]
     refine ⟨{ R3 with wb := wb, tgt := x, seq := e3.num + 1, beg := e3.clock }, ps3 ++ [((⟨o8, (allT e3.tab).length, c8⟩ : Hdr), (⟨1, e3.self, x, e3.num + 1, 0, allT e3.tab⟩ : Sent))], hR2, hmm, ?_, ⟨HNW3.out.g, HNW3.out.gt, HNW3.out.go, fun k hk => ?_⟩, hTF⟩
     ·rw [List.map_append, HP3.out]
      rfl
     ·have hk2 : k ∈ R3.own ∨ wb = some k := by
       simp only [RM.own, List.mem_cons, List.mem_append, Option.mem_toList] at hk ⊢
       rcases hk with h | h | h | h | h
       ·exact .inl (.inl h)
       ·exact .inl (.inr (.inl h))
       ·exact .inl (.inr (.inr (.inl h)))
       ·exact .inl (.inr (.inr (.inr (.inl h))))
       ·exact .inr h
      rcases hk2 with hk2 | hk2
      ·exact HNW3.out.own k hk2
      ·exact .inr (Nat.le_trans HT3S (HWB.out k hk2))
    have HRR := Lib.hid hr
    clear hr hR9 hR2 hTF hmm hM9 hbA hown2 hg2 hv2 HM8 HT8W HO8 HB8
    go_wp2_with fail
    go_ret
    exact ⟨_, rfl, HRR.out⟩
end Go.Proofs.YtejihgfigclppaaGreat
