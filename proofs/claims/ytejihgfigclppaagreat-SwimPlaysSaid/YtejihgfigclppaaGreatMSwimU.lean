/-
  The detector asks others to ask its target: around, when it is the time.
  A tick of the detector.
-/
import Derived.Test.YtejihgfigclppaaGreatMSwimV
namespace Go.Proofs.YtejihgfigclppaaGreat
open Go.Shelf Go.RowKit Go.Lib Go.Sort
set_option linter.unusedVariables false
set_option linter.unusedSimpArgs false
set_option maxRecDepth 100000 in
set_option maxHeartbeats 32000000 in
theorem around_some (M : DM) (d : Det) (hok : DetOk d) (num t : Int) (hpr : d.pr = some (num, t)) (htm : d.clock - d.began = d.c.tout) (w : World) (h : DetAt w M d) :
  Calls Tryz.prog 47 #[.pointer (some ⟨M.g, 0, none⟩)] w fun e w' => ∃ v ps, e = .returned v ∧ DetAt w' M d.around.1 ∧ MsgsAt w.heap.size w' v ps ∧ ps.map (·.2) = d.around.2 ∧ Aside M.own v ps ∧ w.grownBy w' (some M.go) := by
 have hp : Tryz.prog.follows .mixedOrders = true := by kernel_rfl
 have har : d.around = ({ d with s := (shufL d.s (onceL (d.aroundL t))).1 }, (someL d.s (d.aroundL t) d.c.ind).map fun n => d.send 3 n num t) := by
  unfold Det.around
  rw [hpr]
  exact if_pos htm
 have HAR := Lib.hid har
 have hb1 := (Below.refl w.heap.size w).alloc (Nat.le_refl _) (.cells #[.pointer (some ⟨M.g, 0, none⟩)] 29)
 have hr1 := heap_alloc_new w (.cells #[.pointer (some ⟨M.g, 0, none⟩)] 29)
 obtain ⟨w1, hw1⟩ : ∃ w1, w.alloc (.cells #[.pointer (some ⟨M.g, 0, none⟩)] 29) = w1 := ⟨_, rfl⟩
 rw [hw1] at hb1 hr1
 have hD := h.below hb1
 have kd : w1.cell? ⟨w.heap.size, 0, none⟩ = some (.pointer (some ⟨M.g, 0, none⟩)) := cell_of_row w1 _ 0 _ _ _ hr1
 have k9 : w1.cell? ⟨M.g, 9, none⟩ = some (prV M.pb) := hD.cell 9
 have k7 : w1.cell? ⟨M.g, 7, none⟩ = some (.int .i64 d.clock) := hD.cell 7
 have k10 : w1.cell? ⟨M.g, 10, none⟩ = some (.int .i64 d.began) := hD.cell 10
 have k2 : w1.cell? ⟨M.g, 2, none⟩ = some (.int .i64 d.c.tout) := hD.cell 2
 have hprs := hD.prs
 rw [hpr] at hprs
 obtain ⟨b, hpb, hprb⟩ : ∃ b, M.pb = some b ∧ w1.heap[b]? = some (.cells #[.int .i64 num, .int .i64 t] 130) := by
  cases hm : M.pb with
  | none => rw [hm] at hprs; exact hprs.elim
  | some b => rw [hm] at hprs; exact ⟨b, rfl, hprs⟩
 rw [hpb] at k9
 have k9' : w1.cell? ⟨M.g, 9, none⟩ = some (.pointer (some ⟨b, 0, none⟩)) := k9
 have hcl := hok.clock
 have hbe := hok.began
 have hw : IntKind.i64.wrap (d.clock - d.began) = d.clock - d.began := by rw [IntKind.wrap_i64]; omega
 have htb : ((d.clock - d.began) != d.c.tout) = false := by simpa using htm
 have HW1 := Lib.hid hw1
 have HB1 := Lib.hid hb1
 have HD := Lib.hid hD
 have HR1 := Lib.hid hr1
 have HPB := Lib.hid hprb
 have HOK := Lib.hid hok
 have hsz1 : w1.heap.size = w.heap.size + 1 := by rw [← hw1]; exact World.size_alloc _ _
 have hgl0 := h.lt
 have HOW := Lib.hid h.own_lt
 clear har hb1 hr1 hw1 hD h hprs hprb hcl hbe hok k9 htm hpr
 go_enter Tryz.func47, Tryz.ntmps47
 go_wp2_with fail
 rw [HW1.out]
 go_quiet (fail)
 have HD2 : Hid (DetAt (w1.drewN nq) M d) := HD.out.keep fun _ _ => rfl
 have HR2 : Hid ((w1.drewN nq).heap[w.heap.size]? = some (.cells #[.pointer (some ⟨M.g, 0, none⟩)] 29)) := HR1.out
 have HP2 : Hid ((w1.drewN nq).heap[b]? = some (.cells #[.int .i64 num, .int .i64 t] 130)) := HPB.out
 have HB2 : Hid (Below w.heap.size w (w1.drewN nq)) := HB1.out.trans ((below_drewN w1 nq).mono HB1.out.size)
 have hsz2 : (w1.drewN nq).heap.size = w.heap.size + 1 := hsz1
 clear kd k9' k7 k10 k2 HD HR1 HPB HB1 HW1 hsz1
 generalize w1.drewN nq = w2 at *
 have kd : w2.cell? ⟨w.heap.size, 0, none⟩ = some (.pointer (some ⟨M.g, 0, none⟩)) := cell_of_row w2 _ 0 _ _ _ HR2.out
 have k3 : w2.cell? ⟨M.g, 5, none⟩ = some (.pointer (some ⟨M.gt, 0, none⟩)) := HD2.out.cell 5
 have hot := others_any M.gt d.self d.tab w2 HD2.out.tab
 have HOT := Lib.hid hot
 clear hot hw htb
 go_wp2_with fail
 refine HOT.out.mono ?_
 rintro e w3 ⟨o3, c3, rfl, ho3, hb3⟩
 have hD3 := HD2.out.below hb3
 have hr3 := (hb3.block _ (by omega)).trans HR2.out
 have hp3 := (hb3.block _ (HD2.out.own_lt b (M.mem_pb hpb))).trans HP2.out
 have HD3 := Lib.hid hD3
 have HR3 := Lib.hid hr3
 have HP3 := Lib.hid hp3
 have HB3 := Lib.hid (HB2.out.trans (hb3.mono HB2.out.size))
 have HO3 := Lib.hid ho3
 have hsz3 : w.heap.size < w3.heap.size := by have := hb3.size; omega
 have eg : ∀ args w, (callFunc 85 args).run Tryz.prog w = .ok (.enter 85 args) w := enters_of Tryz.func85 (by kernel_rfl) rfl
 have hrow3 : ∀ g, (Value.slice o3 (othersT d.self d.tab).length c3).ownBlock = some g → w.heap.size < g := fun g hg => by have := (ho3.lt g hg).1; omega
 have hdel := delete_cap (fun x => decide (x = t)) 85 #[.pointer (some ⟨w.heap.size, 0, none⟩)] eg w2.heap.size (.slice o3 (othersT d.self d.tab).length c3) (othersT d.self d.tab) w3 (fun W hW x => aroundFn_any w.heap.size M.g b t x W
  ((World.cell?_of_block (a := ⟨w.heap.size, 0, none⟩) (hW _ hsz3 fun e => absurd (show w.heap.size < w.heap.size from hrow3 w.heap.size e.symm) (Nat.lt_irrefl _))).trans (cell_of_row w3 _ 0 _ _ _ hr3))
  ((World.cell?_of_block (a := ⟨M.g, 9, none⟩) (hW _ hD3.lt fun e => absurd (show w.heap.size < M.g from hrow3 M.g e.symm) (by omega))).trans ((hD3.cell 9).trans (by rw [show (dcells M d)[9]? = some (prV M.pb) from rfl, hpb]; rfl)))
  ((World.cell?_of_block (a := ⟨b, 1, none⟩) (hW _ (hD3.own_lt b (M.mem_pb hpb)) fun e => by have := hrow3 _ e.symm; have := HD2.out.own_lt b (M.mem_pb hpb); have h5 := (ho3.lt b e.symm).1; omega)).trans (cell_of_row w3 b 1 _ _ _ hp3))) ho3 (by have := othersT_len d.self d.tab; omega)
 have HDEL := Lib.hid hdel
 have hol : ∀ k ∈ M.own, k < w2.heap.size := HD2.out.own_lt
 have HOL := Lib.hid hol
 clear hb3 hD3 hr3 hp3 ho3 eg hdel hol HOT HD2 HR2 HP2 HB2 k3 kd
 go_wp2_with fail
 refine HDEL.out.mono ?_
 rintro e w4 ⟨v4, rfl, ho4, hv4, hg4⟩
 obtain ⟨o4, c4, rfl⟩ := slAt_slice ho4.at
 have hb4 : ∀ k, k < w3.heap.size → k < w2.heap.size → w4.heap[k]? = w3.heap[k]? := fun k hk h2 => hg4.block k hk fun e => by have := (HO3.out.lt k e.symm).1; omega
 have hD4 := HD3.out.keep fun k hk => hb4 k (HD3.out.own_lt k hk) (HOL.out k hk)
 have hr4 := (hb4 w.heap.size hsz3 (by omega)).trans HR3.out
 have hp4 := (hb4 b (HD3.out.own_lt b (M.mem_pb hpb)) (HOL.out b (M.mem_pb hpb))).trans HP3.out
 have hB4 : Below w.heap.size w w4 := HB3.out.grown hg4 (by omega) fun k hk => by have := (HO3.out.lt k hk).1; omega
 have hsz4 : w.heap.size < w4.heap.size := by have := hg4.size; omega
 have hg6 : w4.cell? ⟨M.g, 6, none⟩ = some (.pointer (some ⟨M.go, 0, none⟩)) := hD4.cell 6
 have hg3 : w4.cell? ⟨M.g, 3, none⟩ = some (.int .i64 d.c.ind) := hD4.cell 3
 have kd : w4.cell? ⟨w.heap.size, 0, none⟩ = some (.pointer (some ⟨M.g, 0, none⟩)) := cell_of_row w4 _ 0 _ _ _ hr4
 obtain ⟨wv, wa, wb', wc', wd', wf'⟩ := hD4.ord
 have hrowO : ∀ g, (Value.slice o4 (List.filter (fun x => !decide (x = t)) (othersT d.self d.tab)).length c4).ownBlock = some g → w2.heap.size ≤ g := fun g hg => (ho4.lt g hg).1
 have hsl4 : SlAt icells w4 (.slice o4 (d.aroundL t).length c4) (d.aroundL t) := ho4.at
 have hal : (d.aroundL t).length ≤ 8 := Nat.le_trans (List.length_filter_le _ _) (othersT_len d.self d.tab)
 have hso := some_keep M.go wv d.s d.ws o4 c4 (d.aroundL t) d.c.ind w4.drew (wa.keep rfl) (wb'.keep (.inr fun _ _ => rfl)) wf' (hsl4.keep (.inr fun _ _ => rfl)) (by omega)
 have HSO := Lib.hid hso
 have HD4 := Lib.hid hD4
 have HR4 := Lib.hid hr4
 have HP4 := Lib.hid hp4
 have HB4 := Lib.hid hB4
 have HWD := Lib.hid (show (d.ws ≠ [] → wv.ownBlock = M.wb) ∧ (∀ b, M.wb = some b → (w4.heap[b]?).isSome = true) ∧ (∀ b, wv.ownBlock = some b → M.go < b) from ⟨wc', wd', wf'⟩)
 have hgl4 : M.g < w4.heap.size := by omega
 clear hb4 hD4 hr4 hp4 hB4 hso ho4 hg4 hv4 HDEL HO3 HB3 HP3 HR3 HD3 hsl4 wa wb' wc' wd' wf'
 rw [show (List.filter (fun x => !decide (x = t)) (othersT d.self d.tab)) = d.aroundL t from rfl] at *
 go_wp2_with fail
 go_cut [45, 46, 47] (fun s45 s46 s47 wx => ∃ o5 c5, s45 = .slice o5 (someL d.s (d.aroundL t) d.c.ind).length c5 ∧ s46 = .int .i64 (someL d.s (d.aroundL t) d.c.ind).length ∧ s47 = .int .i64 0 ∧ Hid (Ints w4.heap.size wx (.slice o5 (someL d.s (d.aroundL t) d.c.ind).length c5) (someL d.s (d.aroundL t) d.c.ind)) ∧ Hid (Ord2 M.go wx (shufL d.s (onceL (d.aroundL t))).1 wv 139) ∧ Hid (SlAt icells wx wv d.ws) ∧ Hid (w4.grownBy wx (some M.go)))
 case first =>
  go_region_held (fun w' => w'.cell? ⟨w.heap.size, 0, none⟩ = some (.pointer (some ⟨M.g, 0, none⟩)) ∧ w'.cell? ⟨M.g, 6, none⟩ = some (.pointer (some ⟨M.go, 0, none⟩)) ∧ w'.cell? ⟨M.g, 3, none⟩ = some (.int .i64 d.c.ind)) (first | exact ⟨kd, hg6, hg3⟩ | exact ⟨l0, l6, l3⟩)
   (first | (go_at_call 86; refine HSO.out.mono ?_; rintro e w5 ⟨v5, rfl, ho5, hor5, hsl5, hg5⟩; obtain ⟨o5, c5, rfl⟩ := slAt_slice ho5.at; have hng : M.g ≠ M.go := (nod_ne HD4.out.nod).2.1; have hwg : w.heap.size ≠ M.go := (fun e => by have := HOW.out M.go M.mem_go; omega); have l0 := (World.cell?_of_block (a := ⟨w.heap.size, 0, none⟩) (hg5.block w.heap.size hsz4 (fun e => hwg (Option.some.inj e)))).trans kd; have l6 := (World.cell?_of_block (a := ⟨M.g, 6, none⟩) (hg5.block M.g hgl4 (fun e => hng (Option.some.inj e)))).trans hg6; have l3 := (World.cell?_of_block (a := ⟨M.g, 3, none⟩) (hg5.block M.g hgl4 (fun e => hng (Option.some.inj e)))).trans hg3; have HO5 := Lib.hid ho5; have HOR5 := Lib.hid hor5; have HSL5 := Lib.hid hsl5; have HG5 := Lib.hid hg5; clear ho5 hor5 hsl5 hg5))
  all_goals
   go_wp2_with fail
   go_meet
   exact ⟨o5, c5, rfl, rfl, rfl, HO5, HOR5, HSL5, gb_then (gb_drew w4 (some M.go)) HG5.out fun j hj => .inr hj⟩
 case rest =>
  obtain ⟨o5, c5, rfl, rfl, rfl, HO5, HOR5, HSL5, HG5⟩ := hcut
  have hg5 := HG5.out
  have hwt : WaitsAt wc M.go M.wb (shufL d.s (onceL (d.aroundL t))).1 d.ws := ⟨wv, HOR5.out, HSL5.out, HWD.out.1, fun k hk => by
   have h1 := HWD.out.2.1 k hk
   have h2 := (nod_ne HD4.out.nod).2.2.2.2.2.2.2.2 k hk
   have h3 := HD4.out.own_lt k (M.mem_wb hk)
   rw [hg5.block k h3 (fun e => h2.2.2.1 (Option.some.inj e))]
   exact h1, HWD.out.2.2⟩
  have hD5 := HD4.out.turnedS hg5 hwt
  have hwg : w.heap.size ≠ M.go := (fun e => by have := HOW.out M.go M.mem_go; omega)
  have hr5 := (hg5.block w.heap.size hsz4 (fun e => hwg (Option.some.inj e))).trans HR4.out
  have hp5 := (hg5.block b (HD4.out.own_lt b (M.mem_pb hpb)) (fun e => ((nod_ne HD4.out.nod).2.2.2.2.2.2.1 b hpb).2.2.1 (Option.some.inj e))).trans HP4.out
  have HGW : Hid (w.grownBy wc (some M.go)) := gb_then (gb_below (World.grownBy.refl w (some M.go)) HB4.out (Nat.le_refl _)) hg5 fun j hj => .inr hj
  have hsz5 : w.heap.size < wc.heap.size := by have := hg5.size; omega
  have hll : (someL d.s (d.aroundL t) d.c.ind).length ≤ 8 := by unfold someL; rw [List.length_take, shufL_len]; have := onceL_len (d.aroundL t); omega
  have HD5 := Lib.hid hD5
  have HR5 := Lib.hid hr5
  have HP5 := Lib.hid hp5
  have hse := fun (W : World) (x : Int) (hW : Below wc.heap.size wc W) => send_any M { d with s := (shufL d.s (onceL (d.aroundL t))).1 } 3 x num t W (hD5.below hW)
  have HSE5 := Lib.hid hse
  have HOW5 := Lib.hid (show ∀ k ∈ M.own, k < wc.heap.size from fun k hk => Nat.lt_trans (HOW.out k hk) hsz5)
  have hgl5 : M.g < wc.heap.size := HOW5.out _ M.mem_g
  have hbl5 : b < wc.heap.size := HOW5.out _ (M.mem_pb hpb)
  clear hse hp5 hr5 hD5 hwt hg5 HSO HG5 HOR5 HSL5 HD4 HR4 HP4 HB4 HWD kd hg6 hg3 hwg
  generalize hLg : someL d.s (d.aroundL t) d.c.ind = L at *
  generalize hsg : (shufL d.s (onceL (d.aroundL t))).1 = s' at *
  go_wp2_with fail
  go_loopg [2, 47] L.length (fun gk s2 s47 wr => ∃ (i : Nat) (oq : Option Addr) (cq : Nat) (ps : List PSent), s47 = .int .i64 i ∧ s2 = .slice oq ps.length cq ∧ i ≤ L.length ∧ L.length - i ≤ gk ∧ Hid (MsgsAt wc.heap.size wr (.slice oq ps.length cq) ps) ∧ Hid (ps.map (·.2) = (L.take i).map fun n => d.send 3 n num t) ∧ Hid (Below wc.heap.size wc wr))
  case atStart => exact ⟨0, none, 0, [], rfl, rfl, Nat.zero_le _, Nat.le_refl _, MsgsAt.none _ _, rfl, Below.refl _ _⟩
  case round =>
   obtain ⟨i, oq, cq, ps, rfl, rfl, hi, hgk, HMS, HMP, HBW⟩ := hrel
   by_cases hlt : i < L.length
   ·have hltz : (i : Int) < (L.length : Int) := by omega
    have hsl := (HO5.out.at).below icells_len (by decide) HBW.out (Nat.le_refl _)
    obtain ⟨lb, loff, rfl⟩ := hsl.plain icells_len (by decide) (by intro e; rw [e] at hlt; exact absurd hlt (by simp))
    have cx := hsl.cell icells_len (i := i) (c := 0) hlt (by decide)
    replace cx : wr.cell? ⟨lb, loff + i, none⟩ = some (.int .i64 L[i]) := by
     have e : loff + (i * 1 + 0) = loff + i := by omega
     rw [e] at cx
     exact cx
    have htk : (L.take (i + 1)).map (fun n => d.send 3 n num t) = (L.take i).map (fun n => d.send 3 n num t) ++ [d.send 3 L[i] num t] := by rw [List.take_succ_eq_append_getElem hlt, List.map_append]; rfl
    have hpl : ps.length = i := by have := congrArg List.length HMP.out; simp only [List.length_map, List.length_take] at this; omega
    have HTK := Lib.hid htk
    have HMP2 := Lib.hid HMP.out
    generalize L[i] = x at *
    have hDr := HD5.out.below HBW.out
    have k9p : wr.cell? ⟨M.g, 9, none⟩ = some (prV M.pb) := hDr.cell 9
    rw [hpb] at k9p
    have k9 : wr.cell? ⟨M.g, 9, none⟩ = some (.pointer (some ⟨b, 0, none⟩)) := k9p
    have kd : wr.cell? ⟨w.heap.size, 0, none⟩ = some (.pointer (some ⟨M.g, 0, none⟩)) := cell_of_row wr _ 0 _ _ _ ((HBW.out.block _ hsz5).trans HR5.out)
    have kb0 : wr.cell? ⟨b, 0, none⟩ = some (.int .i64 num) := cell_of_row wr b 0 _ _ _ ((HBW.out.block _ hbl5).trans HP5.out)
    have kb1 : wr.cell? ⟨b, 1, none⟩ = some (.int .i64 t) := cell_of_row wr b 1 _ _ _ ((HBW.out.block _ hbl5).trans HP5.out)
    have hB : wc.heap.size ≤ wr.heap.size := HBW.out.size
    have hdl : w.heap.size < wr.heap.size := by omega
    have hgl : M.g < wr.heap.size := by omega
    have hbl : b < wr.heap.size := by omega
    have HSE : Hid (∀ W, Below wr.heap.size wr W → Calls Tryz.prog 53 #[.pointer (some ⟨M.g, 0, none⟩), .int .i64 3, .int .i64 x, .int .i64 num, .int .i64 t] W fun e w' => ∃ o c, e = .returned (sentV (d.send 3 x num t) o c) ∧ Owns Mb.cells 3 W.heap.size 45 w' (.slice o (allT d.tab).length c) (allT d.tab) ∧ Below W.heap.size W w') := fun W hW => HSE5.out W x (HBW.out.trans (hW.mono HBW.out.size))
    clear htk hDr k9p hsl HSE5 HP5 HR5 HD5 HMP
    go_wp2_with fail
    clear cx
    refine tell_region_app (by kernel_rfl) [(51, fun v _ => v = .slice oq ps.length cq), (52, fun v _ => v = .pointer (some ⟨M.g, 0, none⟩)), (53, fun v _ => v = .int .i64 x), (54, fun v _ => v = .pointer (some ⟨M.g, 0, none⟩)), (55, fun v _ => v = .pointer (some ⟨M.g, 0, none⟩)), (56, fun v _ => v = .pointer (some ⟨M.g, 9, none⟩)), (57, fun v _ => v = .pointer (some ⟨b, 0, none⟩)), (58, fun v _ => v = .pointer (some ⟨b, 0, none⟩)), (59, fun v _ => v = .pointer (some ⟨b, 0, none⟩)), (60, fun v _ => v = .int .i64 num), (61, fun v _ => v = .pointer (some ⟨M.g, 0, none⟩)), (62, fun v _ => v = .pointer (some ⟨M.g, 0, none⟩)), (63, fun v _ => v = .pointer (some ⟨M.g, 9, none⟩)), (64, fun v _ => v = .pointer (some ⟨b, 0, none⟩)), (65, fun v _ => v = .pointer (some ⟨b, 0, none⟩)), (66, fun v _ => v = .pointer (some ⟨b, 1, none⟩)), (67, fun v _ => v = .int .i64 t), (68, fun v W => ∃ o c, v = sentV (d.send 3 x num t) o c ∧ Owns Mb.cells 3 wc.heap.size 45 W (.slice o (allT d.tab).length c) (allT d.tab)), (69, fun v W => ∃ p : PSent, SlAt scells W v [p] ∧ p.2 = (d.send 3 x num t) ∧ Owns Mb.cells 3 wc.heap.size 45 W p.1.val p.2.ms)] 19 rfl rfl (by show ([51, 52, 53, 54, 55, 56, 57, 58, 59, 60, 61, 62, 63, 64, 65, 66, 67, 68, 69] : List Nat).Nodup; decide) (by show ∀ d ∈ ([51, 52, 53, 54, 55, 56, 57, 58, 59, 60, 61, 62, 63, 64, 65, 66, 67, 68, 69] : List Nat), d < 73; decide) (by kernel_rfl) ?hmono ?hstep ?hall ⟨_, rfl, ⟨19, .phase⟩, by simp, rfl, rfl⟩ ?hend
    case hmono =>
     intro p hp
     simp only [List.mem_cons, List.not_mem_nil, or_false] at hp
     rcases hp with rfl | rfl | rfl | rfl | rfl | rfl | rfl | rfl | rfl | rfl | rfl | rfl | rfl | rfl | rfl | rfl | rfl | rfl | rfl
     ·exact lasts_pure _
     ·exact lasts_pure _
     ·exact lasts_pure _
     ·exact lasts_pure _
     ·exact lasts_pure _
     ·exact lasts_pure _
     ·exact lasts_pure _
     ·exact lasts_pure _
     ·exact lasts_pure _
     ·exact lasts_pure _
     ·exact lasts_pure _
     ·exact lasts_pure _
     ·exact lasts_pure _
     ·exact lasts_pure _
     ·exact lasts_pure _
     ·exact lasts_pure _
     ·exact lasts_pure _
     ·intro v W W' hb hh
      obtain ⟨o, c, h1, h2⟩ := hh
      exact ⟨o, c, h1, h2.below hb (Nat.le_refl _)⟩
     ·intro v W W' hb hh
      obtain ⟨p, h1, h2, h3⟩ := hh
      exact ⟨p, h1.below scells_len (by decide) hb (Nat.le_refl _), h2, h3.below hb (Nat.le_refl _)⟩
    case hstep =>
     intro i hi r w' hag hbel hn
     have hi2 : i < 19 := hi
     rcases (show i = 0 ∨ i = 1 ∨ i = 2 ∨ i = 3 ∨ i = 4 ∨ i = 5 ∨ i = 6 ∨ i = 7 ∨ i = 8 ∨ i = 9 ∨ i = 10 ∨ i = 11 ∨ i = 12 ∨ i = 13 ∨ i = 14 ∨ i = 15 ∨ i = 16 ∨ i = 17 ∨ i = 18 by omega) with rfl | rfl | rfl | rfl | rfl | rfl | rfl | rfl | rfl | rfl | rfl | rfl | rfl | rfl | rfl | rfl | rfl | rfl | rfl
     ·skip
      have e2 : r.eval (.tmp 2) = .slice oq ps.length cq := (hag.out 2 (by simp)).trans rfl
      exact leaves_val rfl rfl rfl (v := .slice oq ps.length cq) (by generalize r.eval = ρ at e2 ⊢; go_simp) (Below.refl _ _) rfl
     ·skip
      have e1 : r.eval (.tmp 1) = .pointer (some ⟨w.heap.size, 0, none⟩) := (hag.out 1 (by simp)).trans rfl
      have cd : w'.cell? ⟨w.heap.size, 0, none⟩ = some (.pointer (some ⟨M.g, 0, none⟩)) := (hbel.cell (p := ⟨w.heap.size, 0, none⟩) hdl).trans kd
      exact leaves_val rfl rfl rfl (v := .pointer (some ⟨M.g, 0, none⟩)) (by generalize r.eval = ρ at e1 ⊢; go_simp) (Below.refl _ _) rfl
     ·skip
      have e5 : r.eval (.tmp 5) = .int .i64 x := (hag.out 5 (by simp)).trans rfl
      exact leaves_val rfl rfl rfl (v := .int .i64 x) (by generalize r.eval = ρ at e5 ⊢; go_simp) (Below.refl _ _) rfl
     ·skip
      have e1 : r.eval (.tmp 1) = .pointer (some ⟨w.heap.size, 0, none⟩) := (hag.out 1 (by simp)).trans rfl
      have cd : w'.cell? ⟨w.heap.size, 0, none⟩ = some (.pointer (some ⟨M.g, 0, none⟩)) := (hbel.cell (p := ⟨w.heap.size, 0, none⟩) hdl).trans kd
      exact leaves_val rfl rfl rfl (v := .pointer (some ⟨M.g, 0, none⟩)) (by generalize r.eval = ρ at e1 ⊢; go_simp) (Below.refl _ _) rfl
     ·skip
      have e54 : r.eval (.tmp 54) = .pointer (some ⟨M.g, 0, none⟩) := hn 3 (by simp) ⟨_, rfl, ⟨3, .data⟩, by simp, rfl, rfl⟩
      exact leaves_val rfl rfl rfl (v := .pointer (some ⟨M.g, 0, none⟩)) (by generalize r.eval = ρ at e54 ⊢; go_simp) (Below.refl _ _) rfl
     ·skip
      have e55 : r.eval (.tmp 55) = .pointer (some ⟨M.g, 0, none⟩) := hn 4 (by simp) ⟨_, rfl, ⟨4, .data⟩, by simp, rfl, rfl⟩
      exact leaves_val rfl rfl rfl (v := .pointer (some ⟨M.g, 9, none⟩)) (by generalize r.eval = ρ at e55 ⊢; go_simp) (Below.refl _ _) rfl
     ·skip
      have e56 : r.eval (.tmp 56) = .pointer (some ⟨M.g, 9, none⟩) := hn 5 (by simp) ⟨_, rfl, ⟨5, .data⟩, by simp, rfl, rfl⟩
      have c9 : w'.cell? ⟨M.g, 9, none⟩ = some (.pointer (some ⟨b, 0, none⟩)) := (hbel.cell (p := ⟨M.g, 9, none⟩) hgl).trans k9
      exact leaves_val rfl rfl rfl (v := .pointer (some ⟨b, 0, none⟩)) (by generalize r.eval = ρ at e56 ⊢; go_simp) (Below.refl _ _) rfl
     ·skip
      have e57 : r.eval (.tmp 57) = .pointer (some ⟨b, 0, none⟩) := hn 6 (by simp) ⟨_, rfl, ⟨6, .data⟩, by simp, rfl, rfl⟩
      exact leaves_val rfl rfl rfl (v := .pointer (some ⟨b, 0, none⟩)) (by generalize r.eval = ρ at e57 ⊢; go_simp) (Below.refl _ _) rfl
     ·skip
      have e58 : r.eval (.tmp 58) = .pointer (some ⟨b, 0, none⟩) := hn 7 (by simp) ⟨_, rfl, ⟨7, .data⟩, by simp, rfl, rfl⟩
      exact leaves_val rfl rfl rfl (v := .pointer (some ⟨b, 0, none⟩)) (by generalize r.eval = ρ at e58 ⊢; go_simp) (Below.refl _ _) rfl
     ·skip
      have e59 : r.eval (.tmp 59) = .pointer (some ⟨b, 0, none⟩) := hn 8 (by simp) ⟨_, rfl, ⟨8, .data⟩, by simp, rfl, rfl⟩
      have cb : w'.cell? ⟨b, 0, none⟩ = some (.int .i64 num) := (hbel.cell (p := ⟨b, 0, none⟩) hbl).trans kb0
      exact leaves_val rfl rfl rfl (v := .int .i64 num) (by generalize r.eval = ρ at e59 ⊢; go_simp) (Below.refl _ _) rfl
     ·skip
      have e1 : r.eval (.tmp 1) = .pointer (some ⟨w.heap.size, 0, none⟩) := (hag.out 1 (by simp)).trans rfl
      have cd : w'.cell? ⟨w.heap.size, 0, none⟩ = some (.pointer (some ⟨M.g, 0, none⟩)) := (hbel.cell (p := ⟨w.heap.size, 0, none⟩) hdl).trans kd
      exact leaves_val rfl rfl rfl (v := .pointer (some ⟨M.g, 0, none⟩)) (by generalize r.eval = ρ at e1 ⊢; go_simp) (Below.refl _ _) rfl
     ·skip
      have e61 : r.eval (.tmp 61) = .pointer (some ⟨M.g, 0, none⟩) := hn 10 (by simp) ⟨_, rfl, ⟨10, .data⟩, by simp, rfl, rfl⟩
      exact leaves_val rfl rfl rfl (v := .pointer (some ⟨M.g, 0, none⟩)) (by generalize r.eval = ρ at e61 ⊢; go_simp) (Below.refl _ _) rfl
     ·skip
      have e62 : r.eval (.tmp 62) = .pointer (some ⟨M.g, 0, none⟩) := hn 11 (by simp) ⟨_, rfl, ⟨11, .data⟩, by simp, rfl, rfl⟩
      exact leaves_val rfl rfl rfl (v := .pointer (some ⟨M.g, 9, none⟩)) (by generalize r.eval = ρ at e62 ⊢; go_simp) (Below.refl _ _) rfl
     ·skip
      have e63 : r.eval (.tmp 63) = .pointer (some ⟨M.g, 9, none⟩) := hn 12 (by simp) ⟨_, rfl, ⟨12, .data⟩, by simp, rfl, rfl⟩
      have c9 : w'.cell? ⟨M.g, 9, none⟩ = some (.pointer (some ⟨b, 0, none⟩)) := (hbel.cell (p := ⟨M.g, 9, none⟩) hgl).trans k9
      exact leaves_val rfl rfl rfl (v := .pointer (some ⟨b, 0, none⟩)) (by generalize r.eval = ρ at e63 ⊢; go_simp) (Below.refl _ _) rfl
     ·skip
      have e64 : r.eval (.tmp 64) = .pointer (some ⟨b, 0, none⟩) := hn 13 (by simp) ⟨_, rfl, ⟨13, .data⟩, by simp, rfl, rfl⟩
      exact leaves_val rfl rfl rfl (v := .pointer (some ⟨b, 0, none⟩)) (by generalize r.eval = ρ at e64 ⊢; go_simp) (Below.refl _ _) rfl
     ·skip
      have e65 : r.eval (.tmp 65) = .pointer (some ⟨b, 0, none⟩) := hn 14 (by simp) ⟨_, rfl, ⟨14, .data⟩, by simp, rfl, rfl⟩
      exact leaves_val rfl rfl rfl (v := .pointer (some ⟨b, 1, none⟩)) (by generalize r.eval = ρ at e65 ⊢; go_simp) (Below.refl _ _) rfl
     ·skip
      have e66 : r.eval (.tmp 66) = .pointer (some ⟨b, 1, none⟩) := hn 15 (by simp) ⟨_, rfl, ⟨15, .data⟩, by simp, rfl, rfl⟩
      have cb : w'.cell? ⟨b, 1, none⟩ = some (.int .i64 t) := (hbel.cell (p := ⟨b, 1, none⟩) hbl).trans kb1
      exact leaves_val rfl rfl rfl (v := .int .i64 t) (by generalize r.eval = ρ at e66 ⊢; go_simp) (Below.refl _ _) rfl
     ·skip
      have e52 : r.eval (.tmp 52) = .pointer (some ⟨M.g, 0, none⟩) := hn 1 (by simp) ⟨_, rfl, ⟨1, .data⟩, by simp, rfl, rfl⟩
      have e53 : r.eval (.tmp 53) = .int .i64 x := hn 2 (by simp) ⟨_, rfl, ⟨2, .data⟩, by simp, rfl, rfl⟩
      have e60 : r.eval (.tmp 60) = .int .i64 num := hn 9 (by simp) ⟨_, rfl, ⟨9, .data⟩, by simp, rfl, rfl⟩
      have e67 : r.eval (.tmp 67) = .int .i64 t := hn 16 (by simp) ⟨_, rfl, ⟨16, .data⟩, by simp, rfl, rfl⟩
      refine leaves_call (f := 53) (args := #[.pointer (some ⟨M.g, 0, none⟩), .int .i64 3, .int .i64 x, .int .i64 num, .int .i64 t]) rfl rfl rfl (by have ef : r.eval (.func 53) = .func (.func 53) #[] #[] := rfl; have ec : r.eval (.const (.int .i64 3)) = .int .i64 3 := rfl; generalize r.eval = ρ at ef ec e52 e53 e60 e67 ⊢; go_simp) (HSE.out w' hbel) ?_
      rintro e2 w2 ⟨o, c, rfl, ho, hb⟩
      exact ⟨_, rfl, hb, o, c, rfl, ho.lower (Nat.le_trans hB hbel.size)⟩
     ·skip
      obtain ⟨o, c, e68, ho⟩ : ∃ o c, r.eval (.tmp 68) = sentV (d.send 3 x num t) o c ∧ Owns Mb.cells 3 wc.heap.size 45 w' (.slice o (allT d.tab).length c) (allT d.tab) := hn 17 (by simp) ⟨_, rfl, ⟨17, .data⟩, by simp, rfl, rfl⟩
      unfold sentV Det.send at e68
      dsimp only at e68
      exact leaves_val rfl rfl rfl (v := .slice (some ⟨w'.heap.size, 0, none⟩) 1 1) (w' := w'.alloc (.cells (scells (⟨o, (allT d.tab).length, c⟩, (d.send 3 x num t))).toArray 42)) (by unfold scells Det.send Hdr.val; dsimp only; generalize r.eval = ρ at e68 ⊢; go_simp) ((Below.refl _ _).alloc (Nat.le_refl _) _) ⟨(⟨o, (allT d.tab).length, c⟩, (d.send 3 x num t)), (owns_new scells_len w' _ 42 [((⟨o, (allT d.tab).length, c⟩ : Hdr), (d.send 3 x num t))] (by simp) (by simp)).at, rfl, ho.below ((Below.refl _ _).alloc (Nat.le_refl _) _) (Nat.le_refl _)⟩
    case hall =>
     intro L hcl hn j hj
     have h0 : L 0 = true := hn 0 ⟨_, rfl, ⟨0, .data⟩, by simp, rfl, rfl⟩
     have h18 : L 18 = true := hn 18 ⟨_, rfl, ⟨18, .data⟩, by simp, rfl, rfl⟩
     have h17 : L 17 = true := hn 17 ⟨_, rfl, ⟨17, .chain⟩, by simp, rfl, rfl⟩
     have h1 : L 1 = true := hcl 17 1 h17 ⟨_, rfl, ⟨1, .data⟩, by simp, rfl, rfl⟩
     have h2 : L 2 = true := hcl 17 2 h17 ⟨_, rfl, ⟨2, .data⟩, by simp, rfl, rfl⟩
     have h9 : L 9 = true := hcl 17 9 h17 ⟨_, rfl, ⟨9, .data⟩, by simp, rfl, rfl⟩
     have h16 : L 16 = true := hcl 17 16 h17 ⟨_, rfl, ⟨16, .data⟩, by simp, rfl, rfl⟩
     have h8 : L 8 = true := hcl 9 8 h9 ⟨_, rfl, ⟨8, .data⟩, by simp, rfl, rfl⟩
     have h15 : L 15 = true := hcl 16 15 h16 ⟨_, rfl, ⟨15, .data⟩, by simp, rfl, rfl⟩
     have h7 : L 7 = true := hcl 8 7 h8 ⟨_, rfl, ⟨7, .data⟩, by simp, rfl, rfl⟩
     have h14 : L 14 = true := hcl 15 14 h15 ⟨_, rfl, ⟨14, .data⟩, by simp, rfl, rfl⟩
     have h6 : L 6 = true := hcl 7 6 h7 ⟨_, rfl, ⟨6, .data⟩, by simp, rfl, rfl⟩
     have h13 : L 13 = true := hcl 14 13 h14 ⟨_, rfl, ⟨13, .data⟩, by simp, rfl, rfl⟩
     have h5 : L 5 = true := hcl 6 5 h6 ⟨_, rfl, ⟨5, .data⟩, by simp, rfl, rfl⟩
     have h12 : L 12 = true := hcl 13 12 h13 ⟨_, rfl, ⟨12, .data⟩, by simp, rfl, rfl⟩
     have h4 : L 4 = true := hcl 5 4 h5 ⟨_, rfl, ⟨4, .data⟩, by simp, rfl, rfl⟩
     have h11 : L 11 = true := hcl 12 11 h12 ⟨_, rfl, ⟨11, .data⟩, by simp, rfl, rfl⟩
     have h3 : L 3 = true := hcl 4 3 h4 ⟨_, rfl, ⟨3, .data⟩, by simp, rfl, rfl⟩
     have h10 : L 10 = true := hcl 11 10 h11 ⟨_, rfl, ⟨10, .data⟩, by simp, rfl, rfl⟩
     rcases (show j = 0 ∨ j = 1 ∨ j = 2 ∨ j = 3 ∨ j = 4 ∨ j = 5 ∨ j = 6 ∨ j = 7 ∨ j = 8 ∨ j = 9 ∨ j = 10 ∨ j = 11 ∨ j = 12 ∨ j = 13 ∨ j = 14 ∨ j = 15 ∨ j = 16 ∨ j = 17 ∨ j = 18 by omega) with rfl | rfl | rfl | rfl | rfl | rfl | rfl | rfl | rfl | rfl | rfl | rfl | rfl | rfl | rfl | rfl | rfl | rfl | rfl
     ·exact h0
     ·exact h1
     ·exact h2
     ·exact h3
     ·exact h4
     ·exact h5
     ·exact h6
     ·exact h7
     ·exact h8
     ·exact h9
     ·exact h10
     ·exact h11
     ·exact h12
     ·exact h13
     ·exact h14
     ·exact h15
     ·exact h16
     ·exact h17
     ·exact h18
    case hend =>
     intro r w' hag hbel hall
     have e51 : r.eval (.tmp 51) = .slice oq ps.length cq := hall 0 (by simp)
     obtain ⟨p, hp1, hp2, hp3⟩ : ∃ p : PSent, SlAt scells w' (r.eval (.tmp 69)) [p] ∧ p.2 = (d.send 3 x num t) ∧ Owns Mb.cells 3 wc.heap.size 45 w' p.1.val p.2.ms := hall 18 (by simp)
     refine step_app_op (d := 70) scells 16 scells_len (by decide) scells_one rfl rfl rfl (.tmp 51) (.tmp 69) 34 rfl wc.heap.size 42 _ 176 Tryz.underlying34 infoMsg rfl _ ps e51 (HMS.out.1.below hbel (Nat.le_refl _)) _ [p] rfl hp1 (by simp only [List.length_singleton]; omega) (by simp only [List.length_singleton]; omega) (Nat.le_trans hB hbel.size) ?_
     intro v2 w2 hown2 hg2 hv2
     have e70 : (r.put (some 70) v2).eval (.tmp 70) = v2 := eval_put_same v2 (by rw [hag.size]; show 70 < 73; decide)
     refine step_val (d := 2) (v := v2) (w' := w2) rfl rfl rfl (by generalize (r.put (some 70) v2).eval = ρ at e70 ⊢; go_simp) ?_
     have hfin := Ag.final _ (by show ∀ d ∈ ([51, 52, 53, 54, 55, 56, 57, 58, 59, 60, 61, 62, 63, 64, 65, 66, 67, 68, 69] : List Nat), d < 73; decide) hag
     simp only [List.map, List.foldl] at hfin
     generalize r.eval (.tmp 51) = y51 at hfin
     generalize r.eval (.tmp 52) = y52 at hfin
     generalize r.eval (.tmp 53) = y53 at hfin
     generalize r.eval (.tmp 54) = y54 at hfin
     generalize r.eval (.tmp 55) = y55 at hfin
     generalize r.eval (.tmp 56) = y56 at hfin
     generalize r.eval (.tmp 57) = y57 at hfin
     generalize r.eval (.tmp 58) = y58 at hfin
     generalize r.eval (.tmp 59) = y59 at hfin
     generalize r.eval (.tmp 60) = y60 at hfin
     generalize r.eval (.tmp 61) = y61 at hfin
     generalize r.eval (.tmp 62) = y62 at hfin
     generalize r.eval (.tmp 63) = y63 at hfin
     generalize r.eval (.tmp 64) = y64 at hfin
     generalize r.eval (.tmp 65) = y65 at hfin
     generalize r.eval (.tmp 66) = y66 at hfin
     generalize r.eval (.tmp 67) = y67 at hfin
     generalize r.eval (.tmp 68) = y68 at hfin
     generalize r.eval (.tmp 69) = y69 at hfin
     obtain ⟨oz, cz, rfl⟩ := slAt_slice hown2.at
     have hgrow : Below wc.heap.size wc w2 := ((HBW.out.trans (hbel.mono HBW.out.size))).grown hg2 (by have := hbel.size; omega) fun k hk => (HMS.out.1.lt k hk).1
     have hmm := msgs_app (ms := [p]) (⟨HMS.out.1.below hbel (Nat.le_refl _), fun q hq => (HMS.out.2 q hq).below hbel (Nat.le_refl _)⟩ : MsgsAt wc.heap.size w' (.slice oq ps.length cq) ps) (fun q hq => by rw [List.mem_singleton] at hq; subst hq; exact hp3) hown2 hg2
     have HM2 : Hid (MsgsAt wc.heap.size w2 (.slice oz (ps ++ [p]).length cz) (ps ++ [p])) := hmm
     have HP2 : Hid ((ps ++ [p]).map (·.2) = (L.take (i + 1)).map fun n => d.send 3 n num t) := by
      show (ps ++ [p]).map (·.2) = _
      rw [List.map_append, HMP2.out, HTK.out]
      simp [hp2]
     have HBX := Lib.hid hgrow
     clear hgrow hmm hown2 hg2 hv2 hp1 hp2 hp3 e70 e51 hall hag hbel
     subst hfin
     simp only [Act.put, List.setIfInBounds_toArray, List.set_cons_succ, List.set_cons_zero]
     go_wp2_with fail
     go_roundg (L.length - (i + 1))
     case measure => omega
     case rel => exact ⟨i + 1, oz, cz, ps ++ [p], by go_num, rfl, by omega, Nat.le_refl _, HM2.out, HP2.out, HBX.out⟩
   ·have hltz : ¬ (i : Int) < (L.length : Int) := by omega
    obtain rfl : i = L.length := by omega
    rw [List.take_length] at HMP
    have HDr := Lib.hid (HD5.out.below HBW.out)
    have HGR := Lib.hid (gb_below HGW.out HBW.out (by omega))
    have hps := HMS.out
    have HASd : Hid (Aside M.own (.slice oq ps.length cq) ps) := fun k hk hm => by
     have h1 := HOW5.out k hm
     rcases hk with hk | ⟨p, hp, hk⟩
     ·have := (hps.1.lt k hk).1; omega
     ·have := ((hps.2 p hp).lt k hk).1; omega
    have HMW : Hid (MsgsAt w.heap.size wr (.slice oq ps.length cq) ps) := ⟨hps.1.lower (by omega), fun p hp => (hps.2 p hp).lower (by omega)⟩
    clear hps HSE5 HD5 HO5 HBW HMS
    go_wp2_with fail
    go_ret
    refine ⟨_, rfl, by rw [HAR.out]; exact HDr.out, ps, HMW.out, by rw [HAR.out]; exact HMP, HASd.out, HGR.out⟩
end Go.Proofs.YtejihgfigclppaaGreat
namespace Go.Proofs.YtejihgfigclppaaGreat
open Go.Shelf Go.RowKit Go.Lib Go.Sort
set_option linter.unusedVariables false
set_option linter.unusedSimpArgs false
theorem MsgsAt.touch {L : Nat → Prop} {base : Nat} {w w' : World} {v : Value} {ps : List PSent} (h : MsgsAt base w v ps) (ht : Touch L w w') (ha : ∀ b, (v.ownBlock = some b ∨ ∃ p ∈ ps, p.1.val.ownBlock = some b) → ¬ L b) : MsgsAt base w' v ps :=
 ⟨h.1.touch ht fun b hb => ha b (.inl hb), fun p hp => (h.2 p hp).touch ht fun b hb => ha b (.inr ⟨p, hp, hb⟩)⟩
theorem MsgsAt.below {B base : Nat} {w w' : World} {v : Value} {ps : List PSent} (h : MsgsAt base w v ps) (hb : Below B w w') (hB : w.heap.size ≤ B) : MsgsAt base w' v ps :=
 ⟨h.1.below hb hB, fun p hp => (h.2 p hp).below hb hB⟩
theorem MsgsAt.lower {base base' : Nat} {w : World} {v : Value} {ps : List PSent} (h : MsgsAt base w v ps) (hb : base' ≤ base) : MsgsAt base' w v ps := ⟨h.1.lower hb, fun p hp => (h.2 p hp).lower hb⟩
theorem MsgsAt.blk {base : Nat} {w : World} {v : Value} {ps : List PSent} (h : MsgsAt base w v ps) (b : Nat) (hb : v.ownBlock = some b ∨ ∃ p ∈ ps, p.1.val.ownBlock = some b) : base ≤ b ∧ b < w.heap.size := by
 rcases hb with hb | ⟨p, hp, hb⟩
 ·exact h.1.lt b hb
 ·exact (h.2 p hp).lt b hb
theorem around_any (M : DM) (d : Det) (hok : DetOk d) (w : World) (h : DetAt w M d) :
  Calls Tryz.prog 47 #[.pointer (some ⟨M.g, 0, none⟩)] w fun e w' => ∃ v ps, e = .returned v ∧ DetAt w' M d.around.1 ∧ MsgsAt w.heap.size w' v ps ∧ ps.map (·.2) = d.around.2 ∧ Aside M.own v ps ∧ w.grownBy w' (some M.go) := by
 by_cases hc : ∀ p, d.pr = some p → d.clock - d.began ≠ d.c.tout
 ·refine (around_none M d hok w h hc).mono ?_
  rintro e w' ⟨rfl, ha, hb⟩
  rw [ha]
  exact ⟨_, [], rfl, h.below hb, MsgsAt.none _ _, rfl, Aside.none _, gb_below (World.grownBy.refl _ _) hb (Nat.le_refl _)⟩
 ·cases hp : d.pr with
  | none => exact absurd (fun p e => by rw [hp] at e; cases e) hc
  | some p =>
   obtain ⟨num, t⟩ := p
   by_cases ht : d.clock - d.began = d.c.tout
   ·exact around_some M d hok num t hp ht w h
   ·exact absurd (fun p e => ht) hc
theorem someL_len (s : Int) (l : List Int) (n : Int) : (someL s l n).length ≤ l.length := by
 unfold someL
 rw [List.length_take, shufL_len]
 have := onceL_len l
 omega
theorem around_len (d : Det) : d.around.2.length ≤ 8 := by
 unfold Det.around
 split
 ·exact Nat.zero_le _
 ·split
  ·rename_i p _ _
   show ((someL d.s (d.aroundL p.2) d.c.ind).map _).length ≤ 8
   rw [List.length_map]
   have h1 := someL_len d.s (d.aroundL p.2) d.c.ind
   have h2 : (d.aroundL p.2).length ≤ (othersT d.self d.tab).length := List.length_filter_le _ _
   have h3 := othersT_len d.self d.tab
   omega
  ·exact Nat.zero_le _
theorem begin_len (d : Det) : d.begin.2.length ≤ 1 := by
 unfold Det.begin
 split
 ·exact Nat.zero_le _
 ·split
  ·exact Nat.zero_le _
  ·exact Nat.le_refl _
set_option maxRecDepth 100000 in
set_option maxHeartbeats 16000000 in
theorem tick_any (M : DM) (d : Det) (hok : DetOk d) (hc : d.clock < 1000000) (hn : d.num < 1000000) (w : World) (h : DetAt w M d) :
  Calls Tryz.prog 15 #[.pointer (some ⟨M.g, 0, none⟩)] w fun e w' => ∃ v M' ps, e = .returned v ∧ DetAt w' M' d.tick.1 ∧ MsgsAt w.heap.size w' v ps ∧ ps.map (·.2) = d.tick.2 ∧ Aside M'.own v ps ∧ NewM M M' w ∧ Touch (fun k => k = M.g ∨ k = M.gt ∨ k = M.go ∨ k = M.gm) w w' := by
 have hp : Tryz.prog.follows .mixedOrders = true := by kernel_rfl
 have k13 : w.cell? ⟨M.g, 13, none⟩ = some (.bool d.left) := h.cell 13
 have k7 : w.cell? ⟨M.g, 7, none⟩ = some (.int .i64 d.clock) := h.cell 7
 have z7 := h.frozen 7
 have hcl := hok.clock
 have hw : IntKind.i64.wrap (d.clock + 1) = d.clock + 1 := by rw [IntKind.wrap_i64]; omega
 have HD := Lib.hid h
 cases hl : d.left with
 | true =>
  rw [hl] at k13
  have ht : d.tick = (d, []) := by unfold Det.tick; rw [hl]; rfl
  have HT := Lib.hid ht
  clear ht h hcl hw k7 z7
  go_enter Tryz.func15, Tryz.ntmps15
  go_wp2_with fail
  go_ret
  exact ⟨_, M, [], rfl, by rw [HT.out]; exact HD.out, MsgsAt.none _ _, by rw [HT.out]; rfl, Aside.none _, NewM.refl _ _, Touch.refl _ _⟩
 | false =>
  rw [hl] at k13
  have ht : d.tick = ((Det.bury { d with clock := d.clock + 1 }).around.1.give.begin.1, (Det.bury { d with clock := d.clock + 1 }).around.2 ++ (Det.bury { d with clock := d.clock + 1 }).around.1.give.begin.2) := by unfold Det.tick; rw [hl]; rfl
  have HT := Lib.hid ht
  have hD1 := h.scalar (d' := { d with clock := d.clock + 1 }) 7 (.int .i64 (d.clock + 1)) rfl ⟨rfl, rfl, rfl, rfl, rfl, rfl, rfl⟩
  have hok1 := hok.ticks hc
  have hbu := bury_any M _ hok1 _ hD1
  have HBU := Lib.hid hbu
  have HK1 := Lib.hid hok1.bury
  have hT1 := touch_set (fun k => k = M.g ∨ k = M.gt ∨ k = M.go ∨ k = M.gm) w ⟨M.g, 7, none⟩ (.int .i64 (d.clock + 1)) (.inl rfl)
  have HT1 := Lib.hid hT1
  have hs1 : (w.setCell ⟨M.g, 7, none⟩ (.int .i64 (d.clock + 1))).heap.size = w.heap.size := by simp [World.setCell]
  clear ht hD1 hbu hT1 h hok1 hcl
  go_enter Tryz.func15, Tryz.ntmps15
  go_wp2_with fail
  generalize w.setCell ⟨M.g, 7, none⟩ (.int .i64 (d.clock + 1)) = w1 at *
  refine HBU.out.mono ?_
  rintro e w2 ⟨rfl, hD2, hT2⟩
  have HAR := Lib.hid (around_any M _ HK1.out w2 hD2)
  have HT2 := Lib.hid (HT1.out.trans hT2 fun _ _ h => h.elim (fun h => .inr (.inl h)) (fun h => .inr (.inr (.inr h))))
  clear hT2 hD2 HBU HT1 k13 k7 z7 hw
  generalize Det.bury { d with clock := d.clock + 1 } = d2 at *
  go_wp2_with fail
  refine HAR.out.mono ?_
  rintro e w3 ⟨v3, ps3, rfl, hD3, hM3, hP3, hA3, hg3⟩
  obtain ⟨o3, c3, rfl⟩ := slAt_slice hM3.1.at
  have hT3 := HT2.out.trans (Touch.of_grown (L := fun k => k = M.g ∨ k = M.gt ∨ k = M.go ∨ k = M.gm) hg3 fun j hj => .inr (.inr (.inl (Option.some.inj hj).symm))) fun _ _ h => h
  have hok3 := HK1.out.around
  have hs3 : w2.heap.size ≤ w3.heap.size := hg3.size
  have hs2 : w.heap.size ≤ w2.heap.size := HT2.out.size
  have hgi := give_any M _ hok3 w3 hD3
  have HGI := Lib.hid hgi
  have HM3 := Lib.hid hM3
  have HA3 := Lib.hid hA3
  have HP3 := Lib.hid hP3
  have HT3 := Lib.hid hT3
  have HK3 := Lib.hid hok3.give
  have hl3 : d2.around.2.length ≤ 8 := around_len d2
  have hn3 : d2.around.1.num = d2.num := (same_around d2).num
  have hlt3 := Lib.hid hD3.own_lt
  clear hgi hM3 hA3 hP3 hT3 hok3 hD3 hg3 HAR HT2 HK1
  generalize d2.around = dd3 at *
  obtain ⟨d3, l3⟩ := dd3
  dsimp only at *
  go_wp2_with fail
  refine HGI.out.mono ?_
  rintro e w4 ⟨rfl, M4, hD4, hN4, hT4⟩
  have hM4 := HM3.out.touch hT4 fun b hb hL => HA3.out b hb (by
   rcases hL with e | e | e
   ·rw [e]; exact M.mem_g
   ·rw [e]; exact M.mem_gt
   ·rw [e]; exact M.mem_gm)
  have hA4 : Aside M4.own (.slice o3 ps3.length c3) ps3 := fun b hb hm => by
   rcases hN4.own b hm with e | e
   ·exact HA3.out b hb e
   ·have := (HM3.out.blk b hb).2; omega
  have hT4' := HT3.out.trans hT4 fun _ _ h => h.elim .inl fun h => .inr (h.elim .inl fun h => .inr (.inr h))
  have hs4 : w3.heap.size ≤ w4.heap.size := hT4.size
  have hbe := begin_any M4 _ HK3.out w4 hD4
  have HBE := Lib.hid hbe
  have HM4 := Lib.hid hM4
  have HA4 := Lib.hid hA4
  have HT4 := Lib.hid hT4'
  have HN4 := Lib.hid hN4
  clear hbe hM4 hA4 hT4 hT4' hN4 hD4 HGI HM3 HA3 HT3 HK3
  generalize d3.give = d4 at *
  have hg4 : M4.g = M.g := HN4.out.g
  have hgo4 : M4.go = M.go := HN4.out.go
  rw [hg4] at HBE
  go_wp2_with fail
  refine HBE.out.mono ?_
  rintro e w5 ⟨M5, v5, ps5, rfl, hD5, hM5, hP5, hA5, hN5, hT5⟩
  obtain ⟨o5, c5, rfl⟩ := slAt_slice hM5.1.at
  have hM4' := HM4.out.touch hT5 fun b hb hL => HA4.out b hb (by
   rcases hL with e | e
   ·rw [e, ← hg4]; exact M4.mem_g
   ·rw [e]; exact M4.mem_go)
  have hA4' : Aside M5.own (.slice o3 ps3.length c3) ps3 := fun b hb hm => by
   rcases hN5.own b hm with e | e
   ·exact HA4.out b hb e
   ·have := (HM4.out.blk b hb).2; omega
  have hT5' : Touch (fun k => k = M.g ∨ k = M.gt ∨ k = M.go ∨ k = M.gm) w w5 := HT4.out.trans hT5 fun _ _ h => h.elim .inl fun h => .inr (.inr (.inl (by rw [h, hgo4])))
  have hl5 := begin_len d4
  rw [← hP5, List.length_map] at hl5
  have hl3' : ps3.length ≤ 8 := by have := hl3; rw [← HP3.out, List.length_map] at this; exact this
  have hs5 : w4.heap.size ≤ w5.heap.size := hT5.size
  have HM5 := Lib.hid hM5
  have HM4' := Lib.hid hM4'
  have HA4' := Lib.hid hA4'
  have HA5 := Lib.hid hA5
  have HT5 := Lib.hid hT5'
  have HD5 := Lib.hid hD5
  have HP5 := Lib.hid hP5
  have HN5 := Lib.hid ((NewM.refl M w3).trans HN4.out (Nat.le_refl _) |>.trans hN5 hs4)
  clear hM5 hM4' hA4' hA5 hT5 hT5' hD5 hP5 hN5 HM4 HA4 HT4 HN4 HBE
  go_wp2_with (at_builtin; refine wpList_app scells 16 scells_len (by decide) scells_one _ rfl _ _ 34 rfl w2.heap.size 42 _ 176 Tryz.underlying34 infoMsg rfl _ ps3 rfl ?h1 _ ps5 rfl ?h2 ?h3 ?h4 ?h5 ?_)
  case h1 => exact HM4'.out.1
  case h2 => exact HM5.out.1.at
  case h3 => omega
  case h4 => omega
  case h5 => omega
  intro v6 w6 hown6 hg6 hv6
  have hmm := msgs_app (HM4'.out) (fun p hp => ((HM5.out.2 p hp).lower (by omega))) hown6 hg6
  obtain ⟨o6, c6, rfl⟩ := slAt_slice hown6.at
  have hrow : ∀ k, (Value.slice o3 ps3.length c3).ownBlock = some k → w2.heap.size ≤ k := fun k hk => (HM4'.out.1.lt k hk).1
  have hD6 := HD5.out.keep (W' := w6) fun k hk => hg6.block k (HD5.out.own_lt k hk) fun e => HA4'.out k (.inl e.symm) hk
  have hA6 : Aside M5.own (.slice o6 (ps3 ++ ps5).length c6) (ps3 ++ ps5) := fun b hb hm => by
   rcases hb with hb | ⟨p, hp, hb⟩
   ·rcases hv6 with e | e
    ·rw [e] at hb; exact HA4'.out b (.inl hb) hm
    ·have := e b hb; have := HD5.out.own_lt b hm; omega
   ·rcases List.mem_append.1 hp with hp | hp
    ·exact HA4'.out b (.inr ⟨p, hp, hb⟩) hm
    ·exact HA5.out b (.inr ⟨p, hp, hb⟩) hm
  have hT6 : Touch (fun k => k = M.g ∨ k = M.gt ∨ k = M.go ∨ k = M.gm) w w6 := HT5.out.trans (Touch.of_grown (L := fun k => w2.heap.size ≤ k) hg6 fun j hj => hrow j hj) fun n hn hL => absurd hL (by show ¬ w2.heap.size ≤ n; omega)
  have HD6 := Lib.hid hD6
  have HA6 := Lib.hid hA6
  have HT6 := Lib.hid hT6
  have HM6 := Lib.hid (hmm.lower hs2)
  have HN6 : Hid (NewM M M5 w) := ⟨HN5.out.g, HN5.out.gt, HN5.out.go, HN5.out.gm, fun k hk => (HN5.out.own k hk).elim .inl fun e => .inr (by omega)⟩
  have HP6 : Hid ((ps3 ++ ps5).map (·.2) = l3 ++ d4.begin.2) := by
   show (ps3 ++ ps5).map (·.2) = _
   rw [List.map_append, HP3.out, HP5.out]
  clear hD6 hA6 hT6 hmm hown6 hg6 hv6 hrow HM5 HM4' HA4' HA5 HT5 HD5 HN5
  go_wp2_with fail
  go_ret
  exact ⟨_, M5, ps3 ++ ps5, rfl, by rw [HT.out]; exact HD6.out, HM6.out, by rw [HT.out]; exact HP6.out, HA6.out, HN6.out, HT6.out⟩
end Go.Proofs.YtejihgfigclppaaGreat
