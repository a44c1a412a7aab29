/-
  The detector leaves.
  The law's own small functions: word, ping; what all its statements begin with.
  The law's example, walked: it holds.
-/
import Derived.Test.YtejihgfigclppaaGreatMTell5
namespace Go.Proofs.YtejihgfigclppaaGreat
open Go.Shelf Go.RowKit Go.Lib Go.Sort
set_option linter.unusedVariables false
set_option linter.unusedSimpArgs false
set_option maxHeartbeats 4000000 in
theorem leave_nil (w : World) : Calls Tryz.prog 21 #[.pointer none] w fun e w' => e = .returned (.tuple #[.slice none 0 0, .int .i64 1]) ∧ w' = w := by
 go_enter Tryz.func21, Tryz.ntmps21
 go_wp2_with fail
 go_ret2
 exact ⟨rfl, rfl⟩
set_option maxHeartbeats 4000000 in
theorem leave_left (M : DM) (d : Det) (hl : d.left = true) (w : World) (h : DetAt w M d) : Calls Tryz.prog 21 #[.pointer (some ⟨M.g, 0, none⟩)] w fun e w' => e = .returned (.tuple #[.slice none 0 0, .int .i64 16]) ∧ w' = w := by
 have k13 : w.cell? ⟨M.g, 13, none⟩ = some (.bool true) := by rw [← hl]; exact h.cell 13
 clear h
 go_enter Tryz.func21, Tryz.ntmps21
 go_wp2_with fail
 go_ret2
 exact ⟨rfl, rfl⟩
set_option maxRecDepth 100000 in
set_option maxHeartbeats 16000000 in
theorem leave_any (M : DM) (d : Det) (hok : DetOk d) (hl : d.left = false) (w : World) (h : DetAt w M d) :
  Calls Tryz.prog 21 #[.pointer (some ⟨M.g, 0, none⟩)] w fun e w' => ∃ v, e = .returned (.tuple #[v, .int .i64 0]) ∧ Stepped M d.leave.1 d.leave.2 w v w' := by
 have hp : Tryz.prog.follows .mixedOrders = true := by kernel_rfl
 have k13 : w.cell? ⟨M.g, 13, none⟩ = some (.bool false) := by rw [← hl]; exact h.cell 13
 have z13 := h.frozen 13
 have hD1 := h.scalar (d' := { d with left := true }) 13 (.bool true) rfl ⟨rfl, rfl, rfl, rfl, rfl, rfl, rfl⟩
 have hT1 := touch_set (fun k => k ∈ M.own) w ⟨M.g, 13, none⟩ (.bool true) M.mem_g
 have hle : d.leave = ((Det.hear { d with left := true } ⟨d.self, 4, d.inc⟩), (othersT (Det.hear { d with left := true } ⟨d.self, 4, d.inc⟩).self (Det.hear { d with left := true } ⟨d.self, 4, d.inc⟩).tab).map fun n => (Det.hear { d with left := true } ⟨d.self, 4, d.inc⟩).send 1 n 0 0) := rfl
 have HLE := Lib.hid hle
 have HD1 := Lib.hid hD1
 have HT1 := Lib.hid hT1
 have HOK := Lib.hid hok
 have HOW := Lib.hid h.own_lt
 have hs1 : (w.setCell ⟨M.g, 13, none⟩ (.bool true)).heap.size = w.heap.size := by simp [World.setCell]
 clear hD1 hT1 hle hok h
 go_enter Tryz.func21, Tryz.ntmps21
 go_wp2_with fail
 generalize w.setCell ⟨M.g, 13, none⟩ (.bool true) = w1 at *
 have k0 : w1.cell? ⟨M.g, 0, none⟩ = some (.int .i64 d.self) := HD1.out.cell 0
 have k1 : w1.cell? ⟨M.g, 1, none⟩ = some (.int .i64 d.inc) := HD1.out.cell 1
 have hhe := hear_any M { d with left := true } ⟨d.self, 4, d.inc⟩ w1.drew (HD1.out.keep fun _ _ => rfl) (HOK.out.leaves.fits)
 have HHE := Lib.hid hhe
 clear hhe k13 z13
 go_cut [27] (fun s27 wx => s27 = .tuple #[] ∧ Hid (DetAt wx M (Det.hear { d with left := true } ⟨d.self, 4, d.inc⟩)) ∧ Hid (Touch (fun k => k ∈ M.own) w wx))
 case first =>
  go_region_held (fun w' => w'.cell? ⟨M.g, 0, none⟩ = some (.int .i64 d.self) ∧ w'.cell? ⟨M.g, 1, none⟩ = some (.int .i64 d.inc)) (first | exact ⟨k0, k1⟩ | exact ⟨j0, j1⟩) (first | (go_at_call 40; refine HHE.out.mono ?_; rintro e w7 ⟨rfl, hD7, hT7⟩; have j0 : w7.cell? ⟨M.g, 0, none⟩ = some (.int .i64 d.self) := (hD7.cell 0).trans (congrArg (fun z => some (Value.int .i64 z)) (hear_self _ _)); have j1 : w7.cell? ⟨M.g, 1, none⟩ = some (.int .i64 d.inc) := (hD7.cell 1).trans (congrArg (fun z => some (Value.int .i64 z)) (hear_inc _ _))))
  all_goals
   go_wp2_with fail
   go_meet
   exact ⟨rfl, hD7, (HT1.out.trans (Touch.of_grown (L := fun k => k ∈ M.own) (gb_drew w1 none) (fun j hj => by cases hj)) fun _ _ h => h).trans hT7 fun n hn hL => hL.elim (fun e => by rw [e]; exact M.mem_gt) fun e => by rw [e]; exact M.mem_gm⟩
 case rest =>
  obtain ⟨rfl, HD2, HT2⟩ := hcut
  clear HHE k0 k1 HD1 HT1
  generalize Det.hear { d with left := true } ⟨d.self, 4, d.inc⟩ = d2 at *
  have hs2 : w.heap.size ≤ wc.heap.size := HT2.out.size
  have hot := othersD_any M d2 wc HD2.out
  have HOT := Lib.hid hot
  clear hot
  go_wp2_with fail
  refine HOT.out.mono ?_
  rintro e w3 ⟨o3, c3, rfl, ho3, hb3⟩
  have hlen := othersT_len d2.self d2.tab
  have HD3 := Lib.hid (HD2.out.below hb3)
  have HT3 := Lib.hid (HT2.out.trans (Touch.of_below (L := fun k => k ∈ M.own) hb3 (Nat.le_refl _)) fun _ _ h => h)
  have hs3 : w.heap.size ≤ w3.heap.size := by have := hb3.size; omega
  have HO3 := Lib.hid ho3
  clear hb3 ho3 HOT HD2 HT2
  generalize hL : othersT d2.self d2.tab = L at *
  have HL := Lib.hid hL
  clear hL
  go_wp2_with fail
  go_loopg [2, 31] L.length (fun gk s2 s31 wr => ∃ (i : Nat) (oq : Option Addr) (cq : Nat) (ps : List PSent), s31 = .int .i64 i ∧ s2 = .slice oq ps.length cq ∧ i ≤ L.length ∧ L.length - i ≤ gk ∧ Hid (MsgsAt w3.heap.size wr (.slice oq ps.length cq) ps) ∧ Hid (ps.map (·.2) = (L.take i).map fun n => d2.send 1 n 0 0) ∧ Hid (Below w3.heap.size w3 wr))
  case atStart => exact ⟨0, none, 0, [], rfl, rfl, Nat.zero_le _, Nat.le_refl _, MsgsAt.none _ _, rfl, Below.refl _ _⟩
  case round =>
   obtain ⟨i, oq, cq, ps, rfl, rfl, hi, hgk, HMS, HMP, HBW⟩ := hrel
   by_cases hlt : i < L.length
   ·have hltz : (i : Int) < (L.length : Int) := by omega
    have hsl := (HO3.out.at).below icells_len (by decide) HBW.out (Nat.le_refl _)
    obtain ⟨lb, loff, rfl⟩ := hsl.plain icells_len (by decide) (by intro e; rw [e] at hlt; exact absurd hlt (by simp))
    have cx := hsl.cell icells_len (i := i) (c := 0) hlt (by decide)
    replace cx : wr.cell? ⟨lb, loff + i, none⟩ = some (.int .i64 L[i]) := by
     have e : loff + (i * 1 + 0) = loff + i := by omega
     rw [e] at cx
     exact cx
    have htk : (L.take (i + 1)).map (fun n => d2.send 1 n 0 0) = (L.take i).map (fun n => d2.send 1 n 0 0) ++ [d2.send 1 L[i] 0 0] := by rw [List.take_succ_eq_append_getElem hlt, List.map_append]; rfl
    have hpl : ps.length = i := by have := congrArg List.length HMP.out; simp only [List.length_map, List.length_take] at this; omega
    have HTK := Lib.hid htk
    have HMP2 := Lib.hid HMP.out
    generalize L[i] = x at *
    have hDr := HD3.out.below HBW.out
    have hse := send_any M d2 1 x 0 0 wr hDr
    have HSE := Lib.hid hse
    have hl8 : ps.length ≤ 8 := by omega
    have HPL := Lib.hid hpl
    have hB : w3.heap.size ≤ wr.heap.size := HBW.out.size
    clear htk hDr hse hsl HMP hpl
    go_wp2_with fail
    refine HSE.out.mono ?_
    rintro e w8 ⟨o8, c8, rfl, ho8, hb8⟩
    have HO8 := Lib.hid ho8
    have HB8 := Lib.hid hb8
    clear ho8 hb8 HSE cx
    unfold sentV Det.send
    dsimp only
    go_wp2_with (at_builtin; refine wpList_app scells 16 scells_len (by decide) scells_one _ rfl _ _ 34 rfl w3.heap.size 42 _ 176 Tryz.underlying34 infoMsg rfl _ ps rfl ?h1 _ [((⟨o8, (allT d2.tab).length, c8⟩ : Hdr), d2.send 1 x 0 0)] rfl ?h2 ?h3 ?h4 ?h5 ?_)
    case h1 => exact (HMS.out.1.below HB8.out (Nat.le_refl _)).below ((Below.refl _ _).alloc (Nat.le_refl _) _) (Nat.le_refl _)
    case h2 => exact (owns_new scells_len w8 (scells (⟨o8, (allT d2.tab).length, c8⟩, d2.send 1 x 0 0)).toArray 42 [((⟨o8, (allT d2.tab).length, c8⟩ : Hdr), d2.send 1 x 0 0)] (by simp) (by simp)).at
    case h3 => simp only [List.length_singleton]; omega
    case h4 => simp only [List.length_singleton]; omega
    case h5 => have := HB8.out.size; simp; omega
    intro v2 w2 hown2 hg2 hv2
    have hM8 : MsgsAt w3.heap.size (w8.alloc (.cells (scells (⟨o8, (allT d2.tab).length, c8⟩, d2.send 1 x 0 0)).toArray 42)) (.slice oq ps.length cq) ps := (HMS.out.below HB8.out (Nat.le_refl _)).below ((Below.refl _ _).alloc (Nat.le_refl _) _) (Nat.le_refl _)
    have hmm := msgs_app (ms := [((⟨o8, (allT d2.tab).length, c8⟩ : Hdr), d2.send 1 x 0 0)]) hM8 (fun q hq => by
     rw [List.mem_singleton] at hq
     subst hq
     exact (HO8.out.below ((Below.refl _ _).alloc (Nat.le_refl _) _) (Nat.le_refl _)).lower hB) hown2 hg2
    obtain ⟨oz, cz, rfl⟩ := slAt_slice hown2.at
    have hBX : Below w3.heap.size w3 w2 := ((HBW.out.trans (HB8.out.mono HBW.out.size)).alloc (by have := HB8.out.size; omega) (.cells (scells (⟨o8, (allT d2.tab).length, c8⟩, d2.send 1 x 0 0)).toArray 42)).grown hg2 (by have := HB8.out.size; simp; omega) fun k hk => (HMS.out.1.lt k hk).1
    have HM2 := Lib.hid hmm
    have HP2 : Hid ((ps ++ [((⟨o8, (allT d2.tab).length, c8⟩ : Hdr), d2.send 1 x 0 0)]).map (·.2) = (L.take (i + 1)).map fun n => d2.send 1 n 0 0) := by
     show (ps ++ [((⟨o8, (allT d2.tab).length, c8⟩ : Hdr), d2.send 1 x 0 0)]).map (·.2) = _
     rw [List.map_append, HMP2.out, HTK.out]
     rfl
    have HBX := Lib.hid hBX
    clear hM8 hmm hown2 hg2 hv2 hBX HMS HBW HB8 HO8
    go_wp2_with fail
    go_roundg (L.length - (i + 1))
    case measure => omega
    case rel => exact ⟨i + 1, oz, cz, ps ++ [((⟨o8, (allT d2.tab).length, c8⟩ : Hdr), d2.send 1 x 0 0)], by go_num, rfl, by omega, Nat.le_refl _, HM2.out, HP2.out, HBX.out⟩
   ·have hltz : ¬ (i : Int) < (L.length : Int) := by omega
    obtain rfl : i = L.length := by omega
    rw [List.take_length] at HMP
    have hlow := HD3.out.own_lt
    have hD5 := HD3.out.below HBW.out
    have hA5 : Aside M.own (.slice oq ps.length cq) ps := fun b hb hm => by
     have h1 := (HMS.out.blk b hb).1
     have h2 := hlow b hm
     omega
    have hT5 := HT3.out.trans (Touch.of_below (L := fun k => k ∈ M.own) HBW.out (Nat.le_refl _)) fun _ _ h => h
    have HST : Hid (Stepped M d2 (L.map fun n => d2.send 1 n 0 0) w (.slice oq ps.length cq) wr) := ⟨M, ps, hD5, HMS.out.lower hs3, HMP, hA5, NewM.refl _ _, hT5⟩
    clear hlow hD5 hA5 hT5 HMS HBW HMP HD3 HT3 HO3
    go_wp2_with fail
    go_ret2
    refine ⟨_, rfl, ?_⟩
    rw [HLE.out]
    exact HST.out
end Go.Proofs.YtejihgfigclppaaGreat
namespace Go.Proofs.YtejihgfigclppaaGreat
open Go.Shelf Go.RowKit Go.Lib Go.Sort
set_option linter.unusedVariables false
set_option linter.unusedSimpArgs false
set_option maxHeartbeats 4000000 in
theorem word_any (n : Int) (w : World) : Calls Tryz.prog 14 #[.int .i64 n] w fun e w' => e = .returned (.agg #[.int .i64 n, .int .i64 1, .int .i64 0]) ∧ Below w.heap.size w w' := by
 have hr := heap_alloc_new w (.cells #[.int .i64 n, .int .i64 1, .int .i64 0] 45)
 have HL := Lib.hid (load_whole hr rfl)
 have HB : Hid (Below w.heap.size w (w.alloc (.cells #[.int .i64 n, .int .i64 1, .int .i64 0] 45))) := (Below.refl _ _).alloc (Nat.le_refl _) _
 clear hr
 go_enter Tryz.func14, Tryz.ntmps14
 go_wp2_with fail
 have hL := run_loadVarAgg (t := 45) (n := 3) (by kernel_rfl) (by kernel_rfl) HL.out
 exact bodyPost_ret (v := .agg #[.int .i64 n, .int .i64 1, .int .i64 0]) (run_results_cell rfl rfl hL) rfl ⟨rfl, HB.out⟩
def pingM (frm to_ seq : Int) (ms : List Mb) (hs : Hdr) : Msg := (⟨1, frm, to_, seq, 0, ms⟩ : Sent).msg hs
set_option maxHeartbeats 4000000 in
theorem lping_any (frm to_ seq : Int) (oa : Option Addr) (n cap : Nat) (w : World) : Calls Tryz.prog 13 #[.int .i64 frm, .int .i64 to_, .int .i64 seq, .slice oa n cap] w fun e w' => e = .returned (.agg #[.int .i64 1, .int .i64 frm, .int .i64 to_, .int .i64 seq, .int .i64 0, .int .i64 0, .int .i64 0, .int .i64 0, .int .i64 0, .int .i64 0, .int .i64 0, .int .i64 0, .int .i64 0, .slice none 0 0, .slice none 0 0, .slice oa n cap]) ∧ Below w.heap.size w w' := by
 have hr := heap_alloc_new w (.cells #[.int .i64 1, .int .i64 frm, .int .i64 to_, .int .i64 seq, .int .i64 0, .int .i64 0, .int .i64 0, .int .i64 0, .int .i64 0, .int .i64 0, .int .i64 0, .int .i64 0, .int .i64 0, .slice none 0 0, .slice none 0 0, .slice oa n cap] 42)
 have HL := Lib.hid (load_whole hr rfl)
 have HB : Hid (Below w.heap.size w (w.alloc (.cells #[.int .i64 1, .int .i64 frm, .int .i64 to_, .int .i64 seq, .int .i64 0, .int .i64 0, .int .i64 0, .int .i64 0, .int .i64 0, .int .i64 0, .int .i64 0, .int .i64 0, .int .i64 0, .slice none 0 0, .slice none 0 0, .slice oa n cap] 42))) := (Below.refl _ _).alloc (Nat.le_refl _) _
 clear hr
 go_enter Tryz.func13, Tryz.ntmps13
 go_wp2_with fail
 have hL := run_loadVarAgg (t := 42) (n := 16) (by kernel_rfl) (by kernel_rfl) HL.out
 exact bodyPost_ret (v := .agg #[.int .i64 1, .int .i64 frm, .int .i64 to_, .int .i64 seq, .int .i64 0, .int .i64 0, .int .i64 0, .int .i64 0, .int .i64 0, .int .i64 0, .int .i64 0, .int .i64 0, .int .i64 0, .slice none 0 0, .slice none 0 0, .slice oa n cap]) (run_results_cell rfl rfl hL) rfl ⟨rfl, HB.out⟩
theorem pingM_in {w : World} {frm to_ seq : Int} {ms : List Mb} {hs : Hdr} (h : SlAt Mb.cells w hs.val ms) : MsgIn w (pingM frm to_ seq ms hs) :=
 ⟨SlAt.nil _ _, ⟨SlAt.nil _ _, fun p hp => nomatch hp⟩, h⟩
theorem msg_one {base : Nat} {w : World} {v : Value} {ps : List PSent} {s : Sent} (h : MsgsAt base w v ps) (hp : ps.map (·.2) = [s]) : ∃ g c hd, v = .slice (some ⟨g, 0, none⟩) 1 c ∧ ps = [(hd, s)] ∧ base ≤ g ∧ g < w.heap.size ∧ SlAt Mb.cells w hd.val s.ms ∧ ∀ k, k < 16 → w.cell? ⟨g, k, none⟩ = (scells (hd, s))[k]? := by
 have hl : ps.length = 1 := by have := congrArg List.length hp; simpa using this
 obtain ⟨⟨hd, s'⟩, rfl⟩ := List.length_eq_one_iff.1 hl
 simp only [List.map_cons, List.map_nil, List.cons.injEq, and_true] at hp
 subst hp
 rcases h.1.2 with ⟨hv, hn⟩ | ⟨g, cap, cur, hv, hb, hh, hc, hm, hs, ht⟩
 ·cases hn
 ·subst hv
  refine ⟨g, cap, hd, rfl, rfl, hb, (Array.getElem?_eq_some_iff.1 hh).1, (h.2 _ (List.mem_singleton.2 rfl)).at, fun k hk => ?_⟩
  have := h.1.at.cell scells_len (i := 0) (c := k) (by simp) hk
  rw [show 0 + (0 * 16 + k) = k by omega] at this
  exact this
theorem tick_stepped (M : DM) (d : Det) (hok : DetOk d) (hc : d.clock < 1000000) (hn : d.num < 1000000) (w : World) (h : DetAt w M d) :
  Calls Tryz.prog 15 #[.pointer (some ⟨M.g, 0, none⟩)] w fun e w' => ∃ v, e = .returned v ∧ Stepped M d.tick.1 d.tick.2 w v w' := by
 refine (tick_any M d hok hc hn w h).mono ?_
 rintro e w' ⟨v, M', ps, rfl, h1, h2, h3, h4, h5, h6⟩
 refine ⟨v, rfl, M', ps, h1, h2, h3, h4, h5, h6.mono fun n hn hL => ?_⟩
 rcases hL with e | e | e | e
 ·rw [e]; exact M.mem_g
 ·rw [e]; exact M.mem_gt
 ·rw [e]; exact M.mem_go
 ·rw [e]; exact M.mem_gm
theorem aside_kept {M M' : DM} {w w' : World} (ht : Touch (fun k => k ∈ M.own) w w') (hn : NewM M M' w) {g : Nat} (hg : g < w.heap.size) (hm : g ∉ M.own) : w'.heap[g]? = w.heap[g]? ∧ g ∉ M'.own ∧ g < w'.heap.size :=
 ⟨ht.block g hg hm, fun e => (hn.own g e).elim hm fun h => by omega, Nat.lt_of_lt_of_le hg ht.size⟩
theorem onPing_any (M : DM) (d : Det) (hok : DetOk d) (hn : d.num < 1000000) (hl : d.left = false) (frm seq : Int) (hf : 0 ≤ frm ∧ frm ≤ 7) (hne : frm ≠ d.self) (hq : 0 ≤ seq ∧ seq ≤ 1099511627776) (ms : List Mb) (hms : MsOk ms) (hs : ms.length ≤ 1000) (hd : Hdr) (w : World) (hsl : SlAt Mb.cells w hd.val ms) (hA : ∀ b, hd.val.ownBlock = some b → b ∉ M.own) (h : DetAt w M d) :
  Calls Tryz.prog 12 #[.pointer (some ⟨M.g, 0, none⟩), .agg #[.int .i64 1, .int .i64 frm, .int .i64 d.self, .int .i64 seq, .int .i64 0, .int .i64 0, .int .i64 0, .int .i64 0, .int .i64 0, .int .i64 0, .int .i64 0, .int .i64 0, .int .i64 0, .slice none 0 0, .slice none 0 0, hd.val]] w fun e w' =>
   ∃ v, e = .returned (.tuple #[v, .int .i64 0]) ∧ Stepped M (d.on ⟨1, frm, d.self, seq, 0, ms⟩).1 (d.on ⟨1, frm, d.self, seq, 0, ms⟩).2 w v w' := by
 have hr : (pingM frm d.self seq ms hd).right := Sent.right (.inl rfl) hf hok.self hne hq (.inr rfl) hms
 have hb : badOn d (pingM frm d.self seq ms hd) = false := by
  unfold badOn
  rw [Msg.rightB_true hr, show decide ((pingM frm d.self seq ms hd).to_ = d.self) = true from decide_eq_true rfl]
  rfl
 have hc := on_any M d hok hn (pingM frm d.self seq ms hd) (Sent.small hs) w (pingM_in hsl) (.inr hA) h
 exact hc.mono fun e w' ⟨_, _, h3⟩ => h3 hb hl
def dA0 : Det := Det.new 0 0 ⟨1, 0, 2⟩ 1
def dA1 : Det × List Sent := dA0.on ⟨1, 1, 0, 5, 0, [⟨1, 1, 0⟩]⟩
def dA2 : Det × List Sent := dA1.1.tick
def dA3 : Det × List Sent := dA2.1.tick
def dA4 : Det × List Sent := dA3.1.tick
def dA5 : Det × List Sent := dA4.1.tick
def dA6 : Det × List Sent := dA5.1.tick
theorem okA0 : DetOk dA0 := DetOk.new (by decide) (by decide)
theorem okA1 : DetOk dA1.1 := okA0.on _ (by decide)
theorem okA2 : DetOk dA2.1 := okA1.tick (by decide +kernel) (by decide +kernel)
theorem okA3 : DetOk dA3.1 := okA2.tick (by decide +kernel) (by decide +kernel)
theorem okA4 : DetOk dA4.1 := okA3.tick (by decide +kernel) (by decide +kernel)
theorem okA5 : DetOk dA5.1 := okA4.tick (by decide +kernel) (by decide +kernel)
theorem outA1 : dA1.2 = [⟨2, 0, 1, 5, 0, allT dA1.1.tab⟩] := rfl
theorem outA2 : ∃ s : Sent, dA2.2 = [s] ∧ s.kind = 1 := by
 have h : dA2.2.map (·.kind) = [1] := by decide +kernel
 cases e : dA2.2 with
 | nil => rw [e] at h; cases h
 | cons a l => cases l with
  | nil => exact ⟨a, rfl, by rw [e] at h; simpa using h⟩
  | cons b l => rw [e] at h; simp at h
theorem outA3 : dA3.2.length = 0 := by decide +kernel
theorem outA4 : dA4.2.length = 1 := by decide +kernel
theorem wordsA4 : allT dA4.1.tab = [⟨0, 1, 0⟩, ⟨1, 2, 0⟩] := by decide +kernel
theorem wordsA6 : allT dA6.1.tab = [⟨0, 1, 0⟩, ⟨1, 3, 0⟩] := by decide +kernel
structure ExA (d0 d1 d2 d3 d4 d5 d6 : Det) (l1 l2 l3 l4 l5 l6 : List Sent) : Prop where
 s0 : Det.new 0 0 ⟨1, 0, 2⟩ 1 = d0
 s1 : d0.on ⟨1, 1, d0.self, 5, 0, [⟨1, 1, 0⟩]⟩ = (d1, l1)
 s2 : d1.tick = (d2, l2)
 s3 : d2.tick = (d3, l3)
 s4 : d3.tick = (d4, l4)
 s5 : d4.tick = (d5, l5)
 s6 : d5.tick = (d6, l6)
 z0 : d0.self = 0
 lf0 : d0.left = false
 k0 : DetOk d0
 k1 : DetOk d1
 k2 : DetOk d2
 k3 : DetOk d3
 k4 : DetOk d4
 k5 : DetOk d5
 n0 : d0.num < 1000000
 c1 : d1.clock < 1000000
 n1 : d1.num < 1000000
 c2 : d2.clock < 1000000
 n2 : d2.num < 1000000
 c3 : d3.clock < 1000000
 n3 : d3.num < 1000000
 c4 : d4.clock < 1000000
 n4 : d4.num < 1000000
 c5 : d5.clock < 1000000
 n5 : d5.num < 1000000
 o1 : ∃ s : Sent, l1 = [s] ∧ s.kind = 2 ∧ s.seq = 5
 o2 : ∃ s : Sent, l2 = [s] ∧ s.kind = 1
 o3 : l3.length = 0
 o4 : l4.length = 1
 w4 : allT d4.tab = [⟨0, 1, 0⟩, ⟨1, 2, 0⟩]
 w6 : allT d6.tab = [⟨0, 1, 0⟩, ⟨1, 3, 0⟩]
theorem exA : ∃ d0 d1 d2 d3 d4 d5 d6 l1 l2 l3 l4 l5 l6, ExA d0 d1 d2 d3 d4 d5 d6 l1 l2 l3 l4 l5 l6 :=
 ⟨dA0, dA1.1, dA2.1, dA3.1, dA4.1, dA5.1, dA6.1, dA1.2, dA2.2, dA3.2, dA4.2, dA5.2, dA6.2, {
  s0 := rfl, s1 := rfl, s2 := rfl, s3 := rfl, s4 := rfl, s5 := rfl, s6 := rfl, z0 := rfl, lf0 := rfl
  k0 := okA0, k1 := okA1, k2 := okA2, k3 := okA3, k4 := okA4, k5 := okA5
  n0 := by decide
  c1 := by decide +kernel
  n1 := by decide +kernel
  c2 := by decide +kernel
  n2 := by decide +kernel
  c3 := by decide +kernel
  n3 := by decide +kernel
  c4 := by decide +kernel
  n4 := by decide +kernel
  c5 := by decide +kernel
  n5 := by decide +kernel
  o1 := ⟨_, outA1, rfl, rfl⟩
  o2 := outA2
  o3 := outA3
  o4 := outA4
  w4 := wordsA4
  w6 := wordsA6 }⟩
end Go.Proofs.YtejihgfigclppaaGreat
namespace Go.Proofs.YtejihgfigclppaaGreat
open Go.Shelf Go.RowKit Go.Lib Go.Sort
set_option linter.unusedVariables false
set_option linter.unusedSimpArgs false
set_option maxRecDepth 100000 in
set_option maxHeartbeats 32000000 in
theorem alive20_any (w : World) : Calls Tryz.prog 9 #[] w fun e w' => e = .returned (.bool true) ∧ Below w.heap.size w w' := by
 obtain ⟨d0, d1, d2, d3, d4, d5, d6, l1, l2, l3, l4, l5, l6, X⟩ := exA
 have hnew := newD_good 0 0 ⟨1, 0, 2⟩ 1 w (by decide) (by decide)
 rw [X.s0] at hnew
 have HNEW := Lib.hid hnew
 have X := Lib.hid X
 have hword := fun W => word_any 1 W
 have HWORD := Lib.hid hword
 clear hnew hword
 go_enter Tryz.func9, Tryz.ntmps9
 go_wp2_with fail
 refine HNEW.out.mono ?_
 rintro e w1 ⟨M0, rfl, hD0, hO0, hB0⟩
 have HD0 := Lib.hid hD0
 have HO0 := Lib.hid hO0
 have HB0 := Lib.hid hB0
 clear hD0 hO0 hB0 HNEW
 go_wp2_with fail
 refine (HWORD.out _).mono ?_
 rintro e w2 ⟨rfl, hb2⟩
 have HB2 := Lib.hid hb2
 clear hb2 HWORD
 go_wp2_with fail
 have hb3 := (HB2.out.alloc HB2.out.size (.cells #[.int .i64 1, .int .i64 1, .int .i64 0] 45))
 have hsl3 : SlAt Mb.cells (w2.alloc (.cells #[.int .i64 1, .int .i64 1, .int .i64 0] 45)) (.slice (some ⟨w2.heap.size, 0, none⟩) 1 1) [(⟨1, 1, 0⟩ : Mb)] := slAt_new w2 #[.int .i64 1, .int .i64 1, .int .i64 0] 45 1 1 (0, 0) [(⟨1, 1, 0⟩ : Mb)] rfl rfl (by decide)
 have hgl3 : w2.heap.size < (w2.alloc (.cells #[.int .i64 1, .int .i64 1, .int .i64 0] 45)).heap.size := by simp
 have hw12 : w1.heap.size ≤ w2.heap.size := HB2.out.size
 generalize hg3 : w2.heap.size = g3 at *
 generalize w2.alloc (.cells #[.int .i64 1, .int .i64 1, .int .i64 0] 45) = w3 at *
 have HB3 := Lib.hid hb3
 have HSL3 := Lib.hid hsl3
 clear hb3 hsl3 hg3 HB2
 refine (lping_any 1 0 5 (some ⟨g3, 0, none⟩) 1 1 w3).mono ?_
 rintro e w4 ⟨rfl, hb4⟩
 have hD4 := HD0.out.below (HB3.out.trans (hb4.mono (by have := HB3.out.size; omega)))
 have hon := onPing_any M0 d0 X.out.k0 X.out.n0 X.out.lf0 1 5 (by decide) (by rw [X.out.z0]; decide) (by decide) [(⟨1, 1, 0⟩ : Mb)] (by decide) (by decide) ⟨some ⟨g3, 0, none⟩, 1, 1⟩ w4 (HSL3.out.below Mb.cells_len (by decide) hb4 (Nat.le_refl _)) (fun b hb hm => by
  have h1 : g3 = b := Option.some.inj hb
  have h2 := HD0.out.own_lt b hm
  omega) hD4
 rw [X.out.s1, X.out.z0] at hon
 dsimp only at hon
 have HON := Lib.hid hon
 have HB4 := Lib.hid ((HB0.out.trans (HB3.out.mono HB0.out.size)).trans (hb4.mono (by have := HB3.out.size; have := HB0.out.size; omega)))
 have hs4 : w.heap.size ≤ w4.heap.size := HB4.out.size
 have hown4 : Hid (∀ k ∈ M0.own, w.heap.size ≤ k) := HO0
 clear hb4 hD4 hon HD0 HSL3 HB3 HO0 HB0
 go_wp2_with fail
 refine HON.out.mono ?_
 rintro e w5 ⟨va, rfl, M1, psa, hD5, hMa, hPa, hAa, hN5, hT5⟩
 obtain ⟨sa, hsa, hka, hqa⟩ := X.out.o1
 obtain ⟨ga, ca, ha, rfl, rfl, hga, hgal, _, hca⟩ := msg_one hMa (hPa.trans hsa)
 have a0 : w5.cell? ⟨ga, 0, none⟩ = some (.int .i64 2) := by rw [hca 0 (by decide)]; show some (Value.int .i64 sa.kind) = _; rw [hka]
 have a3 : w5.cell? ⟨ga, 3, none⟩ = some (.int .i64 5) := by rw [hca 3 (by decide)]; show some (Value.int .i64 sa.seq) = _; rw [hqa]
 clear hsa hka hqa
 have hgn : ga ∉ M1.own := hAa ga (.inl rfl)
 have hB5 : Below w.heap.size w w5 := HB4.out.trans (hT5.below hs4 fun k hk => hown4.out k hk)
 have hown5 : ∀ k ∈ M1.own, w.heap.size ≤ k := fun k hk => (hN5.own k hk).elim (hown4.out k) fun h => by omega
 have HD5 := Lib.hid hD5
 have HB5 := Lib.hid hB5
 have HO5 := Lib.hid hown5
 have HG5 := Lib.hid hgn
 have hT5n := tick_stepped M1 d1 X.out.k1 X.out.c1 X.out.n1 w5 hD5
 have hg1 : M1.g = M0.g := hN5.g
 rw [X.out.s2, hg1] at hT5n
 have HT5 := Lib.hid hT5n
 clear hT5n
 clear hMa hPa hAa hN5 hT5 hca hgn hD5 hB5 hown5 hown4 HON HB4
 go_wp2_with fail
 refine HT5.out.mono ?_
 rintro e w6 ⟨vx, rfl, M2, psx, hD6, hMx, hPx, hAx, hN6, hT6⟩
 obtain ⟨sx, hsx, hkx⟩ := X.out.o2
 obtain ⟨gx, cx, hx, rfl, rfl, hgx, hgxl, _, hcx⟩ := msg_one hMx (hPx.trans hsx)
 have x0 : w6.cell? ⟨gx, 0, none⟩ = some (.int .i64 1) := by rw [hcx 0 (by decide)]; show some (Value.int .i64 sx.kind) = _; rw [hkx]
 obtain ⟨ka, hga6, hgal6⟩ := aside_kept hT6 hN6 hgal HG5.out
 have b0 := (World.cell?_of_block (a := ⟨ga, 0, none⟩) ka).trans a0
 have b3 := (World.cell?_of_block (a := ⟨ga, 3, none⟩) ka).trans a3
 have hs5 : w.heap.size ≤ w5.heap.size := HB5.out.size
 have hB6 : Below w.heap.size w w6 := HB5.out.trans (hT6.below hs5 fun k hk => HO5.out k hk)
 have hown6 : ∀ k ∈ M2.own, w.heap.size ≤ k := fun k hk => (hN6.own k hk).elim (HO5.out k) fun h => by omega
 have HG6 := Lib.hid (show ga ∉ M2.own ∧ gx ∉ M2.own from ⟨hga6, hAx gx (.inl rfl)⟩)
 have HD6 := Lib.hid hD6
 have HB6 := Lib.hid hB6
 have HO6 := Lib.hid hown6
 have hT6n := tick_stepped M2 d2 X.out.k2 X.out.c2 X.out.n2 w6 hD6
 have hg2 : M2.g = M0.g := hN6.g.trans hg1
 rw [X.out.s3, hg2] at hT6n
 have HT6 := Lib.hid hT6n
 clear hT6n
 clear hMx hPx hAx hN6 hT6 hcx hga6 hD6 hB6 hown6 HT5 HD5 HB5 HO5 HG5 a0 a3 ka hsx hkx
 go_wp2_with fail
 refine HT6.out.mono ?_
 rintro e w7 ⟨vy, rfl, M3, psy, hD7, hMy, hPy, hAy, hN7, hT7⟩
 obtain ⟨oy, cy, rfl⟩ := slAt_slice hMy.1.at
 have hly : psy.length = 0 := by rw [← List.length_map (f := (·.2)), hPy]; exact X.out.o3
 rw [hly]
 obtain ⟨ka, hga7, hgal7⟩ := aside_kept hT7 hN7 hgal6 HG6.out.1
 obtain ⟨kx, hgx7, hgxl7⟩ := aside_kept hT7 hN7 hgxl HG6.out.2
 have c0 := (World.cell?_of_block (a := ⟨ga, 0, none⟩) ka).trans b0
 have c3 := (World.cell?_of_block (a := ⟨ga, 3, none⟩) ka).trans b3
 have y0 := (World.cell?_of_block (a := ⟨gx, 0, none⟩) kx).trans x0
 have hs6 : w.heap.size ≤ w6.heap.size := HB6.out.size
 have hB7 : Below w.heap.size w w7 := HB6.out.trans (hT7.below hs6 fun k hk => HO6.out k hk)
 have hown7 : ∀ k ∈ M3.own, w.heap.size ≤ k := fun k hk => (hN7.own k hk).elim (HO6.out k) fun h => by omega
 have HG7 := Lib.hid (show ga ∉ M3.own ∧ gx ∉ M3.own from ⟨hga7, hgx7⟩)
 have HD7 := Lib.hid hD7
 have HB7 := Lib.hid hB7
 have HO7 := Lib.hid hown7
 have hT7n := tick_stepped M3 d3 X.out.k3 X.out.c3 X.out.n3 w7 hD7
 have hg3 : M3.g = M0.g := hN7.g.trans hg2
 rw [X.out.s4, hg3] at hT7n
 have HT7 := Lib.hid hT7n
 clear hT7n
 clear hMy hPy hAy hN7 hT7 hga7 hgx7 hD7 hB7 hown7 HT6 HD6 HB6 HO6 HG6 b0 b3 x0 ka kx hly
 go_wp2_with fail
 refine HT7.out.mono ?_
 rintro e w8 ⟨vz, rfl, M4, psz, hD8, hMz, hPz, hAz, hN8, hT8⟩
 obtain ⟨oz, cz, rfl⟩ := slAt_slice hMz.1.at
 have hlz : psz.length = 1 := by rw [← List.length_map (f := (·.2)), hPz]; exact X.out.o4
 rw [hlz]
 obtain ⟨ka, hga8, hgal8⟩ := aside_kept hT8 hN8 hgal7 HG7.out.1
 obtain ⟨kx, hgx8, hgxl8⟩ := aside_kept hT8 hN8 hgxl7 HG7.out.2
 have b0 := (World.cell?_of_block (a := ⟨ga, 0, none⟩) ka).trans c0
 have b3 := (World.cell?_of_block (a := ⟨ga, 3, none⟩) ka).trans c3
 have x0 := (World.cell?_of_block (a := ⟨gx, 0, none⟩) kx).trans y0
 have hs7 : w.heap.size ≤ w7.heap.size := HB7.out.size
 have hB8 : Below w.heap.size w w8 := HB7.out.trans (hT8.below hs7 fun k hk => HO7.out k hk)
 have hown8 : ∀ k ∈ M4.own, w.heap.size ≤ k := fun k hk => (hN8.own k hk).elim (HO7.out k) fun h => by omega
 have HD8 := Lib.hid hD8
 have HB8 := Lib.hid hB8
 have HO8 := Lib.hid hown8
 have hg4 : M4.g = M0.g := hN8.g.trans hg3
 have hW8n := words_any M4 d4 w8 hD8
 rw [hg4] at hW8n
 have HW8 := Lib.hid hW8n
 clear hW8n
 clear hMz hPz hAz hN8 hT8 hga8 hgx8 hD8 hB8 hown8 HT7 HD7 HB7 HO7 HG7 c0 c3 y0 ka kx hlz
 go_wp2_with fail
 refine HW8.out.mono ?_
 rintro e w9 ⟨os, cs, rfl, ho9, hb9⟩
 have hws := X.out.w4
 have hsl := ho9.at
 rw [hws] at hsl
 obtain ⟨gs, offs, rfl⟩ := hsl.plain Mb.cells_len (by decide) (by simp)
 have s1 : w9.cell? ⟨gs, offs + 4, none⟩ = some (.int .i64 2) := hsl.cell Mb.cells_len (i := 1) (c := 1) (by decide) (by decide)
 have hlen : (allT d4.tab).length = 2 := by rw [hws]; rfl
 rw [hlen]
 have a0 := (hb9.cell (p := ⟨ga, 0, none⟩) hgal8).trans b0
 have a3 := (hb9.cell (p := ⟨ga, 3, none⟩) hgal8).trans b3
 have y0 := (hb9.cell (p := ⟨gx, 0, none⟩) hgxl8).trans x0
 have HD9 := Lib.hid (HD8.out.below hb9)
 have HB9 := Lib.hid (HB8.out.trans (hb9.mono HB8.out.size))
 have HO9 := HO8
 clear hsl ho9 hb9 hws HW8 HD8 HB8 HO8 b0 b3 x0 hlen
 go_wp2_with fail
 have hT9n := tick_stepped M4 d4 X.out.k4 X.out.c4 X.out.n4 w9 HD9.out
 rw [X.out.s5, hg4] at hT9n
 have HT9 := Lib.hid hT9n
 clear hT9n s1 a0 a3 y0
 refine HT9.out.mono ?_
 rintro e w10 ⟨vp, rfl, M5, psp, hD10, _, _, _, hN10, hT10⟩
 have hg5 : M5.g = M0.g := hN10.g.trans hg4
 have hs9 : w.heap.size ≤ w9.heap.size := HB9.out.size
 have hB10 : Below w.heap.size w w10 := HB9.out.trans (hT10.below hs9 fun k hk => HO9.out k hk)
 have hown10 : ∀ k ∈ M5.own, w.heap.size ≤ k := fun k hk => (hN10.own k hk).elim (HO9.out k) fun h => by omega
 have hT10n := tick_stepped M5 d5 X.out.k5 X.out.c5 X.out.n5 w10 hD10
 rw [X.out.s6, hg5] at hT10n
 have HT10 := Lib.hid hT10n
 have HB10 := Lib.hid hB10
 have HO10 := Lib.hid hown10
 clear hT10n hB10 hown10 hD10 hN10 hT10 HT9 HD9 HO9 HB9
 go_wp2_with fail
 refine HT10.out.mono ?_
 rintro e w11 ⟨vq, rfl, M6, psq, hD11, _, _, _, hN11, hT11⟩
 have hg6 : M6.g = M0.g := hN11.g.trans hg5
 have hs10 : w.heap.size ≤ w10.heap.size := HB10.out.size
 have hB11 : Below w.heap.size w w11 := HB10.out.trans (hT11.below hs10 fun k hk => HO10.out k hk)
 have hW11n := words_any M6 d6 w11 hD11
 rw [hg6] at hW11n
 have HW11 := Lib.hid hW11n
 have HB11 := Lib.hid hB11
 clear hW11n hB11 hD11 hN11 hT11 HT10 HB10 HO10
 go_wp2_with fail
 refine HW11.out.mono ?_
 rintro e w12 ⟨ot, ct, rfl, ho12, hb12⟩
 have hws := X.out.w6
 have hsl := ho12.at
 rw [hws] at hsl
 obtain ⟨gt, offt, rfl⟩ := hsl.plain Mb.cells_len (by decide) (by simp)
 have s1 : w12.cell? ⟨gt, offt + 4, none⟩ = some (.int .i64 3) := hsl.cell Mb.cells_len (i := 1) (c := 1) (by decide) (by decide)
 have hlen : (allT d6.tab).length = 2 := by rw [hws]; rfl
 rw [hlen]
 have HB12 := Lib.hid (HB11.out.trans (hb12.mono HB11.out.size))
 clear hsl ho12 hb12 hws HW11 HB11 hlen
 go_wp2_with fail
 refine (leave_nil w12).mono ?_
 rintro e w13 ⟨rfl, rfl⟩
 go_wp2_with fail
 go_ret
 exact ⟨rfl, HB12.out⟩
end Go.Proofs.YtejihgfigclppaaGreat
