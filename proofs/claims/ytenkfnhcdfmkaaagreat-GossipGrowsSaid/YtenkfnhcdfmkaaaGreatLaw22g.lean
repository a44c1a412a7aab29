/-
  The law GossipGrows walked: it returns true, and turns nothing that was there.
-/
import Derived.Test.YtenkfnhcdfmkaaaGreatGreat22
import Derived.Test.YtenkfnhcdfmkaaaGreatMGosR
import Derived.Test.YtenkfnhcdfmkaaaGreatHas
namespace Go.Proofs.YtenkfnhcdfmkaaaGreat
open Go.Shelf Go.RowKit Go.Lib Go.Sort
set_option linter.unusedVariables false
set_option linter.unusedSimpArgs false
theorem Touch.below22 {M : GM} {a b : World} (h : Touch M.own a b) {B : Nat} (hB : B ≤ a.heap.size) (ho : ∀ k, M.own k → B ≤ k) : RowKit.Below B a b := h.below hB ho
def Sees (S T : BookS) : Prop := ∀ n q, S.saw n q = true → T.saw n q = true
theorem givenB_sees (l : List Ev) : ∀ (p : BookS × List Ev), p.1.Fine → Sees p.1 (l.foldl (fun (p : BookS × List Ev) e => ((addB p.1 e).2, if (addB p.1 e).1 = 0 then p.2 ++ [e] else p.2)) p).1 := by
 induction l with
 | nil => intro p _ n q h; exact h
 | cons e l ih => intro p hf n q h; exact ih _ (addB_fine hf e) n q (addB_keeps hf n q h)
theorem addB_new {S : BookS} {e : Ev} (hf : S.Fine) (h : (addB S e).1 = 0) : May e.dot ∧ S.sees e.dot = false ∧ (addB S e).2.sees e.dot = true := by
 unfold addB at h ⊢
 by_cases hr : RightEv e
 ·rw [if_pos hr] at h ⊢
  by_cases hs : S.sees e.dot = true
  ·rw [if_pos hs] at h; cases h
  ·rw [if_neg hs] at h ⊢
   exact ⟨hr.1, by simpa using hs, ((takeB_is hf hr (by simpa using hs)).1 e.dot hr.1).2 (.inr (.inl rfl))⟩
 ·rw [if_neg hr] at h; cases h
theorem givenB_new (l : List Ev) : ∀ (p : BookS × List Ev) (S : BookS), p.1.Fine → Sees S p.1 → (∀ e ∈ p.2, May e.dot ∧ S.sees e.dot = false ∧ p.1.sees e.dot = true) → ∀ e ∈ (l.foldl (fun (p : BookS × List Ev) e => ((addB p.1 e).2, if (addB p.1 e).1 = 0 then p.2 ++ [e] else p.2)) p).2, May e.dot ∧ S.sees e.dot = false ∧ (l.foldl (fun (p : BookS × List Ev) e => ((addB p.1 e).2, if (addB p.1 e).1 = 0 then p.2 ++ [e] else p.2)) p).1.sees e.dot = true := by
 induction l with
 | nil => intro p S _ _ h; exact h
 | cons e l ih =>
  intro p S hf hs h
  refine ih _ S (addB_fine hf e) (fun n q hh => addB_keeps hf n q (hs n q hh)) fun x hx => ?_
  have hold : ∀ x ∈ p.2, May x.dot ∧ S.sees x.dot = false ∧ (addB p.1 e).2.sees x.dot = true := fun x hx => ⟨(h x hx).1, (h x hx).2.1, addB_keeps hf _ _ (h x hx).2.2⟩
  by_cases hc : (addB p.1 e).1 = 0
  ·simp only [hc, if_true] at hx
   rcases List.mem_append.1 hx with hx | hx
   ·exact hold x hx
   ·obtain rfl : x = e := by simpa using hx
    obtain ⟨h1, h2, h3⟩ := addB_new hf hc
    refine ⟨h1, ?_, h3⟩
    cases hS : S.sees x.dot with
    | false => rfl
    | true => have := hs _ _ hS; rw [show p.1.saw x.dot.node.toNat x.dot.seq.toNat = p.1.sees x.dot from rfl, h2] at this; cases this
  ·simp only [hc, if_false] at hx
   exact hold x hx
structure Step22 (M : GM) (x : Gsp) (wS w : World) : Prop where
 at' : ∃ y : Gsp, y.Ok ∧ y.self = x.self ∧ GAt w M y ∧ Sees x.S y.S
 touch : Touch M.own wS w
theorem someL_mem {s n x : Int} {l : List Int} (hl : l.length ≤ 900000) (h : x ∈ someL s l n) : x ∈ l := by
 unfold someL at h
 have h1 := List.mem_of_mem_take h
 have hp := shufL_perm s (onceL l) (by have := onceL_len l; omega)
 exact ((onceL_is l).2 x).1 (hp.mem_iff.1 h1)
theorem add_step22 {M : GM} {x : Gsp} {wS wq : World} {e : Ev} (hxo : x.Ok) (hg : GAt wS M x) (hbk : BookAt wq M.bb M.ms M.mh M.B (addB x.S e).2) (ht : Turns3 M.bb M.ms M.mh wS.drew wq) : Step22 M x wS wq :=
 ⟨⟨⟨x.self, x.mtu, x.s, (addB x.S e).2⟩, ⟨hxo.self, hxo.mtu, addB_fine hxo.fine e⟩, rfl, (hg.below (below_drew (Below.refl wS.heap.size wS)) (Nat.le_refl _)).booked hbk ht, fun n q h => addB_keeps hxo.fine n q h⟩, (Touch.of_below (L := M.own) (below_drew (Below.refl wS.heap.size wS)) (Nat.le_refl _)).trans (turns_touch ht) fun n hn h => h⟩
theorem row_turns22 {M : GM} {wS wq : World} {b : Nat} {o : Option Go.Obj} (ht : Turns3 M.bb M.ms M.mh wS.drew wq) (hrow : wS.heap[b]? = o) (hb : b < wS.heap.size) (hn : ∀ k, M.own k → k < b) : wq.heap[b]? = o := by
 have h1 := hn _ (.inr (.inl rfl))
 have h2 := hn _ (.inr (.inr (.inl rfl)))
 have h3 := hn _ (.inr (.inr (.inr rfl)))
 exact (ht.block b hb (by omega) (by omega) (by omega)).trans hrow
structure OnOut (M : GM) (x : Gsp) (m : Msg) (w : World) (c : Int) (ms : List Msg) (qs : List PEv) (vo vn : Value) (w' : World) : Prop where
 out : MRow w.heap.size w' vo ms
 news : Acc w.heap.size 44 40 w' vn qs
 sent : ∀ d ∈ ms, c = 0 ∧ Sendable x.self m.frm d
 at' : ∃ y : Gsp, y.Ok ∧ y.self = x.self ∧ GAt w' M y ∧ Sees x.S y.S ∧ ∀ q ∈ qs, May q.2.dot ∧ x.S.sees q.2.dot = false ∧ y.S.sees q.2.dot = true
 touch : Touch M.own w w'
 few : ms.length ≤ 1000 ∧ qs.length ≤ 1000000
theorem on_out22 {M : GM} {x : Gsp} {m : Msg} {w : World} {e : Ending} {w' : World} (hok : x.Ok) (hs : m.small) (hg : GAt w M x) (h : OnG M x m w e w') : ∃ (ov : Option Addr) (cv : Nat) (on : Option Addr) (cn : Nat) (c : Int) (ms : List Msg) (qs : List PEv), e = .returned (.tuple #[.slice ov ms.length cv, .slice on qs.length cn, .int .i64 c]) ∧ OnOut M x m w c ms qs (.slice ov ms.length cv) (.slice on qs.length cn) w' := by
 have nil : ∀ c, RowKit.Below w.heap.size w w' → OnOut M x m w c [] [] (.slice none 0 0) (.slice none 0 0) w' := fun c hb => ⟨MRow.nil _ _, Acc.nil _ _ _ _, (fun d hd => by cases hd), ⟨x, hok, rfl, hg.below hb (Nat.le_refl _), fun n q h => h, fun q hq => by cases hq⟩, Touch.of_below hb (Nat.le_refl _), by decide⟩
 by_cases hb : badG x m = true
 ·obtain ⟨rfl, h2⟩ := h.bad hb
  exact ⟨none, 0, none, 0, 2, [], [], rfl, nil 2 h2⟩
 have hb' : badG x m = false := by simpa using hb
 by_cases h4 : m.kind = 4
 ·obtain ⟨v, ds, tail, rfl, hmr, htold, hbl⟩ := h.told hb' h4
  obtain ⟨ov, cv, hv⟩ := slAt_slice hmr.row.at
  subst hv
  have hr := badG_false hb'
  refine ⟨ov, cv, none, 0, 0, ds ++ tail, [], rfl, ⟨hmr, Acc.nil _ _ _ _, fun d hd => ⟨rfl, htold.sendable hok hr.1 hr.2 d hd⟩, ⟨x, hok, rfl, hg.below hbl (Nat.le_refl _), fun n q h => h, fun q hq => by cases hq⟩, Touch.of_below hbl (Nat.le_refl _), ?_, Nat.zero_le _⟩⟩
  obtain ⟨ps, hps, hpc⟩ := htold.pieces
  have h1 := hpc.len
  have h2 := congrArg List.length hps
  rw [List.length_map] at h1 h2
  unfold newerB at h2
  rw [List.length_take] at h2
  have h3 : min (768 : Int).toNat (x.S.holds.filter fun e => !m.set.grid e.dot.node.toNat e.dot.seq.toNat).length ≤ 768 := Nat.min_le_left _ _
  have h4 : tail.length ≤ 1 := by
   have ht := htold.tail
   split at ht
   ·obtain ⟨t, rfl, _⟩ := ht; exact Nat.le_refl _
   ·rw [ht]; exact Nat.zero_le _
  rw [List.length_append]
  omega
 ·by_cases h5 : m.kind = 5
  ·obtain ⟨hd, qs, rfl, hacc, hqs, hga, ht⟩ := h.given hb' h5
   obtain ⟨on, cn, hv⟩ := slAt_slice hacc.row.at
   rw [hv] at hacc ⊢
   obtain ⟨L, hL⟩ : ∃ L : List Ev, m.evs.map (·.2) = L := ⟨_, rfl⟩
   rw [hL] at hqs hga
   have hLl : L.length ≤ 3000 := by rw [← hL, List.length_map]; exact hs.evs
   have hn : ∀ e ∈ (givenB x.S L).2, May e.dot ∧ x.S.sees e.dot = false ∧ (givenB x.S L).1.sees e.dot = true := givenB_new L (x.S, []) x.S hok.fine (fun n q h => h) (fun e he => by cases he)
   have hfi : (givenB x.S L).1.Fine := givenB_fine L (x.S, []) hok.fine
   have hse : Sees x.S (givenB x.S L).1 := givenB_sees L (x.S, []) hok.fine
   refine ⟨none, 0, on, cn, 0, [], qs, rfl, ⟨MRow.nil _ _, hacc, (fun d hd => by cases hd), ⟨⟨x.self, x.mtu, x.s, (givenB x.S L).1⟩, ⟨hok.self, hok.mtu, hfi⟩, rfl, hga, hse, fun q hq => hn q.2 (by have h9 : q.2 ∈ qs.map (·.2) := List.mem_map_of_mem hq; rw [hqs] at h9; exact h9)⟩, ht, Nat.zero_le _, ?_⟩⟩
   have hsub : ∀ (l : List Ev) (p : BookS × List Ev), (l.foldl (fun (p : BookS × List Ev) e => ((addB p.1 e).2, if (addB p.1 e).1 = 0 then p.2 ++ [e] else p.2)) p).2.length ≤ p.2.length + l.length := by
    intro l
    induction l with
    | nil => intro p; exact Nat.le_refl _
    | cons e l ih =>
     intro p
     refine Nat.le_trans (ih _) ?_
     rw [List.length_cons]
     show (if (addB p.1 e).1 = 0 then p.2 ++ [e] else p.2).length + l.length ≤ _
     split
     ·rw [List.length_append, List.length_singleton]; omega
     ·omega
   have h1 := hsub L (x.S, [])
   have h2 := congrArg List.length hqs
   rw [List.length_map] at h2
   have h3 : (givenB x.S L).2.length ≤ 0 + L.length := h1
   omega
  ·obtain ⟨rfl, h2⟩ := h.other hb' h4 h5
   exact ⟨none, 0, none, 0, 0, [], [], rfl, nil 0 h2⟩
set_option maxRecDepth 100000 in
set_option maxHeartbeats 8000000 in
theorem lawGrows22 (me mtu seed : Int) (oa : Option Addr) (cap : Nat) (ops : List GOp) (w : World) (h : GOpsAt w (.slice oa ops.length cap) ops) (hl : ops.length ≤ 1099511627776) (hf : ∀ o ∈ ops, o.fits) :
  Calls Tryz.prog 3 #[.agg #[.int .i64 me, .int .i64 mtu, .int .u64 seed, .slice oa ops.length cap]] w fun e w' => e = .returned (.bool true) ∧ RowKit.Below w.heap.size w w' := by
 have hp : Tryz.prog.follows .mixedOrders = true := by kernel_rfl
 have hp2 : Tryz.prog.follows .lateStores = true := by kernel_rfl
 obtain ⟨w1, hw1⟩ : ∃ w1, w.alloc (.cells #[.int .i64 me, .int .i64 mtu, .int .u64 seed, .slice oa ops.length cap] 25) = w1 := ⟨_, rfl⟩
 have hb1 : RowKit.Below w.heap.size w w1 := by rw [← hw1]; exact (Below.refl _ _).alloc (Nat.le_refl _) _
 have r1 : w1.heap[w.heap.size]? = some (.cells #[.int .i64 me, .int .i64 mtu, .int .u64 seed, .slice oa ops.length cap] 25) := by rw [← hw1]; exact heap_alloc_new w _
 have hlt : w.heap.size < w1.heap.size := (Array.getElem?_eq_some_iff.1 r1).1
 have AL := Lib.hid (alive22_any w1)
 have HGR := Lib.hid (fun W (hE : GOpsAt W (.slice oa ops.length cap) ops) => great22_any oa cap ops W hE hl hf)
 have HE := Lib.hid h
 have HF := Lib.hid hf
 have HW1 := Lib.hid hw1
 have HB1 := Lib.hid hb1
 have R1 := Lib.hid r1
 clear h hf hw1 hb1 r1
 go_enter Tryz.func3, Tryz.ntmps3
 go_upto_region 1 with fail
 rw [HW1.out]
 go_wp2_with fail
 refine AL.out.mono ?_
 rintro e w2 ⟨rfl, hb2⟩
 have hr2 := (hb2.block w.heap.size hlt).trans R1.out
 have c0 : w2.cell? ⟨w.heap.size, 0, none⟩ = some (.int .i64 me) := cell_of_row w2 _ 0 _ _ _ hr2
 have c1 : w2.cell? ⟨w.heap.size, 1, none⟩ = some (.int .i64 mtu) := cell_of_row w2 _ 1 _ _ _ hr2
 have c2 : w2.cell? ⟨w.heap.size, 2, none⟩ = some (.int .u64 seed) := cell_of_row w2 _ 2 _ _ _ hr2
 have c3 : w2.cell? ⟨w.heap.size, 3, none⟩ = some (.slice oa ops.length cap) := cell_of_row w2 _ 3 _ _ _ hr2
 have HB2 := Lib.hid (HB1.out.trans (hb2.mono HB1.out.size))
 clear hb2 hr2 AL R1 HB1 HW1
 go_upto_region 3 with fail
 go_cut [3, 4, 5, 6] (fun s3 s4 s5 s6 wx => s3 = .int .i64 me ∧ s4 = .int .i64 mtu ∧ s5 = .int .u64 seed ∧ s6 = .slice oa ops.length cap ∧ Hid (RowKit.Below w.heap.size w wx))
 case first =>
  go_region_law (fail)
  all_goals
   go_wp2_with fail
   go_meet
   exact ⟨rfl, rfl, rfl, rfl, HB2.out.trans ((below_drew (Below.refl w2.heap.size w2)).mono HB2.out.size)⟩
 case rest =>
  obtain ⟨rfl, rfl, rfl, rfl, HBC⟩ := hcut
  clear c0 c1 c2 c3 HB2
  have HGR2 := Lib.hid (HGR.out wc (HE.out.below HBC.out (Nat.le_refl _)))
  clear HGR
  go_wp2_with fail
  refine HGR2.out.mono ?_
  rintro e w3 ⟨hgs, hb3⟩
  have HB3 := Lib.hid (HBC.out.trans (hb3.mono HBC.out.size))
  clear hb3 HGR2 HBC
  rcases hgs with rfl | ⟨rfl, hsm, h60⟩
  ·go_wp2_with fail
   go_ret
   exact ⟨rfl, HB3.out⟩
  have HSM := Lib.hid hsm
  clear hsm
  by_cases hgood : (0 ≤ me ∧ me ≤ 7) ∧ 512 ≤ mtu ∧ mtu ≤ 4096
  ·obtain ⟨hg1, hg2⟩ := hgood
   obtain ⟨mt, rfl⟩ : ∃ mt : Nat, mtu = (mt : Int) := ⟨mtu.toNat, by omega⟩
   have hmt : 512 ≤ mt ∧ mt ≤ 4096 := by omega
   have HNW := Lib.hid (gnew_good me mt seed hg1 hmt w3)
   go_wp2_with fail
   refine HNW.out.mono ?_
   rintro e w4 ⟨M, rfl, hg4, hb4, hlg, hown⟩
   have HG4 := Lib.hid hg4
   have HB4 := Lib.hid (HB3.out.trans (hb4.mono HB3.out.size))
   have HOW : Hid (∀ k, M.own k → w.heap.size ≤ k) := fun k hk => Nat.le_trans HB3.out.size (hown k hk)
   have hgm : w.heap.size ≤ M.g := Nat.le_trans HB3.out.size hlg
   have HOK : Hid (Gsp.Ok ⟨me, mt, seed, BookS.new⟩) := ⟨hg1, hmt, fine_new⟩
   clear hg4 hb4 hown HNW HB3 hlg
   go_wp2_with fail
   go_loopg [47] ops.length (fun gk s47 wr => ∃ (i : Nat) (x : Gsp), s47 = .int .i64 i ∧ i ≤ ops.length ∧ ops.length - i ≤ gk ∧ Hid (x.Ok) ∧ x.self = me ∧ Hid (GAt wr M x) ∧ Hid (RowKit.Below w.heap.size w wr))
   case atStart => exact ⟨0, _, rfl, Nat.zero_le _, Nat.le_refl _, HOK.out, rfl, HG4.out, HB4.out⟩
   case round =>
    obtain ⟨i, x, rfl, hi, hgk, HXO, hxs, HGA, HB⟩ := hrel
    by_cases hlt2 : i < ops.length
    ·have hltz : (i : Int) < (ops.length : Int) := by omega
     have hsr := HE.out.below HB.out (Nat.le_refl _)
     have hsl := hsr.row
     obtain ⟨bo, off, hbo⟩ := hsl.plain GOp.cells_len (by decide) (by intro e; rw [e] at hlt2; exact absurd hlt2 (by simp))
     subst hbo
     have hld := gop_load hsl hlt2
     have hmem : ops[i] ∈ ops := List.getElem_mem hlt2
     have hoi := HE.out.ops _ hmem
     have hos := HSM.out _ hmem
     generalize ops[i] = o at *
     obtain ⟨A, hA⟩ : ∃ A, A = o.cells.toArray := ⟨_, rfl⟩
     rw [← hA] at hld
     obtain ⟨hr, hb1⟩ := gop_lay wr A _ hA
     have hA32 : 32 = A.size := by rw [hA]; rfl
     have hAin : ((Tryz.prog).info? 46).map (·.size) = some A.size := by rw [← hA32]; exact gop_info
     have hA1 : A.all (·.oneCell') = true := by rw [hA]; exact gop_one _
     have HAS := Lib.hid (show zeroOp.size = A.size from hA32)
     have HAI := Lib.hid hAin
     have HA1 := Lib.hid hA1
     obtain ⟨wb, hwb⟩ : ∃ wb, (wr.alloc (.cells zeroOp 46)).setRow wr.heap.size A = wb := ⟨_, rfl⟩
     rw [hwb] at hr hb1
     unfold zeroOp at hwb
     have hlb : wr.heap.size < wb.heap.size := (Array.getElem?_eq_some_iff.1 hr).1
     have HLD := Lib.hid hld
     have HWB := Lib.hid hwb
     have HR := Lib.hid hr
     have HBB := Lib.hid (HB.out.trans (hb1.mono HB.out.size))
     have HGB := Lib.hid (HGA.out.below hb1 (Nat.le_refl _))
     have HOI := Lib.hid hoi
     have HOS := Lib.hid hos
     have HBK := Lib.hid (gbook_any wb M x (HGA.out.below hb1 (Nat.le_refl _)))
     have HSE := Lib.hid (seen_any M.bb M.ms M.mh M.B x.S HXO.out.fine.ok wb (HGA.out.below hb1 (Nat.le_refl _)).book)
     have HOL := Lib.hid (fun k hk => HGA.out.own_lt (k := k) hk)
     clear hsr hsl hld hmem hoi hos hA hr hb1 hA32 hAin hA1 hwb HGA HE HF HSM
     go_upto_region 12 with (first | (refine wpList_loadAgg _ rfl 46 _ rfl 32 (op32a _) (op32b _) ⟨bo, off + i * 32, none⟩ rfl _ HLD.out ?_) | (refine wpList_storeRow _ rfl rfl 46 (.tmp 10) (.tmp 50) rfl wr.heap.size _ A rfl rfl (heap_alloc_new wr _) HAI.out HAS.out HA1.out ?_))
     rw [HWB.out]
     clear HLD HWB HAI HAS HA1
     go_wp2_with fail
     refine HBK.out.mono ?_
     rintro e w5 ⟨rfl, rfl⟩
     go_wp2_with fail
     refine HSE.out.mono ?_
     rintro e w7 ⟨⟨o5, n5, q5⟩, t5, rfl, hcl5, hown5, hb5⟩
     obtain ⟨_, _, hv5⟩ := slAt_slice hown5.at
     simp only [Hdr.val, Value.slice.injEq] at hv5
     obtain ⟨rfl, rfl, rfl⟩ := hv5
     rw [show (qcells (⟨o5, t5.more.length, q5⟩, t5)).toArray = #[.int .i64 (t5.u 0), .int .i64 (t5.u 1), .int .i64 (t5.u 2), .int .i64 (t5.u 3), .int .i64 (t5.u 4), .int .i64 (t5.u 5), .int .i64 (t5.u 6), .int .i64 (t5.u 7), .slice o5 t5.more.length q5] from rfl]
     obtain ⟨w6, hw6⟩ : ∃ w6, w7.alloc (.cells #[.int .i64 (t5.u 0), .int .i64 (t5.u 1), .int .i64 (t5.u 2), .int .i64 (t5.u 3), .int .i64 (t5.u 4), .int .i64 (t5.u 5), .int .i64 (t5.u 6), .int .i64 (t5.u 7), .slice o5 t5.more.length q5] 48) = w6 := ⟨_, rfl⟩
     have hb6 : RowKit.Below w7.heap.size w7 w6 := by rw [← hw6]; exact (Below.refl _ _).alloc (Nat.le_refl _) _
     have hr6 : SetRow w6 w7.heap.size ⟨o5, t5.more.length, q5⟩ t5 := by rw [← hw6]; exact heap_alloc_new w7 _
     have hl6 : w7.heap.size < w6.heap.size := (Array.getElem?_eq_some_iff.1 hr6).1
     have hb56 := hb5.trans (hb6.mono hb5.size)
     have HR6 := Lib.hid hr6
     have HO6 := Lib.hid (hown5.below hb6 (Nat.le_refl _))
     have HROW := Lib.hid ((hb56.block _ hlb).trans HR.out)
     have HG6 := Lib.hid (HGB.out.below hb56 (Nat.le_refl _))
     have HB6 := Lib.hid (HBB.out.trans (hb56.mono HBB.out.size))
     have HG5 := Lib.hid (hcl5.grid HXO.out.fine.ok)
     have HM5 := Lib.hid (hcl5.right HXO.out.fine.ok).2.1
     have HW6 := Lib.hid hw6
     have hz5 := hb5.size
     have hk0 : w6.cell? ⟨wr.heap.size, 0, none⟩ = some (.int .i64 o.kind) := by rw [cell_of_row w6 _ 0 _ _ _ HROW.out]; rfl
     clear hcl5 hown5 hb5 hb6 hr6 hb56 hw6 HBK HSE HR HBB HGB HB
     go_upto_region 13 with fail
     rw [HW6.out]
     go_cut [55] (fun s55 wx => s55 = .int .i64 o.kind ∧ wx = w6)
     case first =>
      go_wp2_with fail
      go_meet
      exact ⟨rfl, rfl⟩
     case rest =>
      obtain ⟨rfl, rfl⟩ := hcut
      obtain ⟨wS, hwS⟩ : ∃ wS, wS = wc := ⟨_, rfl⟩
      subst hwS
      go_step
      go_cut [] (fun wx => Hid (Step22 M x wS wx))
      case first =>
       --SWITCH
       have hreA : ∀ b, M.own b → w.heap.size ≤ b := HOW.out
       by_cases k1 : o.kind = 1
       ·--K1
        as_aux_lemma =>
        generalize wr.heap.size = b10 at *
        obtain ⟨⟨la, ln, lc⟩, hlh⟩ : ∃ hd : Hdr, o.lh = hd := ⟨_, rfl⟩
        have hOL := HOI.out.l
        have hL1 : wS.cell? ⟨b10, 1, none⟩ = some o.lh.val := cell_of_row wS _ 1 _ _ _ HROW.out
        rw [hlh] at hOL hL1
        obtain ⟨_, _, hv⟩ := slAt_slice hOL
        simp only [Hdr.val, Value.slice.injEq] at hv hL1 hOL
        obtain ⟨rfl, rfl, rfl⟩ := hv
        have hll := HOS.out.l
        have hk1b : (o.kind == 1) = true := by simp [k1]
        have hOS := hOL.below icells_len (by decide) HB6.out (Nat.le_refl _)
        have HTK := Lib.hid (tick_any M x HXO.out la lc o.l wS HG6.out hOS (by omega))
        have HOLS := Lib.hid hOS
        have HOLW := Lib.hid hOL
        have HRO := Lib.hid HROW.out
        clear k1 hOL hOS hlh
        go_wp2_with fail
        refine HTK.out.mono ?_
        rintro e wT ⟨v, ms, rfl, hmr, hid, hto, hgT, htT⟩
        obtain ⟨ov, cv, hvv⟩ := slAt_slice hmr.row.at
        subst hvv
        have HMR := Lib.hid hmr
        have HID := Lib.hid hid
        have HTO := Lib.hid hto
        have HGT := Lib.hid hgT
        have HTT := Lib.hid htT
        have hzT := htT.size
        clear hmr hid hto hgT htT HTK
        have hLT : wT.cell? ⟨b10, 1, none⟩ = some (.slice la o.l.length lc) := (HTT.out.cell (p := ⟨b10, 1, none⟩) (by show b10 < wS.heap.size; omega) (by show ¬ b10 = M.bo; have := HOL.out M.bo (.inl rfl); omega)).trans hL1
        have HOLT := Lib.hid (HOLS.out.touch icells_len (by decide) HTT.out (by
         by_cases hl0 : o.l = []
         ·exact .inl hl0
         ·refine .inr fun b hb e => ?_
          have h1 := HOLW.out.lt icells_len (by decide) hl0 b hb
          have h2 := hreA M.bo (.inl rfl)
          omega))
        have HXS := Lib.hid (show Step22 M x wS wT from ⟨⟨⟨x.self, x.mtu, (shufL x.s (onceL (tickL x.self o.l))).1, x.S⟩, ⟨HXO.out.self, HXO.out.mtu, HXO.out.fine⟩, rfl, HGT.out, fun n q h => h⟩, HTT.out.mono fun n _ h => .inl h⟩)
        have HTS : Hid (∀ d ∈ ms, d.to_ ∈ o.l ∧ (0 ≤ d.to_ ∧ d.to_ ≤ 7) ∧ d.to_ ≠ x.self) := fun d hd => by
         have h1 : d.to_ ∈ ms.map (·.to_) := List.mem_map_of_mem hd
         rw [HTO.out] at h1
         exact mem_tickL.1 (someL_mem (by unfold tickL; exact Nat.le_trans (List.length_filter_le _ _) (by omega)) h1)
        have hmsl : ms.length ≤ 1 := by
         have h1 := congrArg List.length HTO.out
         rw [List.length_map] at h1
         rw [h1]
         unfold someL
         rw [List.length_take]
         exact Nat.min_le_left _ _
        clear HTO HOLS HTT hL1 HRO HROW hk0
        go_wp2_with fail
        go_loopg [63] ms.length (fun gk s63 wq => ∃ j : Nat, s63 = .int .i64 j ∧ j ≤ ms.length ∧ ms.length - j ≤ gk ∧ Hid (RowKit.Below wT.heap.size wT wq))
        case atStart => exact ⟨0, rfl, Nat.zero_le _, Nat.le_refl _, Below.refl _ _⟩
        case round =>
         obtain ⟨j, rfl, hj, hgk2, HBQ⟩ := hrel
         by_cases hltj : j < ms.length
         ·as_aux_lemma =>
          have hltjz : (j : Int) < (ms.length : Int) := by omega
          have hmrq := HMR.out.below HBQ.out (Nat.le_refl _)
          obtain ⟨bm, offm, hbm⟩ := hmrq.row.at.plain Msg.cells_len (by decide) (by intro e; rw [e] at hltj; exact absurd hltj (by simp))
          subst hbm
          have hldm := msgRow_load hmrq.row.at hltj
          have hmem : ms[j] ∈ ms := List.getElem_mem hltj
          have hidm := HID.out _ hmem
          have hmin := hmrq.get hmem
          have htsm := HTS.out _ hmem
          generalize ms[j] = d at *
          obtain ⟨wm, hwm⟩ : ∃ wm, wr.alloc (.cells #[.int .i64 d.kind, .int .i64 d.frm, .int .i64 d.to_, .int .i64 d.seq, .int .i64 d.node, .int .i64 (d.u 0), .int .i64 (d.u 1), .int .i64 (d.u 2), .int .i64 (d.u 3), .int .i64 (d.u 4), .int .i64 (d.u 5), .int .i64 (d.u 6), .int .i64 (d.u 7), .slice d.hm.a d.hm.n d.hm.c, .slice d.he.a d.he.n d.he.c, .slice d.hs.a d.hs.n d.hs.c] 38) = wm := ⟨_, rfl⟩
          have hbm2 : RowKit.Below wr.heap.size wr wm := by rw [← hwm]; exact (Below.refl _ _).alloc (Nat.le_refl _) _
          have hrm : wm.heap[wr.heap.size]? = some (.cells #[.int .i64 d.kind, .int .i64 d.frm, .int .i64 d.to_, .int .i64 d.seq, .int .i64 d.node, .int .i64 (d.u 0), .int .i64 (d.u 1), .int .i64 (d.u 2), .int .i64 (d.u 3), .int .i64 (d.u 4), .int .i64 (d.u 5), .int .i64 (d.u 6), .int .i64 (d.u 7), .slice d.hm.a d.hm.n d.hm.c, .slice d.he.a d.he.n d.he.c, .slice d.hs.a d.hs.n d.hs.c] 38) := by rw [← hwm]; exact heap_alloc_new wr _
          have hdr := hidm.right HXO.out.fine.ok HXO.out.self htsm.2.1 (Ne.symm htsm.2.2) (by omega)
          have hrt := msgRight_any d wm (hmin.below hbm2 (Nat.le_refl _)) (hidm.small HXO.out.fine.ok)
          simp only [Hdr.val] at hrt
          have HRT := Lib.hid hrt
          have HRB := Lib.hid (Msg.rightB_true hdr)
          have hk4 : (d.kind != 4) = false := by simp [hidm.kind]
          have HBM := Lib.hid (HBQ.out.trans (hbm2.mono HBQ.out.size))
          obtain ⟨m0, m1, m2, m3, m4, m5, m6, m7, m8, m9, m10, m11, m12, m13, m14, m15⟩ := msg_cells hrm
          have hLm : wm.cell? ⟨b10, 1, none⟩ = some (.slice la o.l.length lc) := (HBM.out.cell (p := ⟨b10, 1, none⟩) (by show b10 < wT.heap.size; omega)).trans hLT
          have HOLM := Lib.hid (HOLT.out.below icells_len (by decide) HBM.out (Nat.le_refl _))
          have HLDM := Lib.hid (show Sem.run Tryz.prog (loadCellsFrom ⟨bm, offm + j * 16, none⟩ 0 16 #[]) wr = .ok #[.int .i64 d.kind, .int .i64 d.frm, .int .i64 d.to_, .int .i64 d.seq, .int .i64 d.node, .int .i64 (d.u 0), .int .i64 (d.u 1), .int .i64 (d.u 2), .int .i64 (d.u 3), .int .i64 (d.u 4), .int .i64 (d.u 5), .int .i64 (d.u 6), .int .i64 (d.u 7), .slice d.hm.a d.hm.n d.hm.c, .slice d.he.a d.he.n d.he.c, .slice d.hs.a d.hs.n d.hs.c] wr from hldm)
          have HWM := Lib.hid hwm
          have HTM := Lib.hid htsm.1
          have hms2 : ms.length - (j + 1) < gk := by omega
          clear hrt hmrq hldm hmem hidm hmin htsm hwm hbm2 hrm hdr HMR HID HTS HOLT HBQ hLT
          go_upto_region 18 with (refine wpList_loadAgg _ rfl 38 _ rfl 16 (msg16a _) (msg16b _) ⟨bm, offm + j * 16, none⟩ rfl _ HLDM.out ?_)
          rw [HWM.out]
          clear HLDM HWM
          generalize wr.heap.size = b13 at *
          have hjl : j + 1 ≤ ms.length := hltj
          go_wp2_with fail
          go_loopg [14, 16, 70] o.l.length (fun gk2 s14 s16 s70 wn => ∃ q : Nat, s14 = .bool (decide (d.to_ ∈ o.l.take q)) ∧ s70 = .int .i64 q ∧ q ≤ o.l.length ∧ o.l.length - q ≤ gk2 ∧ wn = wm)
          case atStart => exact ⟨0, by simp, rfl, Nat.zero_le _, Nat.le_refl _, rfl⟩
          case round =>
           obtain ⟨q, rfl, rfl, hq, hgk3, hwn⟩ := hrel
           subst hwn
           by_cases hltq : q < o.l.length
           ·as_aux_lemma =>
            have hltqz : (q : Int) < (o.l.length : Int) := by omega
            have hsl := HOLM.out
            obtain ⟨bl, offl, hbl⟩ := hsl.plain icells_len (by decide) (by intro e; rw [e] at hltq; exact absurd hltq (by simp))
            subst hbl
            have cq := hsl.cell icells_len (i := q) (c := 0) hltq (by decide)
            simp only [icells, List.getElem?_cons_zero] at cq
            rw [show offl + (q * 1 + 0) = offl + q by omega] at cq
            have htq : decide (d.to_ ∈ o.l.take (q + 1)) = (decide (d.to_ ∈ o.l.take q) || decide (o.l[q] = d.to_)) := by
             rw [List.take_succ_eq_append_getElem hltq, ← Bool.decide_or]
             exact decide_eq_decide.2 (by rw [List.mem_append, List.mem_singleton, eq_comm (a := d.to_)])
            generalize o.l[q] = nq at *
            obtain ⟨tb, htb⟩ : ∃ tb, decide (d.to_ ∈ o.l.take q) = tb := ⟨_, rfl⟩
            rw [htb] at htq ⊢
            have HTQ := Lib.hid htq
            have hms3 : o.l.length - (q + 1) < gk := by omega
            have hql : q + 1 ≤ o.l.length := hltq
            clear hsl htb htq HRT HBM
            cases tb with
            | true =>
             go_wp2_with fail
             go_roundg (o.l.length - (q + 1))
             case measure => exact hms3
             case rel => exact ⟨q + 1, by rw [HTQ.out]; rfl, by go_num, hql, Nat.le_refl _, rfl⟩
            | false =>
             by_cases hnq : nq = d.to_
             ·have hnb : (nq == d.to_) = true := by simp [hnq]
              have HE2 : Hid (decide (d.to_ ∈ o.l.take (q + 1)) = true) := by show _ = _; rw [HTQ.out, decide_eq_true hnq]; rfl
              clear hnq
              go_wp2_with fail
              go_roundg (o.l.length - (q + 1))
              case measure => exact hms3
              case rel => exact ⟨q + 1, by rw [HE2.out], by go_num, hql, Nat.le_refl _, rfl⟩
             ·have hnb : (nq == d.to_) = false := by simp [hnq]
              have HE2 : Hid (decide (d.to_ ∈ o.l.take (q + 1)) = false) := by show _ = _; rw [HTQ.out, decide_eq_false hnq]; rfl
              clear hnq
              go_wp2_with fail
              go_roundg (o.l.length - (q + 1))
              case measure => exact hms3
              case rel => exact ⟨q + 1, by rw [HE2.out], by go_num, hql, Nat.le_refl _, rfl⟩
           ·as_aux_lemma =>
            have hltqz : ¬ (q : Int) < (o.l.length : Int) := by omega
            have hqe : q = o.l.length := by omega
            have htd : decide (d.to_ ∈ o.l.take q) = true := by rw [hqe, List.take_length]; exact decide_eq_true HTM.out
            rw [htd]
            clear htd hqe
            go_wp2_with fail
            refine HRT.out.mono ?_
            rintro e wz ⟨rfl, hbz⟩
            rw [HRB.out]
            have HBZ := Lib.hid (HBM.out.trans (hbz.mono HBM.out.size))
            clear hbz HRT HRB HBM
            go_wp2_with fail
            go_roundg (ms.length - (j + 1))
            case measure => exact hms2
            case rel => exact ⟨j + 1, by go_num, hjl, Nat.le_refl _, HBZ.out⟩
         ·as_aux_lemma =>
          have hltjz : ¬ (j : Int) < (ms.length : Int) := by omega
          have HX := Lib.hid (show Step22 M x wS wr from ⟨by obtain ⟨y, h1, h2, h3, h4⟩ := HXS.out.at'; exact ⟨y, h1, h2, h3.below HBQ.out (Nat.le_refl _), h4⟩, HXS.out.touch.trans (Touch.of_below (L := M.own) HBQ.out (Nat.le_refl _)) fun n hn h => h⟩)
          go_wp2_with fail
          go_meet
          exact HX.out
       by_cases k2 : o.kind = 2
       ·--K2
        as_aux_lemma =>
        generalize wr.heap.size = b10 at *
        generalize w7.heap.size = b11 at *
        have hk2b : (o.kind == 2) = true := by simp [k2]
        have hk1b : (o.kind == 1) = false := by simp [k1]
        have HLM := Lib.hid (show Sem.run Tryz.prog (loadCellsFrom ⟨b10, 2, none⟩ 0 16 #[]) wS = .ok #[.int .i64 o.m.kind, .int .i64 o.m.frm, .int .i64 o.m.to_, .int .i64 o.m.seq, .int .i64 o.m.node, .int .i64 (o.m.u 0), .int .i64 (o.m.u 1), .int .i64 (o.m.u 2), .int .i64 (o.m.u 3), .int .i64 (o.m.u 4), .int .i64 (o.m.u 5), .int .i64 (o.m.u 6), .int .i64 (o.m.u 7), o.m.hm.val, o.m.he.val, o.m.hs.val] wS from gopMsg_load HROW.out)
        have hf3 : wS.cell? ⟨b10, 3, none⟩ = some (.int .i64 o.m.frm) := cell_of_row wS _ 3 _ _ _ HROW.out
        have HON := Lib.hid (gon_any M x HXO.out o.m HOS.out.m wS HG6.out (HOI.out.m.below HB6.out (Nat.le_refl _)) (HOI.out.m.evs.clear hreA))
        clear k1 k2 HROW hk0
        go_wp2_with (refine wpList_loadAgg _ rfl 38 _ rfl 16 (msg16a _) (msg16b _) ⟨b10, 2, none⟩ rfl _ HLM.out ?_)
        refine HON.out.mono ?_
        rintro e wO hon
        obtain ⟨ov, cv, on, cn, c, ms, qs, rfl, ho⟩ := on_out22 HXO.out HOS.out.m HG6.out hon
        obtain ⟨y, hyo, hys, hgy, hsee, hnw⟩ := ho.at'
        have hmsl := ho.few.1
        have hqsl := ho.few.2
        have HMR := Lib.hid ho.out
        have HAC := Lib.hid ho.news
        have HSD := Lib.hid ho.sent
        have HNW := Lib.hid hnw
        have HYO := Lib.hid hyo
        have HGY := Lib.hid hgy
        have HXS := Lib.hid (show Step22 M x wS wO from ⟨⟨y, hyo, hys, hgy, hsee⟩, ho.touch⟩)
        have hfO : wO.cell? ⟨b10, 3, none⟩ = some (.int .i64 o.m.frm) := (ho.touch.cell (p := ⟨b10, 3, none⟩) (by show b10 < wS.heap.size; omega) (fun e => by have := HOL.out _ e; exact absurd this (Nat.lt_irrefl _))).trans hf3
        have HSR := Lib.hid ((ho.touch.block b11 hl6 (fun e => by have := HOL.out _ e; omega)).trans HR6.out)
        have hl6O : b11 < wO.heap.size := Nat.lt_of_lt_of_le hl6 ho.touch.size
        have hl10 : b10 < wO.heap.size := by have := ho.touch.size; omega
        have HSL := Lib.hid ((HO6.out.touch ho.touch (fun b hb e => by have := (HO6.out.lt b hb).1; have := HOL.out _ e; omega)).at)
        clear hon ho hnw hyo hys hgy hsee hf3 HON HLM HR6 HO6 HG6
        go_wp2_with fail
        go_loopg [107] qs.length (fun gk s107 wq => ∃ j : Nat, s107 = .int .i64 j ∧ j ≤ qs.length ∧ qs.length - j ≤ gk ∧ Hid (RowKit.Below wO.heap.size wO wq))
        case atStart => exact ⟨0, rfl, Nat.zero_le _, Nat.le_refl _, Below.refl _ _⟩
        case round =>
         obtain ⟨j, rfl, hj, hgk2, HBQ⟩ := hrel
         by_cases hltj : j < qs.length
         ·--NEWS
          as_aux_lemma =>
          have hltjz : (j : Int) < (qs.length : Int) := by omega
          have hevq := (HAC.out.below HBQ.out (Nat.le_refl _)).evs
          have hsl := hevq.1
          obtain ⟨be, offe, hbe⟩ := hsl.plain pcells_len (by decide) (by intro e; rw [e] at hltj; exact absurd hltj (by simp))
          subst hbe
          have hmem : qs[j] ∈ qs := List.getElem_mem hltj
          have hld : Sem.run Tryz.prog (loadCellsFrom ⟨be, offe + j * 14, none⟩ 0 14 #[]) wr = .ok (pcells qs[j]).toArray wr := by
           refine run_loadCellsFrom_list Tryz.prog wr ⟨be, offe + j * 14, none⟩ (pcells qs[j]) 14 (pcells_len _) fun z v hv => ?_
           rw [Addr.add_lit]
           have hz : z < 14 := by have := (List.getElem?_eq_some_iff.1 hv).1; rwa [pcells_len] at this
           have := hsl.cell pcells_len (i := j) (c := z) hltj hz
           rw [show offe + j * 14 + z = offe + (j * 14 + z) by omega, this, hv]
          have hnw := HNW.out _ hmem
          generalize qs[j] = p at *
          obtain ⟨⟨ra, rn, rc⟩, ev⟩ := p
          dsimp only at hnw
          obtain ⟨hmay, hno, hyes⟩ := hnw
          replace hld : Sem.run Tryz.prog (loadCellsFrom ⟨be, offe + j * 14, none⟩ 0 14 #[]) wr = .ok #[.int .i64 ev.dot.node, .int .i64 ev.dot.seq, .int .i64 ev.time, .int .i64 ev.kind, .int .i64 ev.work, .int .i64 ev.value, .int .i64 ev.pol.mn, .int .i64 ev.pol.mx, .int .i64 ev.pol.goal, .int .i64 ev.pol.slack, .int .i64 ev.pol.up, .int .i64 ev.pol.down, .int .i64 ev.pol.cool, .slice ra rn rc] wr := hld
          obtain ⟨we, hwe⟩ : ∃ we, wr.alloc (.cells #[.int .i64 ev.dot.node, .int .i64 ev.dot.seq, .int .i64 ev.time, .int .i64 ev.kind, .int .i64 ev.work, .int .i64 ev.value, .int .i64 ev.pol.mn, .int .i64 ev.pol.mx, .int .i64 ev.pol.goal, .int .i64 ev.pol.slack, .int .i64 ev.pol.up, .int .i64 ev.pol.down, .int .i64 ev.pol.cool, .slice ra rn rc] 44) = we := ⟨_, rfl⟩
          have hbe2 : RowKit.Below wr.heap.size wr we := by rw [← hwe]; exact (Below.refl _ _).alloc (Nat.le_refl _) _
          have hre : we.heap[wr.heap.size]? = some (.cells #[.int .i64 ev.dot.node, .int .i64 ev.dot.seq, .int .i64 ev.time, .int .i64 ev.kind, .int .i64 ev.work, .int .i64 ev.value, .int .i64 ev.pol.mn, .int .i64 ev.pol.mx, .int .i64 ev.pol.goal, .int .i64 ev.pol.slack, .int .i64 ev.pol.up, .int .i64 ev.pol.down, .int .i64 ev.pol.cool, .slice ra rn rc] 44) := by rw [← hwe]; exact heap_alloc_new wr _
          have hle : wr.heap.size < we.heap.size := (Array.getElem?_eq_some_iff.1 hre).1
          have HBE := Lib.hid (HBQ.out.trans (hbe2.mono HBQ.out.size))
          have HLD := Lib.hid hld
          have HWE := Lib.hid hwe
          have hsr := HSR.out
          have HKQ : Hid (∀ b21, b21 = wr.heap.size → ∀ w', RowKit.Below we.heap.size we w' → w'.cell? ⟨b11, 0, none⟩ = some (.int .i64 (t5.u 0)) ∧ w'.cell? ⟨b11, 1, none⟩ = some (.int .i64 (t5.u 1)) ∧ w'.cell? ⟨b11, 2, none⟩ = some (.int .i64 (t5.u 2)) ∧ w'.cell? ⟨b11, 3, none⟩ = some (.int .i64 (t5.u 3)) ∧ w'.cell? ⟨b11, 4, none⟩ = some (.int .i64 (t5.u 4)) ∧ w'.cell? ⟨b11, 5, none⟩ = some (.int .i64 (t5.u 5)) ∧ w'.cell? ⟨b11, 6, none⟩ = some (.int .i64 (t5.u 6)) ∧ w'.cell? ⟨b11, 7, none⟩ = some (.int .i64 (t5.u 7)) ∧ w'.cell? ⟨b11, 8, none⟩ = some (.slice o5 t5.more.length q5) ∧ w'.cell? ⟨b21, 0, none⟩ = some (.int .i64 ev.dot.node) ∧ w'.cell? ⟨b21, 1, none⟩ = some (.int .i64 ev.dot.seq)) := fun b21 hb21 W hW => by
           subst hb21
           have h1 : SetRow W b11 ⟨o5, t5.more.length, q5⟩ t5 := (hW.block b11 (by have := HBE.out.size; omega)).trans ((HBE.out.block b11 hl6O).trans hsr)
           have h2 := (hW.block _ hle).trans hre
           obtain ⟨s0, s1, s2, s3, s4, s5, s6, s7, s8⟩ := h1.cells
           exact ⟨s0, s1, s2, s3, s4, s5, s6, s7, s8, cell_of_row W _ 0 _ _ _ h2, cell_of_row W _ 1 _ _ _ h2⟩
          have HH1 : Hid (∀ W, RowKit.Below we.heap.size we W → Calls Tryz.prog 14 #[.agg #[.int .i64 (t5.u 0), .int .i64 (t5.u 1), .int .i64 (t5.u 2), .int .i64 (t5.u 3), .int .i64 (t5.u 4), .int .i64 (t5.u 5), .int .i64 (t5.u 6), .int .i64 (t5.u 7), .slice o5 t5.more.length q5], .agg #[.int .i64 ev.dot.node, .int .i64 ev.dot.seq]] W fun e w' => e = .returned (.bool false) ∧ RowKit.Below W.heap.size W w') := fun W hW => by
           refine (dhas_any o5 q5 t5 ev.dot hmay W (HSL.out.below Dot.cells_len (by decide) (HBE.out.trans (hW.mono HBE.out.size)) (Nat.le_refl _)) (by have := HM5.out; omega)).mono ?_
           rintro e w' ⟨rfl, hb⟩
           rw [HG5.out, show x.S.saw ev.dot.node.toNat ev.dot.seq.toNat = false from hno]
           exact ⟨rfl, hb⟩
          have HBK := Lib.hid (fun W (hW : RowKit.Below we.heap.size we W) => gbook_any W M y (HGY.out.below (HBE.out.trans (hW.mono HBE.out.size)) (Nat.le_refl _)))
          have HSE := Lib.hid (fun W (hW : RowKit.Below we.heap.size we W) => seen_any M.bb M.ms M.mh M.B y.S HYO.out.fine.ok W (HGY.out.below (HBE.out.trans (hW.mono HBE.out.size)) (Nat.le_refl _)).book)
          have HMAY := Lib.hid hmay
          have HYES := Lib.hid hyes
          have hms2 : qs.length - (j + 1) < gk := by omega
          have hjl : j + 1 ≤ qs.length := hltj
          clear hevq hsl hmem hld hmay hno hyes hwe hbe2 hre hsr HAC HNW HBQ HMR HSD HXS
          go_upto_region 32 with (refine wpList_loadAgg _ rfl 44 _ rfl 14 (by kernel_rfl) (by kernel_rfl) ⟨be, offe + j * 14, none⟩ rfl _ HLD.out ?_)
          rw [HWE.out]
          clear HLD HWE hle
          obtain ⟨b21, hb21⟩ : ∃ b21, b21 = wr.heap.size := ⟨_, rfl⟩
          have HKP := Lib.hid (HKQ.out b21 hb21)
          rw [← hb21]
          clear HKQ hb21
          go_cut [123] (fun s123 wx => s123 = .bool false ∧ Hid (RowKit.Below we.heap.size we wx))
          case first =>
           go_region_held (fun w' => w'.cell? ⟨b11, 0, none⟩ = some (.int .i64 (t5.u 0)) ∧ w'.cell? ⟨b11, 1, none⟩ = some (.int .i64 (t5.u 1)) ∧ w'.cell? ⟨b11, 2, none⟩ = some (.int .i64 (t5.u 2)) ∧ w'.cell? ⟨b11, 3, none⟩ = some (.int .i64 (t5.u 3)) ∧ w'.cell? ⟨b11, 4, none⟩ = some (.int .i64 (t5.u 4)) ∧ w'.cell? ⟨b11, 5, none⟩ = some (.int .i64 (t5.u 5)) ∧ w'.cell? ⟨b11, 6, none⟩ = some (.int .i64 (t5.u 6)) ∧ w'.cell? ⟨b11, 7, none⟩ = some (.int .i64 (t5.u 7)) ∧ w'.cell? ⟨b11, 8, none⟩ = some (.slice o5 t5.more.length q5) ∧ w'.cell? ⟨b21, 0, none⟩ = some (.int .i64 ev.dot.node) ∧ w'.cell? ⟨b21, 1, none⟩ = some (.int .i64 ev.dot.seq)) (first | exact HKP.out _ B4.out | exact HKP.out _ B3.out | exact HKP.out _ B2.out | exact HKP.out _ (below_drew (Below.refl _ _)))
            (first
             | (go_at_call 14; refine (HH1.out _ (below_drew (Below.refl _ _))).mono ?_; rintro e wp ⟨rfl, hbq⟩; have B2 := Lib.hid ((below_drew (Below.refl we.heap.size we)).trans hbq); have HSE2 := Lib.hid (HSE.out _ B2.out); have HBK2 := Lib.hid (HBK.out _ B2.out); clear HH1 HSE HBK hbq)
             | (go_at_call 9; refine HBK2.out.mono ?_; rintro e wq ⟨rfl, rfl⟩)
             | (go_at_call 10; refine HSE2.out.mono ?_; rintro e wv ⟨⟨ga, gn, gc⟩, r, rfl, hcl, hown, hb5⟩; rw [show (qcells (⟨ga, gn, gc⟩, r)).toArray = #[.int .i64 (r.u 0), .int .i64 (r.u 1), .int .i64 (r.u 2), .int .i64 (r.u 3), .int .i64 (r.u 4), .int .i64 (r.u 5), .int .i64 (r.u 6), .int .i64 (r.u 7), .slice ga gn gc] from rfl]; obtain ⟨_, _, hv5⟩ := slAt_slice hown.at; simp only [Hdr.val, Value.slice.injEq] at hv5; obtain ⟨rfl, rfl, rfl⟩ := hv5; have B3 := Lib.hid (B2.out.trans (hb5.mono B2.out.size)); have hh2 := dhas_any ga gc r ev.dot HMAY.out wv hown.at (Nat.le_trans (hcl.right HYO.out.fine.ok).2.1 (by decide)); rw [hcl.grid HYO.out.fine.ok, show y.S.saw ev.dot.node.toNat ev.dot.seq.toNat = true from HYES.out] at hh2; have HH2 := Lib.hid hh2; clear hcl hown hb5 hh2 HSE2)
             | (go_at_call 14; refine HH2.out.mono ?_; rintro e wu ⟨rfl, hb6⟩; have B4 := Lib.hid (B3.out.trans (hb6.mono B3.out.size)); clear hb6 HH2))
           all_goals
            go_wp2_with fail
            go_meet
            exact ⟨rfl, B4.out⟩
          case rest =>
           obtain ⟨rfl, HBX⟩ := hcut
           have HBZ := Lib.hid (HBE.out.trans (HBX.out.mono HBE.out.size))
           clear HBX HBE HKP HH1 HBK HSE
           go_wp2_with fail
           go_roundg (qs.length - (j + 1))
           case measure => exact hms2
           case rel => exact ⟨j + 1, by go_num, hjl, Nat.le_refl _, HBZ.out⟩
         ·as_aux_lemma =>
          have hltjz : ¬ (j : Int) < (qs.length : Int) := by omega
          clear HAC HNW
          go_wp2_with fail
          go_loopg [127] ms.length (fun gk s127 wq => ∃ j : Nat, s127 = .int .i64 j ∧ j ≤ ms.length ∧ ms.length - j ≤ gk ∧ Hid (RowKit.Below wO.heap.size wO wq))
          case atStart => exact ⟨0, rfl, Nat.zero_le _, Nat.le_refl _, HBQ.out⟩
          case round =>
           clear HBQ hgk2 hj
           obtain ⟨k, rfl, hk, hgk3, HBR⟩ := hrel
           by_cases hltk : k < ms.length
           ·as_aux_lemma =>
            have hltkz : (k : Int) < (ms.length : Int) := by omega
            have hmrq := HMR.out.below HBR.out (Nat.le_refl _)
            obtain ⟨bm, offm, hbm⟩ := hmrq.row.at.plain Msg.cells_len (by decide) (by intro e; rw [e] at hltk; exact absurd hltk (by simp))
            subst hbm
            have hldm := msgRow_load hmrq.row.at hltk
            have hmem : ms[k] ∈ ms := List.getElem_mem hltk
            have hmin := hmrq.get hmem
            obtain ⟨hc0, hsend⟩ := HSD.out _ hmem
            generalize ms[k] = d at *
            subst hc0
            obtain ⟨wm, hwm⟩ : ∃ wm, wr.alloc (.cells #[.int .i64 d.kind, .int .i64 d.frm, .int .i64 d.to_, .int .i64 d.seq, .int .i64 d.node, .int .i64 (d.u 0), .int .i64 (d.u 1), .int .i64 (d.u 2), .int .i64 (d.u 3), .int .i64 (d.u 4), .int .i64 (d.u 5), .int .i64 (d.u 6), .int .i64 (d.u 7), .slice d.hm.a d.hm.n d.hm.c, .slice d.he.a d.he.n d.he.c, .slice d.hs.a d.hs.n d.hs.c] 38) = wm := ⟨_, rfl⟩
            have hbm2 : RowKit.Below wr.heap.size wr wm := by rw [← hwm]; exact (Below.refl _ _).alloc (Nat.le_refl _) _
            have hrm : wm.heap[wr.heap.size]? = some (.cells #[.int .i64 d.kind, .int .i64 d.frm, .int .i64 d.to_, .int .i64 d.seq, .int .i64 d.node, .int .i64 (d.u 0), .int .i64 (d.u 1), .int .i64 (d.u 2), .int .i64 (d.u 3), .int .i64 (d.u 4), .int .i64 (d.u 5), .int .i64 (d.u 6), .int .i64 (d.u 7), .slice d.hm.a d.hm.n d.hm.c, .slice d.he.a d.he.n d.he.c, .slice d.hs.a d.hs.n d.hs.c] 38) := by rw [← hwm]; exact heap_alloc_new wr _
            have hrt := msgRight_any d wm (hmin.below hbm2 (Nat.le_refl _)) hsend.small
            simp only [Hdr.val] at hrt
            have HRT := Lib.hid hrt
            have HRB := Lib.hid (Msg.rightB_true hsend.right)
            have ht1 : (d.to_ != o.m.frm) = false := by simp [hsend.to_]
            have ht2 : (d.frm != me) = false := by simp [hsend.frm, hxs]
            have HBM := Lib.hid (HBR.out.trans (hbm2.mono HBR.out.size))
            obtain ⟨m0, m1, m2, m3, m4, m5, m6, m7, m8, m9, m10, m11, m12, m13, m14, m15⟩ := msg_cells hrm
            have hfm : wm.cell? ⟨b10, 3, none⟩ = some (.int .i64 o.m.frm) := (HBM.out.cell (p := ⟨b10, 3, none⟩) hl10).trans hfO
            have HLDM := Lib.hid (show Sem.run Tryz.prog (loadCellsFrom ⟨bm, offm + k * 16, none⟩ 0 16 #[]) wr = .ok #[.int .i64 d.kind, .int .i64 d.frm, .int .i64 d.to_, .int .i64 d.seq, .int .i64 d.node, .int .i64 (d.u 0), .int .i64 (d.u 1), .int .i64 (d.u 2), .int .i64 (d.u 3), .int .i64 (d.u 4), .int .i64 (d.u 5), .int .i64 (d.u 6), .int .i64 (d.u 7), .slice d.hm.a d.hm.n d.hm.c, .slice d.he.a d.he.n d.he.c, .slice d.hs.a d.hs.n d.hs.c] wr from hldm)
            have HWM := Lib.hid hwm
            have hms2 : ms.length - (k + 1) < gk := by omega
            have hkl : k + 1 ≤ ms.length := hltk
            clear hrt hmrq hldm hmem hmin hsend hwm hbm2 hrm HMR HSD HBR
            go_upto_region 38 with (refine wpList_loadAgg _ rfl 38 _ rfl 16 (msg16a _) (msg16b _) ⟨bm, offm + k * 16, none⟩ rfl _ HLDM.out ?_)
            rw [HWM.out]
            clear HLDM HWM
            go_wp2_with fail
            refine HRT.out.mono ?_
            rintro e wz ⟨rfl, hbz⟩
            rw [HRB.out]
            have HBZ := Lib.hid (HBM.out.trans (hbz.mono HBM.out.size))
            clear hbz HRT HRB HBM
            go_wp2_with fail
            go_roundg (ms.length - (k + 1))
            case measure => exact hms2
            case rel => exact ⟨k + 1, by go_num, hkl, Nat.le_refl _, HBZ.out⟩
           ·as_aux_lemma =>
            have hltkz : ¬ (k : Int) < (ms.length : Int) := by omega
            have HX := Lib.hid (show Step22 M x wS wr from ⟨by obtain ⟨y, h1, h2, h3, h4⟩ := HXS.out.at'; exact ⟨y, h1, h2, h3.below HBR.out (Nat.le_refl _), h4⟩, HXS.out.touch.trans (Touch.of_below (L := M.own) HBR.out (Nat.le_refl _)) fun n hn h => h⟩)
            go_wp2_with fail
            go_meet
            exact HX.out
       by_cases k3 : o.kind = 3
       ·--K3
        as_aux_lemma =>
        obtain ⟨⟨ra, rn, rc⟩, hrh⟩ : ∃ hd : Hdr, o.eh = hd := ⟨_, rfl⟩
        have hOE := HOI.out.e
        rw [hrh] at hOE
        have hrow := HROW.out
        have HKR : Hid (∀ w' : World, w'.heap[wr.heap.size]? = some (.cells o.cells.toArray 46) → w'.cell? ⟨wr.heap.size, 18, none⟩ = some (.int .i64 o.e.dot.node) ∧ w'.cell? ⟨wr.heap.size, 19, none⟩ = some (.int .i64 o.e.dot.seq) ∧ w'.cell? ⟨wr.heap.size, 20, none⟩ = some (.int .i64 o.e.time) ∧ w'.cell? ⟨wr.heap.size, 21, none⟩ = some (.int .i64 o.e.kind) ∧ w'.cell? ⟨wr.heap.size, 22, none⟩ = some (.int .i64 o.e.work) ∧ w'.cell? ⟨wr.heap.size, 23, none⟩ = some (.int .i64 o.e.value) ∧ w'.cell? ⟨wr.heap.size, 24, none⟩ = some (.int .i64 o.e.pol.mn) ∧ w'.cell? ⟨wr.heap.size, 25, none⟩ = some (.int .i64 o.e.pol.mx) ∧ w'.cell? ⟨wr.heap.size, 26, none⟩ = some (.int .i64 o.e.pol.goal) ∧ w'.cell? ⟨wr.heap.size, 27, none⟩ = some (.int .i64 o.e.pol.slack) ∧ w'.cell? ⟨wr.heap.size, 28, none⟩ = some (.int .i64 o.e.pol.up) ∧ w'.cell? ⟨wr.heap.size, 29, none⟩ = some (.int .i64 o.e.pol.down) ∧ w'.cell? ⟨wr.heap.size, 30, none⟩ = some (.int .i64 o.e.pol.cool) ∧ w'.cell? ⟨wr.heap.size, 31, none⟩ = some (.slice ra rn rc)) := fun W hr => by
         have he13 : W.cell? ⟨wr.heap.size, 31, none⟩ = some o.eh.val := cell_of_row W _ 31 _ _ _ hr
         rw [hrh] at he13
         exact ⟨cell_of_row W _ 18 _ _ _ hr, cell_of_row W _ 19 _ _ _ hr, cell_of_row W _ 20 _ _ _ hr, cell_of_row W _ 21 _ _ _ hr, cell_of_row W _ 22 _ _ _ hr, cell_of_row W _ 23 _ _ _ hr, cell_of_row W _ 24 _ _ _ hr, cell_of_row W _ 25 _ _ _ hr, cell_of_row W _ 26 _ _ _ hr, cell_of_row W _ 27 _ _ _ hr, cell_of_row W _ 28 _ _ _ hr, cell_of_row W _ 29 _ _ _ hr, cell_of_row W _ 30 _ _ _ hr, he13⟩
        have HRO := Lib.hid hrow
        have HLW := Lib.hid (show wr.heap.size < wS.heap.size by omega)
        have HBK := Lib.hid (fun W (hW : RowKit.Below wS.heap.size wS W) => gbook_any W M x (HG6.out.below hW (Nat.le_refl _)))
        have HADD := Lib.hid (fun W (hW : RowKit.Below wS.heap.size wS W) => bookAdd_any M.bb M.ms M.mh M.B x.S ⟨ra, rn, rc⟩ o.e W (HG6.out.below hW (Nat.le_refl _)).book (hOE.below Dot.cells_len (by decide) (HB6.out.trans (hW.mono HB6.out.size)) (Nat.le_refl _)) (by have := HOS.out.e; omega) (by
         by_cases hl : o.e.rem = []
         ·exact .inl hl
         ·refine .inr fun b hb => ?_
          have h1 := hOE.lt Dot.cells_len (by decide) hl b hb
          have h2 := hreA _ (.inr (.inl rfl))
          have h3 := hreA _ (.inr (.inr (.inl rfl)))
          have h4 := hreA _ (.inr (.inr (.inr rfl)))
          omega) (by have := HXO.out.fine.t0; have := HXO.out.fine.t1; omega))
        have hkb : (o.kind == 3) = true := by simp [k3]
        have hk1b : (o.kind == 1) = false := by simp [k1]
        have hk2b : (o.kind == 2) = false := by simp [k2]
        clear k1 k2 k3 hOE hrow hrh
        go_upto_region 42 with fail
        go_region_held (fun w' => w'.cell? ⟨wr.heap.size, 18, none⟩ = some (.int .i64 o.e.dot.node) ∧ w'.cell? ⟨wr.heap.size, 19, none⟩ = some (.int .i64 o.e.dot.seq) ∧ w'.cell? ⟨wr.heap.size, 20, none⟩ = some (.int .i64 o.e.time) ∧ w'.cell? ⟨wr.heap.size, 21, none⟩ = some (.int .i64 o.e.kind) ∧ w'.cell? ⟨wr.heap.size, 22, none⟩ = some (.int .i64 o.e.work) ∧ w'.cell? ⟨wr.heap.size, 23, none⟩ = some (.int .i64 o.e.value) ∧ w'.cell? ⟨wr.heap.size, 24, none⟩ = some (.int .i64 o.e.pol.mn) ∧ w'.cell? ⟨wr.heap.size, 25, none⟩ = some (.int .i64 o.e.pol.mx) ∧ w'.cell? ⟨wr.heap.size, 26, none⟩ = some (.int .i64 o.e.pol.goal) ∧ w'.cell? ⟨wr.heap.size, 27, none⟩ = some (.int .i64 o.e.pol.slack) ∧ w'.cell? ⟨wr.heap.size, 28, none⟩ = some (.int .i64 o.e.pol.up) ∧ w'.cell? ⟨wr.heap.size, 29, none⟩ = some (.int .i64 o.e.pol.down) ∧ w'.cell? ⟨wr.heap.size, 30, none⟩ = some (.int .i64 o.e.pol.cool) ∧ w'.cell? ⟨wr.heap.size, 31, none⟩ = some (.slice ra rn rc)) (first | exact HKR.out _ HQR.out | exact HKR.out wS.drew HRO.out)
         (first
          | (go_at_call 9; refine (HBK.out _ (below_drew (Below.refl _ _))).mono ?_; rintro e wq ⟨rfl, rfl⟩)
          | (go_at_call 15; refine (HADD.out _ (below_drew (Below.refl _ _))).mono ?_; rintro e wq ⟨rfl, hbk, ht⟩; have HQR := Lib.hid (row_turns22 ht HRO.out HLW.out HOL.out); have HX := Lib.hid (add_step22 HXO.out HG6.out hbk ht); clear hbk ht HADD))
        all_goals
         go_wp2_with fail
         go_meet
         exact HX.out
       ·as_aux_lemma =>
        have hkb : (o.kind == 3) = false := by simp [k3]
        have hk1b : (o.kind == 1) = false := by simp [k1]
        have hk2b : (o.kind == 2) = false := by simp [k2]
        have HX := Lib.hid (show Step22 M x wS wS from ⟨⟨x, HXO.out, rfl, HG6.out, fun n q h => h⟩, Touch.refl _ _⟩)
        clear k1 k2 k3
        go_wp2_with fail
        go_meet
        exact HX.out
      case rest =>
       as_aux_lemma =>
       obtain ⟨⟨y, hyo, hys, hgy, hsee⟩, hty⟩ := hcut.out
       have hset : ∀ W, RowKit.Below wc.heap.size wc W → SetRow W w7.heap.size ⟨o5, t5.more.length, q5⟩ t5 := fun W hW => (hW.block _ (by have := hty.size; omega)).trans ((hty.block _ hl6 (fun e => by have := HOL.out _ e; omega)).trans HR6.out)
       have HKP : Hid (∀ w', RowKit.Below wc.heap.size wc w' → w'.cell? ⟨w7.heap.size, 0, none⟩ = some (.int .i64 (t5.u 0)) ∧ w'.cell? ⟨w7.heap.size, 1, none⟩ = some (.int .i64 (t5.u 1)) ∧ w'.cell? ⟨w7.heap.size, 2, none⟩ = some (.int .i64 (t5.u 2)) ∧ w'.cell? ⟨w7.heap.size, 3, none⟩ = some (.int .i64 (t5.u 3)) ∧ w'.cell? ⟨w7.heap.size, 4, none⟩ = some (.int .i64 (t5.u 4)) ∧ w'.cell? ⟨w7.heap.size, 5, none⟩ = some (.int .i64 (t5.u 5)) ∧ w'.cell? ⟨w7.heap.size, 6, none⟩ = some (.int .i64 (t5.u 6)) ∧ w'.cell? ⟨w7.heap.size, 7, none⟩ = some (.int .i64 (t5.u 7)) ∧ w'.cell? ⟨w7.heap.size, 8, none⟩ = some (.slice o5 t5.more.length q5)) := fun W hW => (hset W hW).cells
       have hslt : ∀ W, RowKit.Below wc.heap.size wc W → SlAt Dot.cells W (.slice o5 t5.more.length q5) t5.more := fun W hW => (HO6.out.touch hty (fun b hb e => by have := (HO6.out.lt b hb).1; have := HOL.out _ e; omega)).at.below Dot.cells_len (by decide) hW (Nat.le_refl _)
       have HSL := Lib.hid hslt
       have HBK := Lib.hid (fun W (hW : RowKit.Below wc.heap.size wc W) => gbook_any W M y (hgy.below hW (Nat.le_refl _)))
       have HSE := Lib.hid (fun W (hW : RowKit.Below wc.heap.size wc W) => seen_any M.bb M.ms M.mh M.B y.S hyo.fine.ok W (hgy.below hW (Nat.le_refl _)).book)
       have HYO := Lib.hid hyo
       have HGY := Lib.hid hgy
       have HSEE := Lib.hid hsee
       have HBC := Lib.hid (HB6.out.trans ((hty.below22 (B := w.heap.size) HB6.out.size HOW.out)))
       have hys2 : y.self = me := hys.trans hxs
       clear hcut hyo hys hgy hsee hty hset hslt HR6 HO6 HG6 HB6 HROW hk0 HOI HOS
       go_upto_region 43 with fail
       go_cut [166] (fun s166 wx => s166 = .bool false ∧ Hid (RowKit.Below wc.heap.size wc wx))
       case first =>
        obtain ⟨wd, hwd⟩ : ∃ wd, wd = wc := ⟨_, rfl⟩
        subst hwd
        go_region_held (fun w' => w'.cell? ⟨w7.heap.size, 0, none⟩ = some (.int .i64 (t5.u 0)) ∧ w'.cell? ⟨w7.heap.size, 1, none⟩ = some (.int .i64 (t5.u 1)) ∧ w'.cell? ⟨w7.heap.size, 2, none⟩ = some (.int .i64 (t5.u 2)) ∧ w'.cell? ⟨w7.heap.size, 3, none⟩ = some (.int .i64 (t5.u 3)) ∧ w'.cell? ⟨w7.heap.size, 4, none⟩ = some (.int .i64 (t5.u 4)) ∧ w'.cell? ⟨w7.heap.size, 5, none⟩ = some (.int .i64 (t5.u 5)) ∧ w'.cell? ⟨w7.heap.size, 6, none⟩ = some (.int .i64 (t5.u 6)) ∧ w'.cell? ⟨w7.heap.size, 7, none⟩ = some (.int .i64 (t5.u 7)) ∧ w'.cell? ⟨w7.heap.size, 8, none⟩ = some (.slice o5 t5.more.length q5)) (first | exact HKP.out _ B4.out | exact HKP.out _ B3.out | exact HKP.out _ (below_drew (Below.refl _ _)))
         (first
          | (go_at_call 9; refine (HBK.out _ (below_drew (Below.refl _ _))).mono ?_; rintro e wq ⟨rfl, rfl⟩)
          | (go_at_call 10; refine (HSE.out _ (below_drew (Below.refl _ _))).mono ?_; rintro e wp ⟨⟨ra, rn, rc⟩, r, rfl, hcl, hown, hb5⟩; rw [show (qcells (⟨ra, rn, rc⟩, r)).toArray = #[.int .i64 (r.u 0), .int .i64 (r.u 1), .int .i64 (r.u 2), .int .i64 (r.u 3), .int .i64 (r.u 4), .int .i64 (r.u 5), .int .i64 (r.u 6), .int .i64 (r.u 7), .slice ra rn rc] from rfl]; obtain ⟨_, _, hv5⟩ := slAt_slice hown.at; simp only [Hdr.val, Value.slice.injEq] at hv5; obtain ⟨rfl, rfl, rfl⟩ := hv5; have B3 := Lib.hid ((below_drew (Below.refl wd.heap.size wd)).trans hb5); have HLE := Lib.hid (less_any o5 ra q5 rc t5 r wp (HSL.out _ B3.out) hown.at (by have := HM5.out; omega) (Nat.le_trans (hcl.right HYO.out.fine.ok).2.1 (by decide))); have HCG := Lib.hid (hcl.grid HYO.out.fine.ok); clear hcl hown hb5 HSE)
          | (go_at_call 16; refine HLE.out.mono ?_; rintro e wq ⟨o6, n6, c6, rfl, hn6, hb6⟩; have B4 := Lib.hid (B3.out.trans (hb6.mono B3.out.size)); have HN6 := Lib.hid hn6; clear hn6 hb6 HLE))
        all_goals
         go_wp2_with fail
         go_meet
         have hz : n6 = 0 := by
          rw [HN6.out]
          unfold lessD
          rw [HG5.out, HCG.out, List.length_eq_zero_iff, List.filter_eq_nil_iff]
          intro d hd
          rw [HSEE.out _ _ ((mem_dotsOf HXO.out.fine.ok).1 hd).2]
          simp
         exact ⟨by rw [hz]; rfl, B4.out⟩
       case rest =>
        obtain ⟨rfl, HBX⟩ := hcut
        have hgz := HGY.out.below HBX.out (Nat.le_refl _)
        have HGZ := Lib.hid hgz
        have HBZ := Lib.hid (HBC.out.trans (HBX.out.mono HBC.out.size))
        have hms : ops.length - (i + 1) < gk := by omega
        have hle : i + 1 ≤ ops.length := hlt2
        clear hgz HBX HBC HGY HKP HSL HBK HSE HSEE
        go_wp2_with fail
        go_roundg (ops.length - (i + 1))
        case measure => exact hms
        case rel => exact ⟨i + 1, y, by go_num, hle, Nat.le_refl _, HYO.out, hys2, HGZ.out, HBZ.out⟩
    ·have hltz : ¬ (i : Int) < (ops.length : Int) := by omega
     go_wp2_with fail
     go_ret
     exact ⟨rfl, HB.out⟩
  ·have HNW := Lib.hid (gnew_bad me mtu seed hgood w3)
   clear hgood
   go_wp2_with fail
   refine HNW.out.mono ?_
   rintro e w4 ⟨rfl, rfl⟩
   go_wp2_with fail
   go_ret
   exact ⟨rfl, HB3.out⟩
end Go.Proofs.YtenkfnhcdfmkaaaGreat
