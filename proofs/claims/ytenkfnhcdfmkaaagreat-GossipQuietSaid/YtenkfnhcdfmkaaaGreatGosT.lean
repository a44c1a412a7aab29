/-
  (*gossip.Gossip).Tick walked.
-/
import Derived.Test.YtenkfnhcdfmkaaaGreatGosD
namespace Go.Proofs.YtenkfnhcdfmkaaaGreat
open Go.RowKit Go.Lib Go.Shelf
set_option linter.unusedVariables false
set_option linter.unusedSimpArgs false
structure IsDigest (S : BookS) (me tt qq : Int) (m : Msg) : Prop where
 kind : m.kind = 4
 frm : m.frm = me
 to_ : m.to_ = tt
 seq : m.seq = qq
 node : m.node = 0
 evs : m.evs = []
 ms : m.ms = []
 set : Closes S.saw m.set
def digMsg (self to_ seq : Int) (r : DSet) (hd : Hdr) : Msg := ⟨4, self, to_, seq, 0, r.u, r.more, [], [], hd, ⟨none, 0, 0⟩, ⟨none, 0, 0⟩⟩
theorem digMsg_own {B : Nat} {w : World} {self to_ seq : Int} {r : DSet} {hd : Hdr} (h : Owns Dot.cells 2 B 40 w hd.val r.more) : MOwn B w (digMsg self to_ seq r hd) := ⟨h, Acc.nil _ _ _ _, Owns.nil _ _ _ _ _⟩
theorem digMsg_is {S : BookS} {self to_ seq : Int} {r : DSet} {hd : Hdr} (h : Closes S.saw r) : IsDigest S self to_ seq (digMsg self to_ seq r hd) := ⟨rfl, rfl, rfl, rfl, rfl, rfl, rfl, h⟩
def tickP (self n : Int) : Bool := if (decide (0 ≤ n) && decide (n ≤ 7)) = true then decide (n = self) else true
def tickL (self : Int) (l : List Int) : List Int := l.filter fun n => !tickP self n
set_option maxHeartbeats 1000000 in
theorem tickFn_any (b g : Nat) (self n : Int) (W : World) (hc : W.cell? ⟨b, 0, none⟩ = some (.pointer (some ⟨g, 0, none⟩))) (h0 : W.cell? ⟨g, 0, none⟩ = some (.int .i64 self)) :
  FnGives Tryz.prog 38 #[.pointer (some ⟨b, 0, none⟩)] #[.int .i64 n] (.bool (tickP self n)) W := by
 unfold FnGives tickP
 have HN := Lib.hid (gnode_any n W)
 simp only [List.append_toArray, List.cons_append, List.nil_append]
 generalize hb : (decide (0 ≤ n) && decide (n ≤ 7)) = c at *
 clear hb
 cases c with
 | true =>
  go_enter Tryz.func38, Tryz.ntmps38
  go_wp2_with fail
  refine HN.out.mono ?_
  rintro e w' ⟨rfl, rfl⟩
  go_wp2_with fail
  go_ret
  exact ⟨rfl, 0, rfl⟩
 | false =>
  go_enter Tryz.func38, Tryz.ntmps38
  go_wp2_with fail
  refine HN.out.mono ?_
  rintro e w' ⟨rfl, rfl⟩
  go_wp2_with fail
  go_ret
  exact ⟨rfl, 0, rfl⟩
theorem grown_touch {w w' : World} {b : Nat} (h : w.grownBy w' (some b)) : Touch (fun k => k = b) w w' := Touch.of_grown h fun j hj => (Option.some.inj hj).symm
set_option maxRecDepth 100000 in
set_option maxHeartbeats 4000000 in
theorem tick_any (M : GM) (x : Gsp) (hok : x.Ok) (oa : Option Addr) (cap : Nat) (l : List Int) (w : World) (h : GAt w M x) (hs : SlAt icells w (.slice oa l.length cap) l) (hl : l.length ≤ 900000) :
  Calls Tryz.prog 11 #[.pointer (some ⟨M.g, 0, none⟩), .slice oa l.length cap] w fun e w' => ∃ (v : Value) (ms : List Msg), e = .returned v ∧ MRow w.heap.size w' v ms ∧ (∀ m ∈ ms, IsDigest x.S x.self m.to_ 0 m) ∧ ms.map (·.to_) = someL x.s (tickL x.self l) 1 ∧ GAt w' M ⟨x.self, x.mtu, (shufL x.s (onceL (tickL x.self l))).1, x.S⟩ ∧ Touch (fun k => k = M.bo) w w' := by
 have eg : ∀ args w, (callFunc 38 args).run Tryz.prog w = .ok (.enter 38 args) w := enters_of Tryz.func38 (by kernel_rfl) rfl
 obtain ⟨w1, hw1⟩ : ∃ w1, w.alloc (.cells #[.pointer (some ⟨M.g, 0, none⟩)] 28) = w1 := ⟨_, rfl⟩
 have hb1 : Below w.heap.size w w1 := by rw [← hw1]; exact (Below.refl _ _).alloc (Nat.le_refl _) _
 have r1 : w1.heap[w.heap.size]? = some (.cells #[.pointer (some ⟨M.g, 0, none⟩)] 28) := by rw [← hw1]; exact heap_alloc_new w _
 have hlt : w.heap.size < w1.heap.size := (Array.getElem?_eq_some_iff.1 r1).1
 have hg1 := h.below hb1 (Nat.le_refl _)
 have hgl := h.lt
 have hbol := h.ord.lt
 have p1 : w1.cell? ⟨w.heap.size, 0, none⟩ = some (.pointer (some ⟨M.g, 0, none⟩)) := cell_of_row w1 _ 0 _ _ _ r1
 obtain ⟨tl, htl⟩ : ∃ tl, tickL x.self l = tl := ⟨_, rfl⟩
 have htll : tl.length ≤ 900000 := by rw [← htl]; unfold tickL; exact Nat.le_trans (List.length_filter_le _ _) hl
 obtain ⟨sl, hsl⟩ : ∃ sl, someL x.s tl 1 = sl := ⟨_, rfl⟩
 have hsll : sl.length ≤ 1 := by rw [← hsl]; unfold someL; rw [List.length_take]; exact Nat.min_le_left _ _
 obtain ⟨s2, hs2⟩ : ∃ s2, (shufL x.s (onceL tl)).1 = s2 := ⟨_, rfl⟩
 rw [htl, hsl, hs2]
 have HTL := Lib.hid htl
 have HSL := Lib.hid hsl
 have HS2 := Lib.hid hs2
 have HG := Lib.hid h
 have HCL := Lib.hid (clone_any oa cap l w1 (hs.below icells_len (by decide) hb1 (Nat.le_refl _)) (by omega))
 have HW1 := Lib.hid hw1
 have HB1 := Lib.hid hb1
 have R1 := Lib.hid r1
 have HG1 := Lib.hid hg1
 have EG := Lib.hid eg
 have HOK := Lib.hid hok
 clear hw1 hb1 r1 hg1 h hs eg hok htl hsl hs2
 go_enter Tryz.func11, Tryz.ntmps11
 go_upto_region 1 with fail
 rw [HW1.out]
 go_wp2_with fail
 refine HCL.out.mono ?_
 rintro e w2 ⟨v2, rfl, ho2, hb2⟩
 have HO2 := Lib.hid ho2
 have HG2 := Lib.hid (HG1.out.below hb2 (Nat.le_refl _))
 have R2 := Lib.hid ((hb2.block w.heap.size hlt).trans R1.out)
 have HB2 := Lib.hid (HB1.out.trans (hb2.mono HB1.out.size))
 have hz2 := hb2.size
 clear ho2 hb2 HG1 R1 HCL HB1 HW1
 go_wp2_with fail
 have hro : ∀ g, v2.ownBlock = some g → w1.heap.size ≤ g := fun g hg => (HO2.out.lt g hg).1
 have HRO := Lib.hid hro
 clear hro
 refine (delete_cap (tickP x.self) _ _ EG.out _ v2 l w2 (fun W hW n => tickFn_any w.heap.size M.g x.self n W ((World.cell?_of_block (a := ⟨w.heap.size, 0, none⟩) (hW w.heap.size (by omega) (fun e => by have := HRO.out _ e.symm; omega))).trans (cell_of_row w2 _ 0 _ _ _ R2.out)) ((World.cell?_of_block (a := ⟨M.g, 0, none⟩) (hW M.g (by omega) (fun e => by have := HRO.out _ e.symm; omega))).trans HG2.out.cells.1)) HO2.out (by omega)).mono ?_
 rintro e w3 ⟨v3, rfl, ho3, hv3, hg3⟩
 have ho3' : Ints w1.heap.size w3 v3 tl := by rw [← HTL.out]; exact ho3
 obtain ⟨o3, c3, hv3'⟩ := slAt_slice ho3'.at
 have hk3 : ∀ k, k < w1.heap.size → w3.heap[k]? = w2.heap[k]? := fun k hk => hg3.block k (by omega) (fun e => by have := HRO.out _ e.symm; omega)
 have hb3 : Below w1.heap.size w2 w3 := ⟨hg3.os, hg3.tape, hg3.output, hg3.size, hk3⟩
 have HB3 := Lib.hid (HB2.out.trans (hb3.mono (Nat.le_of_lt hlt)))
 have HG3 := Lib.hid (HG.out.below HB3.out (Nat.le_refl _))
 have R3 := Lib.hid ((hk3 w.heap.size hlt).trans R2.out)
 have hz3 := hg3.size
 rw [hv3'] at ho3' ⊢
 have hso := some_any M.bo M.BO x.s [] o3 c3 tl 1 w3 HG3.out.ord ho3'.at htll
 rw [HSL.out, HS2.out] at hso
 have HSO := Lib.hid hso
 obtain ⟨g0, g1, g2, g3⟩ := HG3.out.cells
 have p3 : w3.cell? ⟨w.heap.size, 0, none⟩ = some (.pointer (some ⟨M.g, 0, none⟩)) := cell_of_row w3 _ 0 _ _ _ R3.out
 clear ho3 ho3' hv3 hv3' hg3 hk3 hb3 hso HRO HO2 HG2 R2 HB2 EG p1 HSL HS2 HTL
 go_wp2_with fail
 refine HSO.out.mono ?_
 rintro e w4 ⟨v4, rfl, ho4, hobj4, hg4⟩
 obtain ⟨o4, c4, hv4⟩ := slAt_slice ho4.at
 rw [hv4] at ho4 ⊢
 have HO4 := Lib.hid ho4
 have HG4 := Lib.hid (HG3.out.ordered hobj4 hg4)
 have R4 := Lib.hid ((hg4.block w.heap.size (by omega) (fun e => by have := Option.some.inj e; omega)).trans R3.out)
 have HT4 : Hid (Touch (fun k => k = M.bo) w w4) := (Touch.of_below HB3.out (Nat.le_refl _)).trans (grown_touch hg4) fun n hn h => h
 have hz4 := hg4.size
 have HOK4 : Hid (Gsp.Ok ⟨x.self, x.mtu, s2, x.S⟩) := ⟨HOK.out.self, HOK.out.mtu, HOK.out.fine⟩
 clear ho4 hv4 hobj4 hg4 HSO HG3 R3 HB3 g0 g1 g2 g3 p3 HOK
 go_wp2_with fail
 go_loopg [4, 7, 21] sl.length (fun gk s4 s7 s21 wr => ∃ (i : Nat) (v : Value) (ms : List Msg), s4 = v ∧ s21 = .int .i64 i ∧ i ≤ sl.length ∧ sl.length - i ≤ gk ∧ ms.length = i ∧ Hid (MRow w4.heap.size wr v ms) ∧ Hid (∀ m ∈ ms, IsDigest x.S x.self m.to_ 0 m) ∧ Hid (ms.map (·.to_) = sl.take i) ∧ Hid (Below w4.heap.size w4 wr))
 case atStart => exact ⟨0, .slice none 0 0, [], rfl, rfl, Nat.zero_le _, Nat.le_refl _, rfl, MRow.nil _ _, (fun m hm => by cases hm), by show _ = _; simp, Below.refl _ _⟩
 case round =>
  obtain ⟨i, v, ms, rfl, rfl, hi, hgk, hml, HMR, HID, HTO, HB⟩ := hrel
  by_cases hlt2 : i < sl.length
  ·have hltz : (i : Int) < (sl.length : Int) := by omega
   have hsl := HO4.out.at.below icells_len (by decide) HB.out (Nat.le_refl _)
   obtain ⟨b, off, rfl⟩ := hsl.plain icells_len (by decide) (by intro e; rw [e] at hlt2; exact absurd hlt2 (by simp))
   have c0 := hsl.cell icells_len (i := i) (c := 0) hlt2 (by decide)
   simp only [icells, List.getElem?_cons_zero] at c0
   rw [show off + (i * 1 + 0) = off + i by omega] at c0
   have htk : sl.take (i + 1) = sl.take i ++ [sl[i]] := List.take_succ_eq_append_getElem hlt2
   generalize sl[i] = n at *
   have HTK := Lib.hid htk
   have pb : wr.cell? ⟨w.heap.size, 0, none⟩ = some (.pointer (some ⟨M.g, 0, none⟩)) := cell_of_row wr _ 0 _ _ _ ((HB.out.block w.heap.size (by omega)).trans R4.out)
   have hdg := digest_any M ⟨x.self, x.mtu, s2, x.S⟩ HOK4.out n 0 wr (HG4.out.below HB.out (Nat.le_refl _))
   have HDG := Lib.hid hdg
   have hzr := HB.out.size
   clear hsl htk hdg
   go_wp2_with fail
   refine HDG.out.mono ?_
   rintro e w7 ⟨⟨da, dn, dc⟩, r, rfl, hcl, hown, hb7⟩
   simp only [Hdr.val] at hown ⊢
   have HCL7 := Lib.hid hcl
   have HOW7 := Lib.hid (digMsg_own (self := x.self) (to_ := n) (seq := 0) (hd := ⟨da, dn, dc⟩) hown)
   have HB7 := Lib.hid hb7
   have hs7 := hb7.size
   clear hcl hown hb7 HDG c0
   go_wp2_with (at_builtin; refine wpList_app Msg.cells 16 Msg.cells_len (by decide) Msg.cells_one _ rfl _ _ 52 rfl w4.heap.size 38 _ 176 Tryz.underlying52 infoMsgS rfl _ ms rfl ?h1 _ [(digMsg x.self n 0 r ⟨da, dn, dc⟩)] rfl ?h2 ?h3 ?h4 ?h5 ?_)
   case h1 => exact ((HMR.out.below HB7.out (Nat.le_refl _)).row.below ((Below.refl w7.heap.size w7).alloc (Nat.le_refl _) _) (Nat.le_refl _))
   case h2 => exact slAt_new (enc := Msg.cells) w7 (Msg.cells (digMsg x.self n 0 r ⟨da, dn, dc⟩)).toArray 38 1 1 (0, 0) [(digMsg x.self n 0 r ⟨da, dn, dc⟩)] rfl rfl (by decide)
   case h3 => simp; omega
   case h4 => simp; omega
   case h5 => simp; omega
   intro v8 w8 hown8 hg8 hv8
   have hrd := MRow.round hzr HMR.out HB7.out HOW7.out hown8 hg8 (by rw [World.size_alloc]; exact hv8)
   have HMR8 := Lib.hid hrd.1
   have HB8 := Lib.hid (HB.out.trans hrd.2)
   have HID8 : Hid (∀ m ∈ ms ++ [(digMsg x.self n 0 r ⟨da, dn, dc⟩)], IsDigest x.S x.self m.to_ 0 m) := fun m hm => by
    rcases List.mem_append.1 hm with hm | hm
    ·exact HID.out m hm
    ·obtain rfl : m = (digMsg x.self n 0 r ⟨da, dn, dc⟩) := by simpa using hm
     exact digMsg_is HCL7.out
   have HTO8 : Hid ((ms ++ [(digMsg x.self n 0 r ⟨da, dn, dc⟩)]).map (·.to_) = sl.take (i + 1)) := by
    show _ = _
    rw [List.map_append, HTO.out, HTK.out]; rfl
   have hml8 : (ms ++ [(digMsg x.self n 0 r ⟨da, dn, dc⟩)]).length = i + 1 := by rw [List.length_append, hml]; rfl
   have hms8 : sl.length - (i + 1) < gk := by omega
   have hle8 : i + 1 ≤ sl.length := hlt2
   clear hrd hown8 hg8 hv8 HMR HB HID HTO HTK HB7 HOW7 HCL7
   go_wp2_with fail
   go_roundg (sl.length - (i + 1))
   case measure => exact hms8
   case rel => exact ⟨i + 1, v8, _, rfl, by go_num, hle8, Nat.le_refl _, hml8, HMR8.out, HID8.out, HTO8.out, HB8.out⟩
  ·have hltz : ¬ (i : Int) < (sl.length : Int) := by omega
   obtain rfl : i = sl.length := by omega
   rw [List.take_length] at HTO
   have hz0 : w.heap.size ≤ w4.heap.size := by omega
   go_wp2_with fail
   go_ret
   exact ⟨_, rfl, ms, HMR.out.lower hz0, HID.out, HTO.out, HG4.out.below HB.out (Nat.le_refl _), HT4.out.trans (Touch.of_below (L := fun k => k = M.bo) HB.out (Nat.le_refl _)) fun n hn h => h⟩
end Go.Proofs.YtenkfnhcdfmkaaaGreat
