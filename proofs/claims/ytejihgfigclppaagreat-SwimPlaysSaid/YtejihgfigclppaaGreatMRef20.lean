/-
  The reference's detector in memory.
  The reference's detector hears a word.
  What the reference's detector sends.
  The reference's detector contradicts.
-/
import Derived.Test.YtejihgfigclppaaGreatMRef18
import Derived.Test.YtejihgfigclppaaGreatMRefOnce
import Derived.Test.YtejihgfigclppaaGreatMSwimV
import Derived.Test.YtejihgfigclppaaGreatSwimF
import Derived.BigQuiet
import Derived.Deep.QuietTactic
import Derived.Test.YtejihgfigclppaaGreatMSwimB
namespace Go.Proofs.YtejihgfigclppaaGreat
open Go.Shelf Go.RowKit Go.Lib Go.Sort
set_option linter.unusedVariables false
set_option linter.unusedSimpArgs false
structure RM where
 g : Nat
 gt : Nat
 go : Nat
 ev : Value
 wb : Option Nat
 tgt : Int
 seq : Int
 beg : Int
 sn : Nat → Int
def rcells (R : RM) (d : Det) : Array Value :=
 #[.int .i64 d.c.tout, .int .i64 d.c.ind, .int .i64 d.c.gr, .pointer (some ⟨R.gt, 0, none⟩), .pointer (some ⟨R.go, 0, none⟩), .int .i64 d.clock, .int .i64 d.num, .bool d.pr.isSome, .int .i64 R.tgt, .int .i64 R.seq, .int .i64 R.beg, .int .i64 d.inc, .int .i64 (R.sn 0), .int .i64 (R.sn 1), .int .i64 (R.sn 2), .int .i64 (R.sn 3), .int .i64 (R.sn 4), .int .i64 (R.sn 5), .int .i64 (R.sn 6), .int .i64 (R.sn 7), R.ev, .bool d.left]
def RM.own (R : RM) : List Nat := R.g :: R.gt :: R.go :: (R.ev.ownBlock.toList ++ R.wb.toList)
def RWaits (W : World) (go : Nat) (wb : Option Nat) (s : Int) (ws : List Int) : Prop := ∃ wv, Ord2 go W s wv 117 ∧ SlAt icells W wv ws ∧ (ws ≠ [] → wv.ownBlock = wb) ∧ (∀ b, wb = some b → (W.heap[b]?).isSome = true) ∧ ∀ b, wv.ownBlock = some b → go < b
theorem RWaits.lt {W : World} {go : Nat} {wb : Option Nat} {s : Int} {ws : List Int} (h : RWaits W go wb s ws) : go < W.heap.size := by obtain ⟨v, h, _⟩ := h; exact h.lt
theorem RWaits.lt2 {W : World} {go : Nat} {wb : Option Nat} {s : Int} {ws : List Int} (h : RWaits W go wb s ws) : ∀ b, wb = some b → b < W.heap.size := by
 obtain ⟨v, _, _, _, h, _⟩ := h
 intro b hb
 have := h b hb
 rcases Nat.lt_or_ge b W.heap.size with h' | h'
 ·exact h'
 ·rw [Array.getElem?_eq_none h'] at this; cases this
theorem RWaits.keep {W W' : World} {go : Nat} {wb : Option Nat} {s : Int} {ws : List Int} (h : RWaits W go wb s ws) (h1 : W'.heap[go]? = W.heap[go]?) (h2 : ∀ b, wb = some b → W'.heap[b]? = W.heap[b]?) : RWaits W' go wb s ws := by
 obtain ⟨v, a, b, c, d, f⟩ := h
 refine ⟨v, a.keep h1, b.keep ?_, c, fun k hk => by rw [h2 k hk]; exact d k hk, f⟩
 by_cases e : ws = []
 ·exact .inl e
 ·exact .inr fun k hk => h2 k (by rw [← c e]; exact hk)
theorem RWaits.obj {W : World} {go : Nat} {wb : Option Nat} {s : Int} {ws : List Int} (h : RWaits W go wb s ws) : Obj 117 go (go + 1) W s ws := by
 obtain ⟨v, a, b, c, d, f⟩ := h
 exact ⟨v, a, b, Nat.lt_succ_self _, fun g hg => f g hg⟩
theorem rwaits_of {W : World} {go B : Nat} {s : Int} {ws : List Int} (h : Obj 117 go B W s ws) : ∃ wb, RWaits W go wb s ws ∧ ∀ b, wb = some b → B ≤ b := by
 obtain ⟨v, a, b, c, d⟩ := h
 by_cases e : ws = []
 ·exact ⟨none, ⟨v, a, b, fun h => absurd e h, (fun b h => nomatch h), fun g hg => Nat.lt_of_lt_of_le c (d g hg)⟩, fun b h => by cases h⟩
 ·exact ⟨v.ownBlock, ⟨v, a, b, fun _ => rfl, fun k hk => by
   have := b.lt icells_len (by decide) e k hk
   rw [Array.getElem?_eq_getElem this]; rfl, fun g hg => Nat.lt_of_lt_of_le c (d g hg)⟩, fun k hk => d k hk⟩
structure ROpen (R : RM) (d : Det) : Prop where
 pr : ∀ p, d.pr = some p → R.seq = p.1 ∧ R.tgt = p.2 ∧ R.beg = d.began
 sn : ∀ (n : Nat) v, n < 8 → d.since (n : Int) = some v → R.sn n = v
structure RAt (W : World) (R : RM) (d : Det) : Prop where
 obj : W.heap[R.g]? = some (.cells (rcells R d) 83)
 tab : RTab W R.gt d.self d.tab
 ord : RWaits W R.go R.wb d.s d.ws
 ers : Owns Er.cells 4 0 127 W R.ev d.er
 nod : R.own.Nodup
 opn : ROpen R d
theorem RAt.cell {W : World} {R : RM} {d : Det} (h : RAt W R d) (k : Nat) : W.cell? ⟨R.g, k, none⟩ = (rcells R d)[k]? := cell_of_row _ R.g k _ _ _ h.obj
theorem RAt.frozen {W : World} {R : RM} {d : Det} (h : RAt W R d) (k : Nat) : W.frozen? ⟨R.g, k, none⟩ = false := by simp [World.frozen?, h.obj]
theorem RAt.lt {W : World} {R : RM} {d : Det} (h : RAt W R d) : R.g < W.heap.size := (Array.getElem?_eq_some_iff.1 h.obj).1
theorem RM.mem_g (R : RM) : R.g ∈ R.own := by simp [RM.own]
theorem RM.mem_gt (R : RM) : R.gt ∈ R.own := by simp [RM.own]
theorem RM.mem_go (R : RM) : R.go ∈ R.own := by simp [RM.own]
theorem RM.mem_ev (R : RM) {b : Nat} (h : R.ev.ownBlock = some b) : b ∈ R.own := by simp [RM.own, h]
theorem RM.mem_wb (R : RM) {b : Nat} (h : R.wb = some b) : b ∈ R.own := by simp [RM.own, h]
theorem rnod_ne {R : RM} (h : R.own.Nodup) : R.g ≠ R.gt ∧ R.g ≠ R.go ∧ R.gt ≠ R.go ∧ (∀ b, R.ev.ownBlock = some b → b ≠ R.g ∧ b ≠ R.gt ∧ b ≠ R.go) ∧ (∀ b, R.wb = some b → b ≠ R.g ∧ b ≠ R.gt ∧ b ≠ R.go ∧ R.ev.ownBlock ≠ some b) := by
 unfold RM.own at h
 simp only [List.nodup_cons, List.mem_cons, List.mem_append, not_or, Option.mem_toList, List.nodup_append] at h
 obtain ⟨⟨h1, h2, h3, h4⟩, ⟨k1, k2, k3⟩, ⟨l1, l2⟩, _, _, n1⟩ := h
 refine ⟨h1, h2, k1, fun b hb => ⟨?_, ?_, ?_⟩, fun b hb => ⟨?_, ?_, ?_, ?_⟩⟩
 ·rintro rfl; exact h3 hb
 ·rintro rfl; exact k2 hb
 ·rintro rfl; exact l1 hb
 ·rintro rfl; exact h4 hb
 ·rintro rfl; exact k3 hb
 ·rintro rfl; exact l2 hb
 ·intro e; exact n1 b e b hb rfl
theorem RAt.keep {W W' : World} {R : RM} {d : Det} (h : RAt W R d) (hb : ∀ k ∈ R.own, W'.heap[k]? = W.heap[k]?) : RAt W' R d where
 obj := (hb _ R.mem_g).trans h.obj
 tab := h.tab.keep (hb _ R.mem_gt)
 ord := h.ord.keep (hb _ R.mem_go) fun b hx => hb b (R.mem_wb hx)
 ers := h.ers.keep fun b hx => hb b (R.mem_ev hx)
 nod := h.nod
 opn := h.opn
theorem RAt.own_lt {W : World} {R : RM} {d : Det} (h : RAt W R d) : ∀ k ∈ R.own, k < W.heap.size := by
 intro k hk
 simp only [RM.own, List.mem_cons, List.mem_append, Option.mem_toList] at hk
 rcases hk with e | e | e | e | e
 ·rw [e]; exact h.lt
 ·rw [e]; exact h.tab.lt
 ·rw [e]; exact h.ord.lt
 ·exact (h.ers.lt k e).2
 ·exact h.ord.lt2 k e
theorem RAt.below {W W' : World} {R : RM} {d : Det} (h : RAt W R d) (hb : Below W.heap.size W W') : RAt W' R d := h.keep fun k hk => hb.block k (h.own_lt k hk)
theorem RAt.scalar {W W' : World} {R R' : RM} {d d' : Det} (h : RAt W R d) (hR : R'.g = R.g ∧ R'.gt = R.gt ∧ R'.go = R.go ∧ R'.ev = R.ev ∧ R'.wb = R.wb) (hd : d'.self = d.self ∧ d'.tab = d.tab ∧ d'.s = d.s ∧ d'.ws = d.ws ∧ d'.er = d.er) (ho : ROpen R' d') (hg : W'.heap[R.g]? = some (.cells (rcells R' d') 83)) (hb : ∀ k, k ≠ R.g → W'.heap[k]? = W.heap[k]?) : RAt W' R' d' := by
 obtain ⟨a1, a2, a3, a4, a5⟩ := hR
 obtain ⟨e1, e2, e3, e4, e5⟩ := hd
 obtain ⟨n1, n2, n3, n4, n5⟩ := rnod_ne h.nod
 refine ⟨by rw [a1]; exact hg, ?_, ?_, ?_, ?_, ho⟩
 ·rw [a2, e1, e2]; exact h.tab.keep (hb _ fun e => n1 e.symm)
 ·rw [a3, a5, e3, e4]; exact h.ord.keep (hb _ fun e => n2 e.symm) fun b hx => hb b (n5 b hx).1
 ·rw [a4, e5]; exact h.ers.keep fun b hx => hb b (n4 b hx).1
 ·have : R'.own = R.own := by unfold RM.own; rw [a1, a2, a3, a4, a5]
  rw [this]; exact h.nod
theorem RAt.turned {W W' : World} {R : RM} {d : Det} (h : RAt W R d) {t : Tab} (hT : RTab W' R.gt d.self t) (ht : Touch (fun k => k = R.gt) W W') (ho : ROpen R { d with tab := t }) : RAt W' R { d with tab := t } := by
 obtain ⟨n1, n2, n3, n4, n5⟩ := rnod_ne h.nod
 exact ⟨(ht.block _ h.lt n1).trans h.obj, hT, h.ord.keep (ht.block _ h.ord.lt fun e => n3 e.symm) fun b hx => ht.block b (h.ord.lt2 b hx) (n5 b hx).2.1, h.ers.keep fun b hx => ht.block b (h.ers.lt b hx).2 (n4 b hx).2.1, h.nod, ho⟩
end Go.Proofs.YtejihgfigclppaaGreat
namespace Go.Proofs.YtejihgfigclppaaGreat
open Go.Shelf Go.RowKit Go.Lib Go.Sort
set_option linter.unusedVariables false
set_option linter.unusedSimpArgs false
theorem rcells_hear (R : RM) (d : Det) (m : Mb) : rcells R (d.hear m) = rcells R d := by
 unfold rcells
 rw [hear_c, hear_clock, hear_num, hear_pr, hear_inc, hear_left]
theorem ropen_old {R : RM} {d : Det} {m : Mb} (h : ROpen R d) (hn : ¬ (m.may ∧ newsT d.tab m = true ∧ m.node ≠ d.self ∧ m.st = 2)) : ROpen R (d.hear m) := by
 refine ⟨fun p hp => ?_, fun n v hlt hv => h.sn n v hlt ?_⟩
 ·rw [hear_pr] at hp
  rw [hear_began]
  exact h.pr p hp
 ·revert hv
  unfold Det.hear
  by_cases hm : m.may ∧ newsT d.tab m = true
  ·rw [if_pos hm]
   by_cases e : m.node = d.self
   ·rw [if_pos e]; exact id
   ·rw [if_neg e, if_neg fun e2 => hn ⟨hm.1, hm.2, e, e2⟩]
    show updI d.since m.node none n = some v → _
    unfold updI
    split
    ·intro hv; cases hv
    ·exact id
  ·rw [if_neg hm]; exact id
theorem ropen_new {R : RM} {d : Det} {k : Nat} {i : Int} (h : ROpen R d) (hm : Mb.may ⟨(k : Int), 2, i⟩) (hn : newsT d.tab ⟨(k : Int), 2, i⟩ = true) (e : (k : Int) ≠ d.self) : ROpen { R with sn := fun n => if n = k then d.clock else R.sn n } (d.hear ⟨(k : Int), 2, i⟩) := by
 refine ⟨fun p hp => ?_, fun n v hlt hv => ?_⟩
 ·rw [hear_pr] at hp
  rw [hear_began]
  exact h.pr p hp
 ·revert hv
  unfold Det.hear
  rw [if_pos ⟨hm, hn⟩, if_neg e, if_pos rfl]
  show updI d.since (k : Int) (some d.clock) (n : Int) = some v → (if n = k then d.clock else R.sn n) = v
  unfold updI
  by_cases hk : n = k
  ·subst hk
   rw [if_pos rfl, if_pos rfl]
   intro hv
   exact Option.some.inj hv
  ·rw [if_neg (by omega), if_neg hk]
   exact h.sn n v hlt
theorem rcells_sn (R : RM) (d : Det) {k : Nat} (hk : k < 8) (x : Int) : (rcells R d).setIfInBounds (12 + k) (.int .i64 x) = rcells { R with sn := fun n => if n = k then x else R.sn n } d := by
 rcases (show k = 0 ∨ k = 1 ∨ k = 2 ∨ k = 3 ∨ k = 4 ∨ k = 5 ∨ k = 6 ∨ k = 7 by omega) with rfl | rfl | rfl | rfl | rfl | rfl | rfl | rfl <;> rfl
set_option maxRecDepth 100000 in
set_option maxHeartbeats 16000000 in
theorem rdhear_any (R : RM) (d : Det) (hok : DetOk d) (m : Mb) (w : World) (h : RAt w R d) :
  Calls Tryz.prog 63 #[.pointer (some ⟨R.g, 0, none⟩), .agg #[.int .i64 m.node, .int .i64 m.st, .int .i64 m.inc]] w fun e w' => e = .returned (.tuple #[]) ∧ ∃ f, RAt w' { R with sn := f } (d.hear m) ∧ Touch (fun k => k = R.g ∨ k = R.gt) w w' := by
 have hp : Tryz.prog.follows .mixedOrders = true := by kernel_rfl
 obtain ⟨n, s, i⟩ := m
 dsimp only
 obtain ⟨w1, hw1⟩ : ∃ w1, w.alloc (.cells #[.int .i64 n, .int .i64 s, .int .i64 i] 45) = w1 := ⟨_, rfl⟩
 have hb1 : Below w.heap.size w w1 := by rw [← hw1]; exact (Below.refl _ _).alloc (Nat.le_refl _) _
 have hr1 : w1.heap[w.heap.size]? = some (.cells #[.int .i64 n, .int .i64 s, .int .i64 i] 45) := by rw [← hw1]; exact heap_alloc_new w _
 have hml : w.heap.size < w1.heap.size := (Array.getElem?_eq_some_iff.1 hr1).1
 have hD1 := h.below hb1
 have m0 : w1.cell? ⟨w.heap.size, 0, none⟩ = some (.int .i64 n) := cell_of_row w1 _ 0 _ _ _ hr1
 have m1 : w1.cell? ⟨w.heap.size, 1, none⟩ = some (.int .i64 s) := cell_of_row w1 _ 1 _ _ _ hr1
 have m2 : w1.cell? ⟨w.heap.size, 2, none⟩ = some (.int .i64 i) := cell_of_row w1 _ 2 _ _ _ hr1
 have k3 : w1.cell? ⟨R.g, 3, none⟩ = some (.pointer (some ⟨R.gt, 0, none⟩)) := hD1.cell 3
 have hhe := fun (W : World) (hW : W.heap = w1.heap) => rhear_any R.gt d.self d.tab hok.tab ⟨n, s, i⟩ W (hD1.tab.keep (by rw [hW]))
 obtain ⟨nb, hnb⟩ : ∃ nb, (decide (Mb.may ⟨n, s, i⟩) && newsT d.tab ⟨n, s, i⟩) = nb := ⟨_, rfl⟩
 rw [hnb] at hhe
 dsimp only at hhe
 have hglt := h.lt
 have hgtl := h.tab.lt
 obtain ⟨n1, n2, n3, n4, n5⟩ := rnod_ne h.nod
 have hkp : ∀ W, Touch (fun k => k = R.gt) w1.drew W → W.cell? ⟨R.g, 3, none⟩ = some (.pointer (some ⟨R.gt, 0, none⟩)) ∧ W.cell? ⟨w.heap.size, 0, none⟩ = some (.int .i64 n) ∧ W.cell? ⟨w.heap.size, 1, none⟩ = some (.int .i64 s) ∧ W.cell? ⟨w.heap.size, 2, none⟩ = some (.int .i64 i) := fun W hW =>
  ⟨(World.cell?_of_block (a := ⟨R.g, 3, none⟩) (hW.block R.g hD1.lt n1)).trans k3, (World.cell?_of_block (a := ⟨w.heap.size, 0, none⟩) (hW.block _ hml (by show w.heap.size ≠ R.gt; omega))).trans m0, (World.cell?_of_block (a := ⟨w.heap.size, 1, none⟩) (hW.block _ hml (by show w.heap.size ≠ R.gt; omega))).trans m1, (World.cell?_of_block (a := ⟨w.heap.size, 2, none⟩) (hW.block _ hml (by show w.heap.size ≠ R.gt; omega))).trans m2⟩
 have HKP := Lib.hid hkp
 have HNB := Lib.hid hnb
 have HHE := Lib.hid hhe
 have HH := Lib.hid h
 have HD1 := Lib.hid hD1
 have HB1 := Lib.hid hb1
 have HR1 := Lib.hid hr1
 have HW1 := Lib.hid hw1
 clear hkp hnb hhe h hD1 hb1 hr1 hw1
 go_enter Tryz.func63, Tryz.ntmps63
 go_wp2_with fail
 rw [HW1.out]
 go_cut [4] (fun s4 wx => s4 = .bool nb ∧ Hid (RTab wx R.gt d.self (hearT d.tab ⟨n, s, i⟩)) ∧ Hid (Touch (fun k => k = R.gt) w1 wx))
 case first =>
  go_region_held (fun w' => w'.cell? ⟨R.g, 3, none⟩ = some (.pointer (some ⟨R.gt, 0, none⟩)) ∧ w'.cell? ⟨w.heap.size, 0, none⟩ = some (.int .i64 n) ∧ w'.cell? ⟨w.heap.size, 1, none⟩ = some (.int .i64 s) ∧ w'.cell? ⟨w.heap.size, 2, none⟩ = some (.int .i64 i)) (first | exact ⟨k3, m0, m1, m2⟩ | exact ⟨j3, j0, j1, j2⟩) (first | (go_at_call 97; refine (HHE.out w1.drew rfl).mono ?_; rintro e w7 ⟨⟨er, rfl⟩, hT7, hTo7⟩; obtain ⟨j3, j0, j1, j2⟩ := HKP.out w7 hTo7))
  all_goals
   go_wp2_with fail
   go_meet
   exact ⟨rfl, hT7, ⟨hTo7.os, hTo7.tape, hTo7.output, hTo7.size, hTo7.block⟩⟩
 case rest =>
  obtain ⟨rfl, HTC, HTO⟩ := hcut
  obtain ⟨j3, j0, j1, j2⟩ := HKP.out wc ⟨HTO.out.os, HTO.out.tape, HTO.out.output, HTO.out.size, HTO.out.block⟩
  have js : wc.cell? ⟨R.gt, 0, none⟩ = some (.int .i64 d.self) := HTC.out.self
  have hrg : wc.heap[R.g]? = some (.cells (rcells R d) 83) := (HTO.out.block R.g HD1.out.lt n1).trans HD1.out.obj
  have jc : wc.cell? ⟨R.g, 5, none⟩ = some (.int .i64 d.clock) := cell_of_row wc R.g 5 _ _ _ hrg
  -- what is so at the end, where no number of when turns
  have hend : ∀ W : World, W.heap = wc.heap → W.os = wc.os → W.tape = wc.tape → W.output = wc.output → ¬ (Mb.may ⟨n, s, i⟩ ∧ newsT d.tab ⟨n, s, i⟩ = true ∧ n ≠ d.self ∧ s = 2) → ∃ f, RAt W { R with sn := f } (d.hear ⟨n, s, i⟩) ∧ Touch (fun k => k = R.g ∨ k = R.gt) w W := fun W h1 h2 h3 h4 h5 => by
   have hTW : Touch (fun k => k = R.gt) w1 W := ⟨h2.trans HTO.out.os, h3.trans HTO.out.tape, h4.trans HTO.out.output, by rw [h1]; exact HTO.out.size, fun k hk hL => by rw [h1]; exact HTO.out.block k hk hL⟩
   refine ⟨R.sn, ⟨?_, ?_, ?_, ?_, HD1.out.nod, ropen_old HD1.out.opn h5⟩, (Touch.of_below (L := fun k => k = R.g ∨ k = R.gt) HB1.out (Nat.le_refl _)).trans hTW fun _ _ h => .inr h⟩
   ·show W.heap[R.g]? = some (.cells (rcells R (d.hear ⟨n, s, i⟩)) _)
    rw [rcells_hear, h1]; exact hrg
   ·rw [hear_self, hear_tab]; exact HTC.out.keep (by rw [h1])
   ·rw [hear_s, hear_ws]; exact HD1.out.ord.keep (hTW.block _ HD1.out.ord.lt fun e => n3 e.symm) fun b hx => hTW.block b (HD1.out.ord.lt2 b hx) (n5 b hx).2.1
   ·rw [hear_er]; exact HD1.out.ers.keep fun b hx => hTW.block b (HD1.out.ers.lt b hx).2 (n4 b hx).2.1
  have HEND := Lib.hid hend
  have HRG := Lib.hid hrg
  clear hend hrg HHE HKP HR1 HW1 m0 m1 m2 k3
  cases nb with
  | false =>
   have hno : ¬ (Mb.may ⟨n, s, i⟩ ∧ newsT d.tab ⟨n, s, i⟩ = true ∧ n ≠ d.self ∧ s = 2) := fun hh => by
    have := HNB.out
    rw [decide_eq_true hh.1, hh.2.1] at this
    cases this
   have HNO := Lib.hid hno
   clear hno
   go_wp2_with fail
   go_big_quiet (fail)
   go_wp2_with fail
   go_end0
   exact ⟨rfl, HEND.out _ rfl rfl rfl rfl HNO.out⟩
  | true =>
   have hmn : Mb.may ⟨n, s, i⟩ ∧ newsT d.tab ⟨n, s, i⟩ = true := by
    have := HNB.out
    rw [Bool.and_eq_true] at this
    exact ⟨of_decide_eq_true this.1, this.2⟩
   obtain ⟨k, rfl⟩ : ∃ k : Nat, n = (k : Int) := ⟨n.toNat, by have := hmn.1.1; dsimp only at this; omega⟩
   have hk8 : k < 8 := by have := hmn.1.2.1; dsimp only at this; omega
   have HMN := Lib.hid hmn
   clear hmn
   by_cases e1 : (k : Int) = d.self
   ·have f1 : ((k : Int) != d.self) = false := by simpa using e1
    have HNO : Hid (¬ (Mb.may ⟨(k : Int), s, i⟩ ∧ newsT d.tab ⟨(k : Int), s, i⟩ = true ∧ (k : Int) ≠ d.self ∧ s = 2)) := fun hh => hh.2.2.1 e1
    clear e1
    go_wp2_with fail
    go_big_quiet (fail)
    go_wp2_with fail
    go_end0
    exact ⟨rfl, HEND.out _ rfl rfl rfl rfl HNO.out⟩
   ·have f1 : ((k : Int) != d.self) = true := by simpa using e1
    by_cases e2 : s = 2
    ·subst e2
     have zz : wc.frozen? ⟨R.g, 12 + k, none⟩ = false := by have := HRG.out; simp [World.frozen?, this]
     have jk : ∃ v, wc.cell? ⟨R.g, 12 + k, none⟩ = some v := by
      rw [cell_of_row wc R.g (12 + k) _ _ _ HRG.out]
      rcases (show k = 0 ∨ k = 1 ∨ k = 2 ∨ k = 3 ∨ k = 4 ∨ k = 5 ∨ k = 6 ∨ k = 7 by omega) with rfl | rfl | rfl | rfl | rfl | rfl | rfl | rfl <;> exact ⟨_, rfl⟩
     obtain ⟨vk, jk⟩ := jk
     have hkz : (k : Int) < 8 := by omega
     have hkz0 : ¬ (k : Int) < 0 := by omega
     have hfin : ∀ W : World, W.heap = (wc.setCell ⟨R.g, 12 + k, none⟩ (.int .i64 d.clock)).heap → W.os = wc.os → W.tape = wc.tape → W.output = wc.output → ∃ f, RAt W { R with sn := f } (d.hear ⟨(k : Int), 2, i⟩) ∧ Touch (fun k => k = R.g ∨ k = R.gt) w W := fun W h1 h2 h3 h4 => by
      have hTW : Touch (fun k => k = R.g ∨ k = R.gt) w1 W := ⟨h2.trans HTO.out.os, h3.trans HTO.out.tape, h4.trans HTO.out.output, by rw [h1]; have := HTO.out.size; simpa [World.setCell] using this, fun q hq hL => by
       rw [h1]
       exact (Below.heap_setCell wc ⟨R.g, 12 + k, none⟩ _ q (fun e => hL (.inl e))).trans (HTO.out.block q hq fun e => hL (.inr e))⟩
      refine ⟨fun q => if q = k then d.clock else R.sn q, ⟨?_, ?_, ?_, ?_, HD1.out.nod, ropen_new HD1.out.opn HMN.out.1 HMN.out.2 e1⟩, (Touch.of_below (L := fun k => k = R.g ∨ k = R.gt) HB1.out (Nat.le_refl _)).trans hTW fun _ _ h => h⟩
      ·show W.heap[R.g]? = some (.cells (rcells { R with sn := fun q => if q = k then d.clock else R.sn q } (d.hear ⟨(k : Int), 2, i⟩)) _)
       rw [rcells_hear, h1, ← rcells_sn R d hk8]
       exact heap_cellSame _ _ _ _ _ _ HRG.out
      ·rw [hear_self, hear_tab]; exact HTC.out.keep (by rw [h1]; exact Below.heap_setCell wc ⟨R.g, 12 + k, none⟩ _ _ fun e => n1 e.symm)
      ·rw [hear_s, hear_ws]; exact HD1.out.ord.keep (hTW.block _ HD1.out.ord.lt fun e => e.elim (fun e => n2 e.symm) fun e => n3 e.symm) fun b hx => hTW.block b (HD1.out.ord.lt2 b hx) fun e => e.elim (n5 b hx).1 (n5 b hx).2.1
      ·rw [hear_er]; exact HD1.out.ers.keep fun b hx => hTW.block b (HD1.out.ers.lt b hx).2 fun e => e.elim (n4 b hx).1 (n4 b hx).2.1
     have HFIN := Lib.hid hfin
     clear hfin e1
     go_wp2_with fail
     go_big_quiet (fail)
     go_wp2_with fail
     go_region_law (fail)
     all_goals
      go_wp2_with fail
      go_end0
      exact ⟨rfl, HFIN.out _ rfl rfl rfl rfl⟩
    ·have f2 : (s == 2) = false := by simpa using e2
     have HNO : Hid (¬ (Mb.may ⟨(k : Int), s, i⟩ ∧ newsT d.tab ⟨(k : Int), s, i⟩ = true ∧ (k : Int) ≠ d.self ∧ s = 2)) := fun hh => e2 hh.2.2.2
     clear e1 e2
     go_wp2_with fail
     go_big_quiet (fail)
     go_wp2_with fail
     go_end0
     exact ⟨rfl, HEND.out _ rfl rfl rfl rfl HNO.out⟩
end Go.Proofs.YtejihgfigclppaaGreat
namespace Go.Proofs.YtejihgfigclppaaGreat
open Go.Shelf Go.RowKit Go.Lib Go.Sort
set_option linter.unusedVariables false
set_option linter.unusedSimpArgs false
set_option maxRecDepth 100000 in
set_option maxHeartbeats 8000000 in
theorem rsend_any (R : RM) (d : Det) (kind to_ seq node : Int) (w : World) (hok : DetOk d) (h : RAt w R d) :
  Calls Tryz.prog 65 #[.pointer (some ⟨R.g, 0, none⟩), .int .i64 kind, .int .i64 to_, .int .i64 seq, .int .i64 node] w fun e w' => ∃ o c, e = .returned (sentV (d.send kind to_ seq node) o c) ∧ Owns Mb.cells 3 w.heap.size 45 w' (.slice o (allT d.tab).length c) (allT d.tab) ∧ Below w.heap.size w w' := by
 obtain ⟨w1, hw1⟩ : ∃ w1, w.alloc (.cells #[.int .i64 0, .int .i64 0, .int .i64 0, .int .i64 0, .int .i64 0, .int .i64 0, .int .i64 0, .int .i64 0, .int .i64 0, .int .i64 0, .int .i64 0, .int .i64 0, .int .i64 0, .slice none 0 0, .slice none 0 0, .slice none 0 0] 42) = w1 := ⟨_, rfl⟩
 have hb1 : Below w.heap.size w w1 := by rw [← hw1]; exact (Below.refl _ _).alloc (Nat.le_refl _) _
 have hr1 : w1.heap[w.heap.size]? = some (.cells #[.int .i64 0, .int .i64 0, .int .i64 0, .int .i64 0, .int .i64 0, .int .i64 0, .int .i64 0, .int .i64 0, .int .i64 0, .int .i64 0, .int .i64 0, .int .i64 0, .int .i64 0, .slice none 0 0, .slice none 0 0, .slice none 0 0] 42) := by rw [← hw1]; exact heap_alloc_new w _
 have hsz1 : w1.heap.size = w.heap.size + 1 := by rw [← hw1]; exact World.size_alloc _ _
 have hD1 := h.below hb1
 have hgl := hD1.lt
 have hng : R.g ≠ w.heap.size := Nat.ne_of_lt h.lt
 have k0 : w1.cell? ⟨R.gt, 0, none⟩ = some (.int .i64 d.self) := hD1.tab.self
 have k3 : w1.cell? ⟨R.g, 3, none⟩ = some (.pointer (some ⟨R.gt, 0, none⟩)) := hD1.cell 3
 have hall := fun W h => rall_any R.gt d.self d.tab hok.tab W h
 have hgtl := hD1.tab.lt
 have HT1 := Lib.hid hD1.tab
 have hs : d.send kind to_ seq node = ⟨kind, d.self, to_, seq, node, allT d.tab⟩ := rfl
 rw [hs]
 generalize hms : allT d.tab = ms at *
 have HALL := Lib.hid hall
 have HW1 := Lib.hid hw1
 have HB1 := Lib.hid hb1
 have HR1 := Lib.hid hr1
 have hp : Tryz.prog.follows .mixedOrders = true := by kernel_rfl
 clear hall hw1 hb1 hr1 hD1 h hms hs
 unfold sentV
 dsimp only
 go_enter Tryz.func65, Tryz.ntmps65
 go_wp2_with fail
 rw [HW1.out]
 go_cut [10] (fun s10 wx => ∃ o c, s10 = .pointer (some ⟨w.heap.size, 0, none⟩) ∧ Hid (wx.heap[w.heap.size]? = some (.cells #[.int .i64 kind, .int .i64 d.self, .int .i64 to_, .int .i64 seq, .int .i64 node, .int .i64 0, .int .i64 0, .int .i64 0, .int .i64 0, .int .i64 0, .int .i64 0, .int .i64 0, .int .i64 0, .slice none 0 0, .slice none 0 0, .slice o ms.length c] 42)) ∧ Hid (Owns Mb.cells 3 w.heap.size 45 wx (.slice o ms.length c) ms) ∧ Hid (Below w.heap.size w wx))
 case first =>
  refine tell_region_last (by kernel_rfl) [(11, fun v _ => v = .int .i64 kind), (12, fun v _ => v = .pointer (some ⟨R.g, 0, none⟩)), (13, fun v _ => v = .pointer (some ⟨R.g, 0, none⟩)), (14, fun v _ => v = .pointer (some ⟨R.g, 3, none⟩)), (15, fun v _ => v = .pointer (some ⟨R.gt, 0, none⟩)), (16, fun v _ => v = .pointer (some ⟨R.gt, 0, none⟩)), (17, fun v _ => v = .pointer (some ⟨R.gt, 0, none⟩)), (18, fun v _ => v = .int .i64 d.self), (19, fun v _ => v = .int .i64 to_), (20, fun v _ => v = .int .i64 seq), (21, fun v _ => v = .int .i64 node), (22, fun v _ => v = .pointer (some ⟨R.g, 0, none⟩)), (23, fun v _ => v = .pointer (some ⟨R.g, 0, none⟩)), (24, fun v _ => v = .pointer (some ⟨R.g, 3, none⟩)), (25, fun v _ => v = .pointer (some ⟨R.gt, 0, none⟩)), (26, fun v W => ∃ o c, v = .slice o ms.length c ∧ Owns Mb.cells 3 (w.heap.size + 1) 45 W (.slice o ms.length c) ms), (27, fun v W => ∃ o c, v = .agg #[.int .i64 kind, .int .i64 d.self, .int .i64 to_, .int .i64 seq, .int .i64 node, .int .i64 0, .int .i64 0, .int .i64 0, .int .i64 0, .int .i64 0, .int .i64 0, .int .i64 0, .int .i64 0, .slice none 0 0, .slice none 0 0, .slice o ms.length c] ∧ Owns Mb.cells 3 (w.heap.size + 1) 45 W (.slice o ms.length c) ms)] 17 rfl rfl (by show ([11, 12, 13, 14, 15, 16, 17, 18, 19, 20, 21, 22, 23, 24, 25, 26, 27] : List Nat).Nodup; decide) (by show ∀ d ∈ ([11, 12, 13, 14, 15, 16, 17, 18, 19, 20, 21, 22, 23, 24, 25, 26, 27] : List Nat), d < 28; decide) (by kernel_rfl) ?hmono ?hstep ?hall ?hend
  case hmono =>
   intro p hp
   simp only [List.mem_cons, List.not_mem_nil, or_false] at hp
   rcases hp with rfl | rfl | rfl | rfl | rfl | rfl | rfl | rfl | rfl | rfl | rfl | rfl | rfl | rfl | rfl | rfl | rfl
   ·exact lasts_pure _
   ·exact lasts_pure _
   ·exact lasts_pure _
   ·exact lasts_pure _
   ·exact lasts_pure _
   ·exact lasts_pure _
   ·exact lasts_pure _
   ·exact lasts_pure _
   ·exact lasts_pure _
   ·exact lasts_pure _
   ·exact lasts_pure _
   ·exact lasts_pure _
   ·exact lasts_pure _
   ·exact lasts_pure _
   ·exact lasts_pure _
   ·intro v W W' hb hh
    obtain ⟨o, c, h1, h2⟩ := hh
    exact ⟨o, c, h1, h2.below hb (Nat.le_refl _)⟩
   ·intro v W W' hb hh
    obtain ⟨o, c, h1, h2⟩ := hh
    exact ⟨o, c, h1, h2.below hb (Nat.le_refl _)⟩
  case hstep =>
   intro i hi r w' hag hbel hn
   have hi2 : i < 17 := hi
   rcases (show i = 0 ∨ i = 1 ∨ i = 2 ∨ i = 3 ∨ i = 4 ∨ i = 5 ∨ i = 6 ∨ i = 7 ∨ i = 8 ∨ i = 9 ∨ i = 10 ∨ i = 11 ∨ i = 12 ∨ i = 13 ∨ i = 14 ∨ i = 15 ∨ i = 16 by omega) with rfl | rfl | rfl | rfl | rfl | rfl | rfl | rfl | rfl | rfl | rfl | rfl | rfl | rfl | rfl | rfl | rfl
   ·skip
    have e1 : r.eval (.tmp 1) = .int .i64 kind := (hag.out 1 (by simp)).trans rfl
    exact leaves_val rfl rfl rfl (v := .int .i64 kind) (by generalize r.eval = ρ at e1 ⊢; go_simp) (Below.refl _ _) rfl
   ·skip
    have e0 : r.eval (.tmp 0) = .pointer (some ⟨R.g, 0, none⟩) := (hag.out 0 (by simp)).trans rfl
    exact leaves_val rfl rfl rfl (v := .pointer (some ⟨R.g, 0, none⟩)) (by generalize r.eval = ρ at e0 ⊢; go_simp) (Below.refl _ _) rfl
   ·skip
    have e12 : r.eval (.tmp 12) = .pointer (some ⟨R.g, 0, none⟩) := hn 1 (by simp) ⟨_, rfl, ⟨1, .data⟩, by simp, rfl, rfl⟩
    exact leaves_val rfl rfl rfl (v := .pointer (some ⟨R.g, 0, none⟩)) (by generalize r.eval = ρ at e12 ⊢; go_simp) (Below.refl _ _) rfl
   ·skip
    have e13 : r.eval (.tmp 13) = .pointer (some ⟨R.g, 0, none⟩) := hn 2 (by simp) ⟨_, rfl, ⟨2, .data⟩, by simp, rfl, rfl⟩
    exact leaves_val rfl rfl rfl (v := .pointer (some ⟨R.g, 3, none⟩)) (by generalize r.eval = ρ at e13 ⊢; go_simp) (Below.refl _ _) rfl
   ·skip
    have e14 : r.eval (.tmp 14) = .pointer (some ⟨R.g, 3, none⟩) := hn 3 (by simp) ⟨_, rfl, ⟨3, .data⟩, by simp, rfl, rfl⟩
    have c3 : w'.cell? ⟨R.g, 3, none⟩ = some (.pointer (some ⟨R.gt, 0, none⟩)) := (hbel.cell (p := ⟨R.g, 3, none⟩) hgl).trans k3
    exact leaves_val rfl rfl rfl (v := .pointer (some ⟨R.gt, 0, none⟩)) (by generalize r.eval = ρ at e14 ⊢; go_simp) (Below.refl _ _) rfl
   ·skip
    have e15 : r.eval (.tmp 15) = .pointer (some ⟨R.gt, 0, none⟩) := hn 4 (by simp) ⟨_, rfl, ⟨4, .data⟩, by simp, rfl, rfl⟩
    exact leaves_val rfl rfl rfl (v := .pointer (some ⟨R.gt, 0, none⟩)) (by generalize r.eval = ρ at e15 ⊢; go_simp) (Below.refl _ _) rfl
   ·skip
    have e16 : r.eval (.tmp 16) = .pointer (some ⟨R.gt, 0, none⟩) := hn 5 (by simp) ⟨_, rfl, ⟨5, .data⟩, by simp, rfl, rfl⟩
    exact leaves_val rfl rfl rfl (v := .pointer (some ⟨R.gt, 0, none⟩)) (by generalize r.eval = ρ at e16 ⊢; go_simp) (Below.refl _ _) rfl
   ·skip
    have e17 : r.eval (.tmp 17) = .pointer (some ⟨R.gt, 0, none⟩) := hn 6 (by simp) ⟨_, rfl, ⟨6, .data⟩, by simp, rfl, rfl⟩
    have c0 : w'.cell? ⟨R.gt, 0, none⟩ = some (.int .i64 d.self) := (hbel.cell (p := ⟨R.gt, 0, none⟩) hgtl).trans k0
    exact leaves_val rfl rfl rfl (v := .int .i64 d.self) (by generalize r.eval = ρ at e17 ⊢; go_simp) (Below.refl _ _) rfl
   ·skip
    have e2 : r.eval (.tmp 2) = .int .i64 to_ := (hag.out 2 (by simp)).trans rfl
    exact leaves_val rfl rfl rfl (v := .int .i64 to_) (by generalize r.eval = ρ at e2 ⊢; go_simp) (Below.refl _ _) rfl
   ·skip
    have e3 : r.eval (.tmp 3) = .int .i64 seq := (hag.out 3 (by simp)).trans rfl
    exact leaves_val rfl rfl rfl (v := .int .i64 seq) (by generalize r.eval = ρ at e3 ⊢; go_simp) (Below.refl _ _) rfl
   ·skip
    have e4 : r.eval (.tmp 4) = .int .i64 node := (hag.out 4 (by simp)).trans rfl
    exact leaves_val rfl rfl rfl (v := .int .i64 node) (by generalize r.eval = ρ at e4 ⊢; go_simp) (Below.refl _ _) rfl
   ·skip
    have e0 : r.eval (.tmp 0) = .pointer (some ⟨R.g, 0, none⟩) := (hag.out 0 (by simp)).trans rfl
    exact leaves_val rfl rfl rfl (v := .pointer (some ⟨R.g, 0, none⟩)) (by generalize r.eval = ρ at e0 ⊢; go_simp) (Below.refl _ _) rfl
   ·skip
    have e22 : r.eval (.tmp 22) = .pointer (some ⟨R.g, 0, none⟩) := hn 11 (by simp) ⟨_, rfl, ⟨11, .data⟩, by simp, rfl, rfl⟩
    exact leaves_val rfl rfl rfl (v := .pointer (some ⟨R.g, 0, none⟩)) (by generalize r.eval = ρ at e22 ⊢; go_simp) (Below.refl _ _) rfl
   ·skip
    have e23 : r.eval (.tmp 23) = .pointer (some ⟨R.g, 0, none⟩) := hn 12 (by simp) ⟨_, rfl, ⟨12, .data⟩, by simp, rfl, rfl⟩
    exact leaves_val rfl rfl rfl (v := .pointer (some ⟨R.g, 3, none⟩)) (by generalize r.eval = ρ at e23 ⊢; go_simp) (Below.refl _ _) rfl
   ·skip
    have e24 : r.eval (.tmp 24) = .pointer (some ⟨R.g, 3, none⟩) := hn 13 (by simp) ⟨_, rfl, ⟨13, .data⟩, by simp, rfl, rfl⟩
    have c3 : w'.cell? ⟨R.g, 3, none⟩ = some (.pointer (some ⟨R.gt, 0, none⟩)) := (hbel.cell (p := ⟨R.g, 3, none⟩) hgl).trans k3
    exact leaves_val rfl rfl rfl (v := .pointer (some ⟨R.gt, 0, none⟩)) (by generalize r.eval = ρ at e24 ⊢; go_simp) (Below.refl _ _) rfl
   ·skip
    have e25 : r.eval (.tmp 25) = .pointer (some ⟨R.gt, 0, none⟩) := hn 14 (by simp) ⟨_, rfl, ⟨14, .data⟩, by simp, rfl, rfl⟩
    have e25 : r.eval (.tmp 25) = .pointer (some ⟨R.gt, 0, none⟩) := hn 14 (by simp) ⟨_, rfl, ⟨14, .data⟩, by simp, rfl, rfl⟩
    refine leaves_call (f := 33) (args := #[.pointer (some ⟨R.gt, 0, none⟩)]) rfl rfl rfl (by have ef : r.eval (.func 33) = .func (.func 33) #[] #[] := rfl; generalize r.eval = ρ at ef e25 ⊢; go_simp) (HALL.out w' (HT1.out.keep (hbel.block _ hgtl))) ?_
    rintro e2 w2 ⟨o, c, rfl, ho, hb⟩
    exact ⟨_, rfl, hb, o, c, rfl, ho.lower (by have := hbel.size; omega)⟩
   ·skip
    have e11 : r.eval (.tmp 11) = .int .i64 kind := hn 0 (by simp) ⟨_, rfl, ⟨0, .data⟩, by simp, rfl, rfl⟩
    have e18 : r.eval (.tmp 18) = .int .i64 d.self := hn 7 (by simp) ⟨_, rfl, ⟨7, .data⟩, by simp, rfl, rfl⟩
    have e19 : r.eval (.tmp 19) = .int .i64 to_ := hn 8 (by simp) ⟨_, rfl, ⟨8, .data⟩, by simp, rfl, rfl⟩
    have e20 : r.eval (.tmp 20) = .int .i64 seq := hn 9 (by simp) ⟨_, rfl, ⟨9, .data⟩, by simp, rfl, rfl⟩
    have e21 : r.eval (.tmp 21) = .int .i64 node := hn 10 (by simp) ⟨_, rfl, ⟨10, .data⟩, by simp, rfl, rfl⟩
    have e11 : r.eval (.tmp 11) = .int .i64 kind := hn 0 (by simp) ⟨_, rfl, ⟨0, .data⟩, by simp, rfl, rfl⟩
    have e18 : r.eval (.tmp 18) = .int .i64 d.self := hn 7 (by simp) ⟨_, rfl, ⟨7, .data⟩, by simp, rfl, rfl⟩
    have e19 : r.eval (.tmp 19) = .int .i64 to_ := hn 8 (by simp) ⟨_, rfl, ⟨8, .data⟩, by simp, rfl, rfl⟩
    have e20 : r.eval (.tmp 20) = .int .i64 seq := hn 9 (by simp) ⟨_, rfl, ⟨9, .data⟩, by simp, rfl, rfl⟩
    have e21 : r.eval (.tmp 21) = .int .i64 node := hn 10 (by simp) ⟨_, rfl, ⟨10, .data⟩, by simp, rfl, rfl⟩
    obtain ⟨o, c, e26, ho⟩ : ∃ o c, r.eval (.tmp 26) = .slice o ms.length c ∧ Owns Mb.cells 3 (w.heap.size + 1) 45 w' (.slice o ms.length c) ms := hn 15 (by simp) ⟨_, rfl, ⟨15, .data⟩, by simp, rfl, rfl⟩
    exact leaves_val rfl rfl rfl (v := .agg #[.int .i64 kind, .int .i64 d.self, .int .i64 to_, .int .i64 seq, .int .i64 node, .int .i64 0, .int .i64 0, .int .i64 0, .int .i64 0, .int .i64 0, .int .i64 0, .int .i64 0, .int .i64 0, .slice none 0 0, .slice none 0 0, .slice o ms.length c]) (by generalize r.eval = ρ at e11 e18 e19 e20 e21 e26 ⊢; go_simp) (Below.refl _ _) ⟨o, c, rfl, ho⟩
  case hall =>
   intro j hj
   rcases (show j = 0 ∨ j = 1 ∨ j = 2 ∨ j = 3 ∨ j = 4 ∨ j = 5 ∨ j = 6 ∨ j = 7 ∨ j = 8 ∨ j = 9 ∨ j = 10 ∨ j = 11 ∨ j = 12 ∨ j = 13 ∨ j = 14 ∨ j = 15 ∨ j = 16 by omega) with rfl | rfl | rfl | rfl | rfl | rfl | rfl | rfl | rfl | rfl | rfl | rfl | rfl | rfl | rfl | rfl | rfl
   all_goals exact ⟨_, rfl, ⟨_, .phase⟩, by simp, rfl, rfl⟩
  case hend =>
   intro r w' hag hbel hall
   obtain ⟨o, c, e27, ho⟩ : ∃ o c, r.eval (.tmp 27) = .agg #[.int .i64 kind, .int .i64 d.self, .int .i64 to_, .int .i64 seq, .int .i64 node, .int .i64 0, .int .i64 0, .int .i64 0, .int .i64 0, .int .i64 0, .int .i64 0, .int .i64 0, .int .i64 0, .slice none 0 0, .slice none 0 0, .slice o ms.length c] ∧ Owns Mb.cells 3 (w.heap.size + 1) 45 w' (.slice o ms.length c) ms := hall 16 (by simp)
   have e10 : r.eval (.tmp 10) = .pointer (some ⟨w.heap.size, 0, none⟩) := (hag.out 10 (by simp)).trans rfl
   have hr := (hbel.block w.heap.size (by omega)).trans HR1.out
   refine step_storeRow rfl rfl rfl 42 (.tmp 10) (.tmp 27) rfl w.heap.size _ _ e10 e27 hr (by kernel_rfl) rfl (by simp [Value.oneCell']) ?_
   have hfin := Ag.final _ (by show ∀ d ∈ ([11, 12, 13, 14, 15, 16, 17, 18, 19, 20, 21, 22, 23, 24, 25, 26, 27] : List Nat), d < 28; decide) hag
   simp only [List.map, List.foldl, e27] at hfin
   generalize r.eval (.tmp 11) = y11 at hfin
   generalize r.eval (.tmp 12) = y12 at hfin
   generalize r.eval (.tmp 13) = y13 at hfin
   generalize r.eval (.tmp 14) = y14 at hfin
   generalize r.eval (.tmp 15) = y15 at hfin
   generalize r.eval (.tmp 16) = y16 at hfin
   generalize r.eval (.tmp 17) = y17 at hfin
   generalize r.eval (.tmp 18) = y18 at hfin
   generalize r.eval (.tmp 19) = y19 at hfin
   generalize r.eval (.tmp 20) = y20 at hfin
   generalize r.eval (.tmp 21) = y21 at hfin
   generalize r.eval (.tmp 22) = y22 at hfin
   generalize r.eval (.tmp 23) = y23 at hfin
   generalize r.eval (.tmp 24) = y24 at hfin
   generalize r.eval (.tmp 25) = y25 at hfin
   generalize r.eval (.tmp 26) = y26 at hfin
   have hro := setRow_heap w' w.heap.size _ #[.int .i64 kind, .int .i64 d.self, .int .i64 to_, .int .i64 seq, .int .i64 node, .int .i64 0, .int .i64 0, .int .i64 0, .int .i64 0, .int .i64 0, .int .i64 0, .int .i64 0, .int .i64 0, .slice none 0 0, .slice none 0 0, .slice o ms.length c] _ _ hr
   have hHR := Lib.hid hro
   have HO2 := Lib.hid (ho.keep (w' := w'.setRow w.heap.size #[.int .i64 kind, .int .i64 d.self, .int .i64 to_, .int .i64 seq, .int .i64 node, .int .i64 0, .int .i64 0, .int .i64 0, .int .i64 0, .int .i64 0, .int .i64 0, .int .i64 0, .int .i64 0, .slice none 0 0, .slice none 0 0, .slice o ms.length c]) fun b hb => setRow_other w' w.heap.size b _ (by have := (ho.lt b hb).1; omega))
   have HBB := Lib.hid (HB1.out.trans ((hbel.mono (Nat.le_trans (Nat.le_succ _) (Nat.le_of_eq hsz1.symm))).trans (show Below w.heap.size w' (w'.setRow w.heap.size #[.int .i64 kind, .int .i64 d.self, .int .i64 to_, .int .i64 seq, .int .i64 node, .int .i64 0, .int .i64 0, .int .i64 0, .int .i64 0, .int .i64 0, .int .i64 0, .int .i64 0, .int .i64 0, .slice none 0 0, .slice none 0 0, .slice o ms.length c]) from ⟨rfl, rfl, rfl, by simp [World.setRow], fun k hk => setRow_other w' w.heap.size k _ (by omega)⟩)))
   clear hro ho hr e27 e10 hall hag hbel
   subst hfin
   generalize w'.setRow w.heap.size #[.int .i64 kind, .int .i64 d.self, .int .i64 to_, .int .i64 seq, .int .i64 node, .int .i64 0, .int .i64 0, .int .i64 0, .int .i64 0, .int .i64 0, .int .i64 0, .int .i64 0, .int .i64 0, .slice none 0 0, .slice none 0 0, .slice o ms.length c] = w9 at *
   simp only [Act.put, List.setIfInBounds_toArray, List.set_cons_succ, List.set_cons_zero]
   go_wp2_with fail
   go_meet
   exact ⟨o, c, rfl, hHR.out, HO2.out.lower (by omega), HBB.out⟩
 case rest =>
  obtain ⟨o, c, rfl, HR, HO, HB⟩ := hcut
  go_wp2_with fail
  have hL := run_loadVarAgg (t := 42) (n := 16) (by kernel_rfl) (by kernel_rfl) (load_whole HR.out rfl)
  exact bodyPost_ret (v := .agg #[.int .i64 kind, .int .i64 d.self, .int .i64 to_, .int .i64 seq, .int .i64 node, .int .i64 0, .int .i64 0, .int .i64 0, .int .i64 0, .int .i64 0, .int .i64 0, .int .i64 0, .int .i64 0, .slice none 0 0, .slice none 0 0, .slice o ms.length c]) (run_results_cell rfl rfl hL) rfl ⟨o, c, rfl, HO.out, HB.out⟩
end Go.Proofs.YtejihgfigclppaaGreat
namespace Go.Proofs.YtejihgfigclppaaGreat
open Go.Shelf Go.RowKit Go.Lib Go.Sort
set_option linter.unusedVariables false
set_option linter.unusedSimpArgs false
set_option maxRecDepth 100000 in
set_option maxHeartbeats 16000000 in
theorem rcon_any (R : RM) (d : Det) (hok : DetOk d) (w : World) (h : RAt w R d) :
  Calls Tryz.prog 68 #[.pointer (some ⟨R.g, 0, none⟩)] w fun e w' => e = .returned (.tuple #[]) ∧ ∃ f, RAt w' { R with sn := f } d.contradict ∧ Touch (fun k => k = R.g ∨ k = R.gt) w w' := by
 have hp : Tryz.prog.follows .mixedOrders = true := by kernel_rfl
 obtain ⟨⟨os, oi⟩, how⟩ := hok.own
 obtain ⟨k, hk⟩ : ∃ k : Nat, d.self = (k : Int) := ⟨d.self.toNat, by have := hok.self; omega⟩
 have hk8 : k < 8 := by have := hok.self; omega
 have hkt : d.self.toNat = k := by rw [hk]; rfl
 rw [hkt] at how
 have hrw : rWd d.tab k = ⟨(k : Int), os, oi⟩ := rWd_some how
 have hoi := (hok.tab _ _ how).2.2.2.1
 dsimp only at hoi
 obtain ⟨bb, hbb⟩ : ∃ bb, decide (d.left = true ∨ (os = 1 ∧ oi ≤ d.inc) ∨ 1099511627776 ≤ oi) = bb := ⟨_, rfl⟩
 have hcon : d.contradict = if bb = true then d else Det.hear { d with inc := oi + 1 } ⟨(k : Int), 1, oi + 1⟩ := by
  unfold Det.contradict
  rw [hkt, how, ← hbb]
  dsimp only
  by_cases e : d.left = true ∨ (os = 1 ∧ oi ≤ d.inc) ∨ 1099511627776 ≤ oi
  ·rw [if_pos e, if_pos (decide_eq_true e)]
  ·rw [if_neg e, if_neg (by rw [decide_eq_false e]; decide), hk]
 have k3 : w.cell? ⟨R.g, 3, none⟩ = some (.pointer (some ⟨R.gt, 0, none⟩)) := h.cell 3
 have k0 : w.cell? ⟨R.gt, 0, none⟩ = some (.int .i64 (k : Int)) := by rw [← hk]; exact h.tab.self
 have t0 : w.cell? ⟨R.gt, 1 + k * 3, none⟩ = some (.int .i64 (k : Int)) := by have := h.tab.c0 hk8; rw [hrw] at this; exact this
 have t1 : w.cell? ⟨R.gt, 1 + k * 3 + 1, none⟩ = some (.int .i64 os) := by have := h.tab.c1 hk8; rw [hrw] at this; exact this
 have t2 : w.cell? ⟨R.gt, 1 + k * 3 + 2, none⟩ = some (.int .i64 oi) := by have := h.tab.c2 hk8; rw [hrw] at this; exact this
 have hkz : (k : Int) < 8 := by omega
 have hkz0 : ¬ (k : Int) < 0 := by omega
 have hgl := h.lt
 have hgtl := h.tab.lt
 have hkp : ∀ W, Below w.heap.size w W → W.cell? ⟨R.g, 3, none⟩ = some (.pointer (some ⟨R.gt, 0, none⟩)) ∧ W.cell? ⟨R.gt, 0, none⟩ = some (.int .i64 (k : Int)) ∧ W.cell? ⟨R.gt, 1 + k * 3, none⟩ = some (.int .i64 (k : Int)) ∧ W.cell? ⟨R.gt, 1 + k * 3 + 1, none⟩ = some (.int .i64 os) ∧ W.cell? ⟨R.gt, 1 + k * 3 + 2, none⟩ = some (.int .i64 oi) := fun W hW =>
  ⟨(hW.cell (p := ⟨R.g, 3, none⟩) hgl).trans k3, (hW.cell (p := ⟨R.gt, 0, none⟩) hgtl).trans k0, (hW.cell (p := ⟨R.gt, 1 + k * 3, none⟩) hgtl).trans t0, (hW.cell (p := ⟨R.gt, 1 + k * 3 + 1, none⟩) hgtl).trans t1, (hW.cell (p := ⟨R.gt, 1 + k * 3 + 2, none⟩) hgtl).trans t2⟩
 have HKP := Lib.hid hkp
 have HCON := Lib.hid hcon
 have HBB := Lib.hid hbb
 have HH := Lib.hid h
 have HOK := Lib.hid hok
 have HK := Lib.hid hk
 clear hkp hcon hbb h hok hk hkt how hrw
 go_enter Tryz.func68, Tryz.ntmps68
 go_wp2_with fail
 go_cut [2] (fun s2 wx => ∃ b, s2 = .pointer (some ⟨b, 0, none⟩) ∧ w.heap.size ≤ b ∧ Hid (wx.heap[b]? = some (.cells #[.int .i64 (k : Int), .int .i64 os, .int .i64 oi] 45)) ∧ Hid (Below w.heap.size w wx))
 case first =>
  go_region_held (fun w' => w'.cell? ⟨R.g, 3, none⟩ = some (.pointer (some ⟨R.gt, 0, none⟩)) ∧ w'.cell? ⟨R.gt, 0, none⟩ = some (.int .i64 (k : Int)) ∧ w'.cell? ⟨R.gt, 1 + k * 3, none⟩ = some (.int .i64 (k : Int)) ∧ w'.cell? ⟨R.gt, 1 + k * 3 + 1, none⟩ = some (.int .i64 os) ∧ w'.cell? ⟨R.gt, 1 + k * 3 + 2, none⟩ = some (.int .i64 oi)) (first | exact ⟨k3, k0, t0, t1, t2⟩ | exact HKP.out _ (below_drew ((Below.refl _ _).alloc (Nat.le_refl _) _))) (fail)
  all_goals
   go_wp2_with fail
   go_meet
   exact ⟨w.heap.size, rfl, Nat.le_refl _, heap_alloc_new w _, below_drew ((Below.refl _ _).alloc (Nat.le_refl _) _)⟩
 case rest =>
  obtain ⟨b, rfl, hb0, HRB, HBC⟩ := hcut
  have hbl : b < wc.heap.size := (Array.getElem?_eq_some_iff.1 HRB.out).1
  have hRC := HH.out.below HBC.out
  have b1 : wc.cell? ⟨b, 1, none⟩ = some (.int .i64 os) := cell_of_row wc b 1 _ _ _ HRB.out
  have b2 : wc.cell? ⟨b, 2, none⟩ = some (.int .i64 oi) := cell_of_row wc b 2 _ _ _ HRB.out
  have j21 : wc.cell? ⟨R.g, 21, none⟩ = some (.bool d.left) := hRC.cell 21
  have j11 : wc.cell? ⟨R.g, 11, none⟩ = some (.int .i64 d.inc) := hRC.cell 11
  have HRC := Lib.hid hRC
  clear hRC HKP k3 k0 t0 t1 t2
  go_wp2_with fail
  generalize hwc : wc = wd at *
  have HWC := Lib.hid hwc
  clear hwc
  go_cut [40] (fun s40 wx => s40 = .bool bb ∧ Hid (∃ n, wx = wd.drewN n))
  case first =>
   cases hl : d.left with
   | true =>
    obtain rfl : bb = true := HBB.out.symm.trans (decide_eq_true (.inl hl))
    rw [hl] at j21
    clear hl HBB HCON
    go_wp2_with fail
    go_big_quiet (fail)
    go_wp2_with fail
    go_meet
    exact ⟨rfl, ⟨nq, rfl⟩⟩
   | false =>
    rw [hl] at j21
    by_cases e3 : 1099511627776 ≤ oi
    ·have f3 := decide_eq_true e3
     obtain rfl : bb = true := HBB.out.symm.trans (decide_eq_true (.inr (.inr e3)))
     clear hl HBB HCON
     by_cases e1 : os = 1
     ·have f1 : (os == 1) = true := by simpa using e1
      by_cases e2 : oi ≤ d.inc
      ·have f2 := decide_eq_true e2
       clear e1
       go_wp2_with fail
       go_big_quiet (fail)
       go_wp2_with fail
       go_meet
       exact ⟨rfl, ⟨nq, rfl⟩⟩
      ·have f2 := decide_eq_false e2
       clear e1
       go_wp2_with fail
       go_big_quiet (fail)
       go_wp2_with fail
       go_meet
       exact ⟨rfl, ⟨nq, rfl⟩⟩
     ·have f1 : (os == 1) = false := by simpa using e1
      clear e1
      go_wp2_with fail
      go_big_quiet (fail)
      go_wp2_with fail
      go_meet
      exact ⟨rfl, ⟨nq, rfl⟩⟩
    ·have f3 := decide_eq_false e3
     by_cases e1 : os = 1
     ·have f1 : (os == 1) = true := by simpa using e1
      by_cases e2 : oi ≤ d.inc
      ·have f2 := decide_eq_true e2
       obtain rfl : bb = true := HBB.out.symm.trans (decide_eq_true (.inr (.inl ⟨e1, e2⟩)))
       clear e1 hl HBB HCON
       go_wp2_with fail
       go_big_quiet (fail)
       go_wp2_with fail
       go_meet
       exact ⟨rfl, ⟨nq, rfl⟩⟩
      ·have f2 := decide_eq_false e2
       obtain rfl : bb = false := HBB.out.symm.trans (decide_eq_false fun h => h.elim (fun h => by rw [hl] at h; cases h) fun h => h.elim (fun h => e2 h.2) e3)
       clear e1 hl HBB HCON
       go_wp2_with fail
       go_big_quiet (fail)
       go_wp2_with fail
       go_meet
       exact ⟨rfl, ⟨nq, rfl⟩⟩
     ·have f1 : (os == 1) = false := by simpa using e1
      obtain rfl : bb = false := HBB.out.symm.trans (decide_eq_false fun h => h.elim (fun h => by rw [hl] at h; cases h) fun h => h.elim (fun h => e1 h.1) e3)
      clear e1 hl HBB HCON
      go_wp2_with fail
      go_big_quiet (fail)
      go_wp2_with fail
      go_meet
      exact ⟨rfl, ⟨nq, rfl⟩⟩
  case rest =>
   obtain ⟨rfl, HN⟩ := hcut
   obtain ⟨nq, hnq⟩ := HN.out
   have hRD : RAt wc R d := by rw [hnq]; exact HRC.out.keep fun _ _ => rfl
   have hBD : Below w.heap.size w wc := by rw [hnq]; exact HBC.out.trans ((below_drewN wd nq).mono HBC.out.size)
   have b2 : wc.cell? ⟨b, 2, none⟩ = some (.int .i64 oi) := by rw [hnq]; exact b2
   have HRD := Lib.hid hRD
   have HBD := Lib.hid hBD
   clear hRD hBD hnq HN HRC HBC HRB b1 j21 j11 hbl
   cases bb with
   | true =>
    have hr : ∃ f, RAt wc { R with sn := f } d.contradict ∧ Touch (fun k => k = R.g ∨ k = R.gt) w wc := ⟨R.sn, by rw [HCON.out]; exact HRD.out, Touch.of_below HBD.out (Nat.le_refl _)⟩
    have HR := Lib.hid hr
    clear hr HCON HBB
    go_wp2_with fail
    exact bodyPost_ret (v := .tuple #[]) (by simp [results, Tryz.results68, go_sem]) rfl ⟨rfl, HR.out⟩
   | false =>
    have hti : oi < 1099511627776 := by
     by_cases e : oi < 1099511627776
     ·exact e
     ·have := HBB.out
      rw [decide_eq_true (.inr (.inr (by omega)))] at this
      cases this
    have wk : IntKind.i64.wrap (oi + 1) = oi + 1 := by rw [IntKind.wrap_i64]; omega
    have z11 : wc.frozen? ⟨R.g, 11, none⟩ = false := HRD.out.frozen 11
    have j11 : wc.cell? ⟨R.g, 11, none⟩ = some (.int .i64 d.inc) := HRD.out.cell 11
    have hRE : RAt (wc.setCell ⟨R.g, 11, none⟩ (.int .i64 (oi + 1))) R { d with inc := oi + 1 } := HRD.out.scalar ⟨rfl, rfl, rfl, rfl, rfl⟩ ⟨rfl, rfl, rfl, rfl, rfl⟩ ⟨HRD.out.opn.pr, HRD.out.opn.sn⟩ (heap_cellSame _ _ _ _ _ _ HRD.out.obj) fun q hq => Below.heap_setCell wc ⟨R.g, 11, none⟩ _ q hq
    have hTE := (Touch.of_below (L := fun k => k = R.g ∨ k = R.gt) HBD.out (Nat.le_refl _)).trans (touch_set (fun k => k = R.g ∨ k = R.gt) wc ⟨R.g, 11, none⟩ (.int .i64 (oi + 1)) (.inl rfl)) fun _ _ h => h
    have HRE := Lib.hid hRE
    have HTE := Lib.hid hTE
    clear hRE hTE HRD HBD
    go_wp2_with fail
    generalize wc.setCell ⟨R.g, 11, none⟩ (.int .i64 (oi + 1)) = W2 at *
    have k3 : W2.cell? ⟨R.g, 3, none⟩ = some (.pointer (some ⟨R.gt, 0, none⟩)) := HRE.out.cell 3
    have k0 : W2.cell? ⟨R.gt, 0, none⟩ = some (.int .i64 (k : Int)) := by rw [← HK.out]; exact HRE.out.tab.self
    have k11 : W2.cell? ⟨R.g, 11, none⟩ = some (.int .i64 (oi + 1)) := HRE.out.cell 11
    have hhe := rdhear_any R { d with inc := oi + 1 } (HOK.out.withInc _) ⟨(k : Int), 1, oi + 1⟩ W2.drew (HRE.out.keep fun _ _ => rfl)
    have HHE := Lib.hid hhe
    clear hhe z11 j11 b2
    go_region_held (fun w' => w'.cell? ⟨R.g, 3, none⟩ = some (.pointer (some ⟨R.gt, 0, none⟩)) ∧ w'.cell? ⟨R.gt, 0, none⟩ = some (.int .i64 (k : Int)) ∧ w'.cell? ⟨R.g, 11, none⟩ = some (.int .i64 (oi + 1))) (first | exact ⟨k3, k0, k11⟩ | exact ⟨j3, j0, j11⟩) (first | (go_at_call 63; refine HHE.out.mono ?_; rintro e w7 ⟨rfl, f, hR7, hT7⟩; have j3 : w7.cell? ⟨R.g, 3, none⟩ = some (.pointer (some ⟨R.gt, 0, none⟩)) := hR7.cell 3; have j0 : w7.cell? ⟨R.gt, 0, none⟩ = some (.int .i64 (k : Int)) := hR7.tab.self.trans (by rw [hear_self]; exact congrArg (fun z => some (Value.int .i64 z)) HK.out); have j11 : w7.cell? ⟨R.g, 11, none⟩ = some (.int .i64 (oi + 1)) := (hR7.cell 11).trans (congrArg (fun z => some (Value.int .i64 z)) (hear_inc _ _))))
    all_goals
     have hr : ∃ f, RAt w7 { R with sn := f } d.contradict ∧ Touch (fun k => k = R.g ∨ k = R.gt) w w7 := ⟨f, by rw [HCON.out]; exact hR7, HTE.out.trans ⟨hT7.os, hT7.tape, hT7.output, hT7.size, hT7.block⟩ fun _ _ h => h⟩
     have HR := Lib.hid hr
     clear hr hR7 hT7 j3 j0 j11
     go_wp2_with fail
     go_end0
     exact ⟨rfl, HR.out⟩
end Go.Proofs.YtejihgfigclppaaGreat
