/-
  Is a message more than is looked at? The reference's Great.
  Steps of a detector as they are handed in: how they lie, and are they more than is looked at?
  What a detector knows of itself, plainly, and that what it sends is right. No program in sight.
  What a detector knows of itself through any steps, plainly. No program in sight.
  The law's Node made.
-/
import Derived.Test.YtejihgfigclppaaGreatMBookP
import Derived.Test.YtejihgfigclppaaGreatRef07
import Derived.Test.YtejihgfigclppaaGreatMLaw20b
namespace Go.Proofs.YtejihgfigclppaaGreat
open Go.Shelf Go.RowKit Go.Lib Go.Sort
set_option linter.unusedVariables false
set_option linter.unusedSimpArgs false
def Msg.great (m : Msg) : Prop := 1000 < m.more.length ∨ 1000 < m.ms.length ∨ 3000 < bulk (m.evs.map (·.2))
instance (m : Msg) : Decidable m.great := by unfold Msg.great; infer_instance
theorem Msg.small_of {m : Msg} (h : ¬ m.great) : m.small := by
 unfold Msg.great at h
 have hb : bulk (m.evs.map (·.2)) ≤ 3000 := by omega
 have hl := bulk_len (m.evs.map (·.2))
 rw [List.length_map] at hl
 exact ⟨by omega, by omega, by omega, fun p hp => Nat.le_trans (bulk_mem _ _ (List.mem_map.2 ⟨p, hp, rfl⟩)) hb⟩
structure Msg.fits (m : Msg) : Prop where
 more : m.more.length ≤ 8796093022208
 ms : m.ms.length ≤ 8796093022208
 evs : m.evs.length ≤ 1099511627776
 rems : ∀ p ∈ m.evs, p.2.rem.length ≤ 8796093022208
set_option maxHeartbeats 4000000 in
theorem great17_any (m : Msg) (w : World) (h : MsgIn w m) (hf : m.fits) : Calls Tryz.prog 52 #[.agg m.cells.toArray] w fun e w' => e = .returned (.bool (decide m.great)) ∧ Below w.heap.size w w' := by
 obtain ⟨kind, frm, to_, seq, node, u, more, evs, ms, ⟨ma, mn, mc⟩, ⟨ea, en, ec⟩, ⟨sa, sn, sc⟩⟩ := m
 obtain ⟨h1, h2, h3⟩ := h
 obtain ⟨f1, f2, f3, f4⟩ := hf
 simp only [Hdr.val] at h1 h2 h3
 obtain rfl : mn = more.length := by obtain ⟨_, _, hv, _⟩ := h1.slice_of; simp only [Value.slice.injEq] at hv; exact hv.2.1
 obtain rfl : sn = ms.length := by obtain ⟨_, _, hv, _⟩ := h3.slice_of; simp only [Value.slice.injEq] at hv; exact hv.2.1
 obtain rfl : en = evs.length := by obtain ⟨_, _, hv, _⟩ := h2.1.slice_of; simp only [Value.slice.injEq] at hv; exact hv.2.1
 show Calls Tryz.prog 52 #[.agg #[.int .i64 kind, .int .i64 frm, .int .i64 to_, .int .i64 seq, .int .i64 node, .int .i64 (u 0), .int .i64 (u 1), .int .i64 (u 2), .int .i64 (u 3), .int .i64 (u 4), .int .i64 (u 5), .int .i64 (u 6), .int .i64 (u 7), .slice ma more.length mc, .slice ea evs.length ec, .slice sa ms.length sc]] w _
 have hb : Below w.heap.size w (w.alloc (.cells #[.int .i64 kind, .int .i64 frm, .int .i64 to_, .int .i64 seq, .int .i64 node, .int .i64 (u 0), .int .i64 (u 1), .int .i64 (u 2), .int .i64 (u 3), .int .i64 (u 4), .int .i64 (u 5), .int .i64 (u 6), .int .i64 (u 7), .slice ma more.length mc, .slice ea evs.length ec, .slice sa ms.length sc] 42)) := (Below.refl _ _).alloc (Nat.le_refl _) _
 have hgr := great_any ea ec evs _ (h2.below hb (Nat.le_refl _)) f3 f4
 have HGR := Lib.hid hgr
 have HB := Lib.hid hb
 have e0 : decide (Msg.great ⟨kind, frm, to_, seq, node, u, more, evs, ms, ⟨ma, more.length, mc⟩, ⟨ea, evs.length, ec⟩, ⟨sa, ms.length, sc⟩⟩) = (decide ((1000 : Int) < (more.length : Int)) || (decide ((1000 : Int) < (ms.length : Int)) || decide (3000 < bulk (evs.map (·.2))))) := by
  unfold Msg.great
  by_cases a : 1000 < more.length
  ·have : (1000 : Int) < (more.length : Int) := by omega
   simp [a, this]
  ·have a' : ¬ (1000 : Int) < (more.length : Int) := by omega
   by_cases b : 1000 < ms.length
   ·have : (1000 : Int) < (ms.length : Int) := by omega
    simp [a, b, this]
   ·have b' : ¬ (1000 : Int) < (ms.length : Int) := by omega
    simp [a, b, a', b']
 rw [e0]
 clear e0 h1 h2 h3 f1 f2 f3 f4 hgr hb
 generalize decide (3000 < bulk (evs.map (·.2))) = bb at *
 by_cases hmore : (1000 : Int) < (more.length : Int)
 ·rw [decide_eq_true hmore]
  go_enter Tryz.func52, Tryz.ntmps52
  go_wp2_with fail
  go_ret
  exact ⟨rfl, HB.out⟩
 ·by_cases hms : (1000 : Int) < (ms.length : Int)
  ·rw [decide_eq_false hmore, decide_eq_true hms]
   go_enter Tryz.func52, Tryz.ntmps52
   go_wp2_with fail
   go_ret
   exact ⟨rfl, HB.out⟩
  ·rw [decide_eq_false hmore, decide_eq_false hms]
   go_enter Tryz.func52, Tryz.ntmps52
   go_wp2_with fail
   refine HGR.out.mono ?_
   rintro e w' ⟨rfl, hb'⟩
   have HB' := Lib.hid (HB.out.trans (hb'.mono HB.out.size))
   clear hb' HGR HB
   go_wp2_with fail
   go_ret
   exact ⟨by simp, HB'.out⟩
end Go.Proofs.YtejihgfigclppaaGreat
namespace Go.Proofs.YtejihgfigclppaaGreat
open Go.Shelf Go.RowKit Go.Lib Go.Sort
set_option linter.unusedVariables false
set_option linter.unusedSimpArgs false
structure SOp where
 kind : Int
 m : Msg
def SOp.cells (o : SOp) : List Value := .int .i64 o.kind :: o.m.cells
theorem SOp.cells_len (o : SOp) : o.cells.length = 17 := rfl
structure SOpsAt (w : World) (v : Value) (l : List SOp) : Prop where
 row : SlAt SOp.cells w v l
 ms : ∀ o ∈ l, MsgIn w o.m
theorem SOpsAt.below {w w' : World} {v : Value} {l : List SOp} {B : Nat} (h : SOpsAt w v l) (hb : Below B w w') (hB : w.heap.size ≤ B) : SOpsAt w' v l := ⟨h.row.below SOp.cells_len (by decide) hb hB, fun o ho => (h.ms o ho).below hb hB⟩
theorem sop_load {w : World} {g off n cap : Nat} {l : List SOp} (hs : SlAt SOp.cells w (.slice (some ⟨g, off, none⟩) n cap) l) {i : Nat} (hi : i < l.length) : Sem.run Tryz.prog (loadCellsFrom ⟨g, off + i * 17, none⟩ 0 17 #[]) w = .ok (l[i].cells).toArray w := by
 refine run_loadCellsFrom_list Tryz.prog w ⟨g, off + i * 17, none⟩ (l[i].cells) 17 (SOp.cells_len _) fun j v hv => ?_
 rw [Addr.add_lit]
 have hj : j < 17 := by have := (List.getElem?_eq_some_iff.1 hv).1; rwa [SOp.cells_len] at this
 have := hs.cell SOp.cells_len (i := i) (c := j) hi hj
 rw [show off + i * 17 + j = off + (i * 17 + j) by omega, this, hv]
theorem sopMsg_load {w : World} {g : Nat} {o : SOp} (h : w.heap[g]? = some (.cells o.cells.toArray 62)) : Sem.run Tryz.prog (loadCellsFrom ⟨g, 1, none⟩ 0 16 #[]) w = .ok o.m.cells.toArray w := by
 refine run_loadCellsFrom_list Tryz.prog w ⟨g, 1, none⟩ o.m.cells 16 (Msg.cells_len _) fun j v hv => ?_
 rw [Addr.add_lit, cell_of_row w g _ _ _ _ h, List.getElem?_toArray, show 1 + j = j + 1 by omega]
 exact hv
def greatOps (l : List SOp) : Prop := (∃ o ∈ l, o.m.great) ∨ 200 < l.length
def GreatSays (l : List SOp) (e : Ending) : Prop := e = .returned (.bool true) ∨ (e = .returned (.bool false) ∧ ¬ greatOps l)
set_option maxRecDepth 100000 in
set_option maxHeartbeats 8000000 in
theorem great20_any (oa : Option Addr) (cap : Nat) (l : List SOp) (w : World) (h : SOpsAt w (.slice oa l.length cap) l) (hl : l.length ≤ 1099511627776) (hf : ∀ o ∈ l, o.m.fits) :
  Calls Tryz.prog 18 #[.slice oa l.length cap] w fun e w' => GreatSays l e ∧ Below w.heap.size w w' := by
 have HE := Lib.hid h
 have HF := Lib.hid hf
 clear h hf
 go_enter Tryz.func18, Tryz.ntmps18
 go_wp2_with fail
 go_loopg [4, 7] l.length (fun gk s4 s7 wr => ∃ (i : Nat), s7 = .int .i64 i ∧ i ≤ l.length ∧ l.length - i ≤ gk ∧ Hid (∀ o ∈ l.take i, ¬ o.m.great) ∧ Hid (Below w.heap.size w wr))
 case atStart => exact ⟨0, rfl, Nat.zero_le _, Nat.le_refl _, (by rw [List.take_zero]; intro o ho; cases ho), Below.refl _ _⟩
 case round =>
  obtain ⟨i, rfl, hi, hgk, HNO, HB⟩ := hrel
  by_cases hlt : i < l.length
  ·have hltz : (i : Int) < (l.length : Int) := by omega
   have hsr := HE.out.below HB.out (Nat.le_refl _)
   have hsl := hsr.row
   obtain ⟨bo, off, hbo⟩ := hsl.plain SOp.cells_len (by decide) (by intro e; rw [e] at hlt; exact absurd hlt (by simp))
   subst hbo
   have hld := sop_load hsl hlt
   have hmem : l[i] ∈ l := List.getElem_mem hlt
   have hmi := hsr.ms _ hmem
   have hfi := HF.out _ hmem
   have htk : l.take (i + 1) = l.take i ++ [l[i]] := List.take_succ_eq_append_getElem hlt
   have HTK := Lib.hid htk
   generalize l[i] = o at *
   clear htk hmem hsl hsr
   obtain ⟨kind, m⟩ := o
   have hr := heap_alloc_new wr (.cells (SOp.cells ⟨kind, m⟩).toArray 62)
   have hml := sopMsg_load hr
   have hb1 : Below wr.heap.size wr (wr.alloc (.cells (SOp.cells ⟨kind, m⟩).toArray 62)) := (Below.refl _ _).alloc (Nat.le_refl _) _
   have hgr := great17_any m _ (hmi.below hb1 (Nat.le_refl _)) hfi
   have HB1 := Lib.hid (HB.out.trans (hb1.mono HB.out.size))
   clear hr hb1 hmi hfi
   obtain ⟨mk, frm, to_, seq, node, u, more, evs, ms, ⟨ma, mn, mc⟩, ⟨ea, en, ec⟩, ⟨sa, sn, sc⟩⟩ := m
   dsimp only [SOp.cells, Msg.cells, Hdr.val] at hld hml hgr HB1
   have HLD := Lib.hid hld
   have HML := Lib.hid hml
   have HGR := Lib.hid hgr
   clear hld hml hgr
   go_wp2_with (first | (refine wpList_loadAgg _ rfl 62 _ rfl 17 (by kernel_rfl) (by kernel_rfl) ⟨bo, off + i * 17, none⟩ rfl _ HLD.out ?_) | (refine wpList_loadAgg _ rfl 42 _ rfl 16 (by kernel_rfl) (by kernel_rfl) ⟨wr.heap.size, 1, none⟩ rfl _ HML.out ?_))
   refine HGR.out.mono ?_
   rintro e w5 ⟨rfl, hb5⟩
   have HB5 := Lib.hid (HB1.out.trans (hb5.mono HB1.out.size))
   clear hb5 HGR HB1 HML HLD
   by_cases hbig : Msg.great ⟨mk, frm, to_, seq, node, u, more, evs, ms, ⟨ma, mn, mc⟩, ⟨ea, en, ec⟩, ⟨sa, sn, sc⟩⟩
   ·rw [decide_eq_true hbig]
    clear hbig
    go_wp2_with fail
    go_ret
    exact ⟨.inl rfl, HB5.out⟩
   ·rw [decide_eq_false hbig]
    have HBG := Lib.hid hbig
    clear hbig
    go_wp2_with fail
    go_roundg (l.length - (i + 1))
    case measure => omega
    case rel => exact ⟨i + 1, by go_num, by omega, Nat.le_refl _, (by
     rw [HTK.out]
     intro o ho
     rcases List.mem_append.1 ho with ho | ho
     ·exact HNO.out o ho
     ·rw [List.mem_singleton] at ho
      rw [ho]
      exact HBG.out), HB5.out⟩
  ·have hltz : ¬ (i : Int) < (l.length : Int) := by omega
   have hin : i = l.length := by omega
   rw [hin, List.take_length] at HNO
   have HEN := Lib.hid hin
   clear hin
   by_cases h200 : (200 : Int) < (l.length : Int)
   ·go_wp2_with fail
    go_ret
    exact ⟨.inl rfl, HB.out⟩
   ·go_wp2_with fail
    go_ret
    refine ⟨.inr ⟨rfl, ?_⟩, HB.out⟩
    rintro (⟨o, ho, hg⟩ | hg)
    ·exact HNO.out o ho hg
    ·omega
end Go.Proofs.YtejihgfigclppaaGreat
namespace Go.Proofs.YtejihgfigclppaaGreat
open Go.RowKit Go.Lib
set_option linter.unusedVariables false
structure Own0 (d : Det) : Prop where
 er : ∀ x ∈ d.er, 0 ≤ x.frm ∧ x.frm ≤ 7 ∧ x.frm ≠ d.self ∧ 0 ≤ x.seq ∧ x.seq ≤ 1099511627776 ∧ 0 ≤ x.node ∧ x.node ≤ 7
 sn : d.since d.self = none
 own : ∃ w, d.tab d.self.toNat = some w ∧ d.inc ≤ w.inc
def Own1 (d : Det) : Prop := d.left = false → ∃ w, d.tab d.self.toNat = some w ∧ (1099511627776 ≤ w.inc ∨ (w.st = 1 ∧ w.inc = d.inc))
structure SameOwn (d e : Det) : Prop where
 self : e.self = d.self
 er : e.er = d.er
 sn : e.since e.self = d.since d.self
 tab : e.tab e.self.toNat = d.tab d.self.toNat
 inc : e.inc = d.inc
 left : e.left = d.left
theorem SameOwn.refl (d : Det) : SameOwn d d := ⟨rfl, rfl, rfl, rfl, rfl, rfl⟩
theorem SameOwn.trans {a b c : Det} (h : SameOwn a b) (k : SameOwn b c) : SameOwn a c := ⟨k.self.trans h.self, k.er.trans h.er, k.sn.trans h.sn, k.tab.trans h.tab, k.inc.trans h.inc, k.left.trans h.left⟩
theorem SameOwn.own0 {d e : Det} (h : SameOwn d e) (k : Own0 d) : Own0 e := ⟨by rw [h.er, h.self]; exact k.er, h.sn.trans k.sn, by rw [h.tab, h.inc]; exact k.own⟩
theorem SameOwn.own1 {d e : Det} (h : SameOwn d e) (k : Own1 d) : Own1 e := by unfold Own1; rw [h.left, h.tab, h.inc]; exact k
theorem hear_other {d : Det} (m : Mb) (h0 : 0 ≤ d.self) (h : m.node ≠ d.self) : SameOwn d (d.hear m) := by
 unfold Det.hear
 split
 ·rename_i hm
  have h1 : d.self.toNat ≠ m.node.toNat := by have := hm.1.1; omega
  refine ⟨rfl, rfl, ?_, updT_other _ _ h1, rfl, rfl⟩
  show updI d.since m.node _ d.self = d.since d.self
  unfold updI
  rw [if_neg fun e => h e.symm]
 ·exact .refl d
theorem say_other {d : Det} (n st : Int) (h0 : 0 ≤ d.self) (h : n ≠ d.self) : SameOwn d (d.say n st) := by
 unfold Det.say
 split
 ·exact hear_other _ h0 h
 ·exact .refl d
theorem bury1_own {d : Det} (n : Nat) (h0 : 0 ≤ d.self) (hs : d.since d.self = none) : SameOwn d (d.bury1 n) := by
 unfold Det.bury1
 split
 ·rename_i v hv
  split
  ·refine say_other _ _ h0 fun e => ?_
   rw [e, hs] at hv
   cases hv
  ·exact .refl d
 ·exact .refl d
theorem buryTo_own {d : Det} (h0 : 0 ≤ d.self) (hs : d.since d.self = none) : ∀ n, SameOwn d (d.buryTo n)
 | 0 => .refl d
 | n + 1 => by
  have ih := buryTo_own h0 hs n
  exact ih.trans (bury1_own n (by rw [ih.self]; exact h0) (ih.sn.trans hs))
theorem around_own (d : Det) : SameOwn d d.around.1 := by
 unfold Det.around
 split
 ·exact .refl d
 ·split
  ·exact ⟨rfl, rfl, rfl, rfl, rfl, rfl⟩
  ·exact .refl d
theorem give_own {d : Det} (hok : DetOk d) : SameOwn d d.give := by
 unfold Det.give
 split
 ·exact .refl d
 ·rename_i p hp
  split
  ·exact .refl d
  ·split
   ·split
    ·have := say_other (d := d) p.2 2 hok.self.1 (hok.pr p hp).2.2.2.2
     exact this.trans ⟨rfl, rfl, rfl, rfl, rfl, rfl⟩
    ·exact ⟨rfl, rfl, rfl, rfl, rfl, rfl⟩
   ·exact ⟨rfl, rfl, rfl, rfl, rfl, rfl⟩
theorem begin_own (d : Det) : SameOwn d d.begin.1 := by
 unfold Det.begin
 split
 ·exact .refl d
 ·split
  ·exact .refl d
  ·exact ⟨rfl, rfl, rfl, rfl, rfl, rfl⟩
theorem tick_own {d : Det} (hok : DetOk d) (hc : d.clock < 1000000) (h : Own0 d) : SameOwn d d.tick.1 := by
 unfold Det.tick
 split
 ·exact .refl d
 ·have h1 : SameOwn d { d with clock := d.clock + 1 } := ⟨rfl, rfl, rfl, rfl, rfl, rfl⟩
  have h2 := buryTo_own (d := { d with clock := d.clock + 1 }) hok.self.1 h.sn 8
  have h3 := around_own (Det.bury { d with clock := d.clock + 1 })
  have k3 := ((hok.ticks hc).bury).around
  exact (((h1.trans h2).trans h3).trans (give_own k3)).trans (begin_own _)
theorem Own0.hear {d : Det} (h : Own0 d) (h0 : 0 ≤ d.self) (m : Mb) : Own0 (d.hear m) := by
 by_cases e : m.node = d.self
 ·unfold Det.hear
  split
  ·rename_i hm
   obtain ⟨w, hw, hi⟩ := h.own
   refine ⟨h.er, h.sn, ⟨m.st, m.inc⟩, by rw [e]; exact updT_same _ _ _, ?_⟩
   have hn := hm.2
   unfold newsT at hn
   rw [e, hw] at hn
   rcases of_decide_eq_true hn with hb | ⟨hb, _⟩
   ·have hb' : w.inc < m.inc := hb
    show d.inc ≤ m.inc
    omega
   ·have hb' : m.inc = w.inc := hb
    show d.inc ≤ m.inc
    omega
  ·exact h
 ·exact (hear_other m h0 e).own0 h
theorem Own0.hears {d : Det} (h : Own0 d) (h0 : 0 ≤ d.self) (l : List Mb) : Own0 (d.hears l) := by
 unfold Det.hears
 induction l generalizing d with
 | nil => exact h
 | cons m l ih => exact ih (h.hear h0 m) (by rw [hear_self]; exact h0)
theorem hears_inc (d : Det) (l : List Mb) : (d.hears l).inc = d.inc := by
 unfold Det.hears
 induction l generalizing d with
 | nil => rfl
 | cons m l ih => exact (ih (d.hear m)).trans (hear_inc d m)
theorem Own0.contradict {d : Det} (h : Own0 d) (hok : DetOk d) : Own0 d.contradict ∧ Own1 d.contradict ∧ d.inc ≤ d.contradict.inc ∧ d.contradict.self = d.self ∧ d.contradict.left = d.left := by
 obtain ⟨w, hw, hi⟩ := h.own
 unfold Det.contradict
 rw [hw]
 dsimp only
 by_cases hc : d.left = true ∨ (w.st = 1 ∧ w.inc ≤ d.inc) ∨ 1099511627776 ≤ w.inc
 ·rw [if_pos hc]
  refine ⟨h, fun hl => ⟨w, hw, ?_⟩, Int.le_refl _, rfl, rfl⟩
  rcases hc with e | ⟨e1, e2⟩ | e
  ·rw [hl] at e; cases e
  ·exact .inr ⟨e1, by omega⟩
  ·exact .inl e
 ·rw [if_neg hc]
  have hlt : ¬ 1099511627776 ≤ w.inc := fun e => hc (.inr (.inr e))
  have hwo := hok.tab d.self.toNat w hw
  have hm : Mb.may ⟨d.self, 1, w.inc + 1⟩ := by
   have := hok.self
   exact ⟨this.1, this.2, by show (1 : Int) ≤ 1; decide, by show (1 : Int) ≤ 4; decide, by have := hwo.2.2.2.1; show 0 ≤ w.inc + 1; omega, by show w.inc + 1 ≤ 1099511627776; omega⟩
  have hn : newsT d.tab ⟨d.self, 1, w.inc + 1⟩ = true := by
   unfold newsT
   rw [hw]
   exact decide_eq_true (.inl (by show w.inc < w.inc + 1; omega))
  have e : Det.hear { d with inc := w.inc + 1 } ⟨d.self, 1, w.inc + 1⟩ = { d with inc := w.inc + 1, tab := updT d.tab d.self.toNat ⟨1, w.inc + 1⟩ } := by
   unfold Det.hear
   rw [if_pos ⟨hm, hn⟩, if_pos rfl]
  rw [e]
  exact ⟨⟨h.er, h.sn, ⟨1, w.inc + 1⟩, updT_same _ _ _, Int.le_refl _⟩, fun _ => ⟨⟨1, w.inc + 1⟩, updT_same _ _ _, .inr ⟨rfl, rfl⟩⟩, by show d.inc ≤ w.inc + 1; omega, rfl, rfl⟩
theorem ack_own (d : Det) (m : Got) (h : Own0 d) : Own0 (d.ack m).1 ∧ (d.ack m).1.inc = d.inc ∧ (Own1 d → Own1 (d.ack m).1) := by
 unfold Det.ack
 split
 ·exact ⟨⟨h.er, h.sn, h.own⟩, rfl, id⟩
 ·split
  ·exact ⟨h, rfl, id⟩
  ·exact ⟨⟨fun x hx => h.er x (List.mem_of_mem_eraseIdx hx), h.sn, h.own⟩, rfl, id⟩
structure GotOk (d : Det) (m : Got) : Prop where
 frm : 0 ≤ m.frm ∧ m.frm ≤ 7 ∧ m.frm ≠ d.self
 seq : 0 ≤ m.seq ∧ m.seq ≤ 1099511627776
 node : 0 ≤ m.node ∧ m.node ≤ 7
theorem request_own0 (d : Det) (m : Got) (h : Own0 d) (hm : GotOk d m) : Own0 (d.request m).1 ∧ (d.request m).1.inc = d.inc ∧ (Own1 d → Own1 (d.request m).1) := by
 unfold Det.request
 split
 ·exact ⟨h, rfl, id⟩
 ·refine ⟨⟨fun x hx => ?_, h.sn, h.own⟩, rfl, id⟩
  rcases List.mem_append.1 (List.mem_of_mem_drop hx) with hx | hx
  ·exact h.er x hx
  ·rw [List.mem_singleton] at hx
   subst hx
   exact ⟨hm.frm.1, hm.frm.2.1, hm.frm.2.2, hm.seq.1, hm.seq.2, hm.node.1, hm.node.2⟩
theorem on_own {d : Det} (hok : DetOk d) (h : Own0 d) (m : Got) (hm : GotOk d m) : Own0 (d.on m).1 ∧ Own1 (d.on m).1 ∧ d.inc ≤ (d.on m).1.inc := by
 have hh := h.hears hok.self.1 m.ms
 obtain ⟨c1, c2, c3, c4, c5⟩ := hh.contradict (hok.hears m.ms)
 rw [hears_inc] at c3
 have hs : (d.hears m.ms).contradict.self = d.self := c4.trans (same_hears d m.ms).self
 unfold Det.on
 dsimp only
 generalize (d.hears m.ms).contradict = e at *
 split
 ·exact ⟨c1, c2, c3⟩
 ·split
  ·obtain ⟨a1, a2, a3⟩ := ack_own e m c1
   exact ⟨a1, a3 c2, by rw [a2]; exact c3⟩
  ·split
   ·obtain ⟨a1, a2, a3⟩ := request_own0 e m c1 ⟨by rw [hs]; exact hm.frm, hm.seq, hm.node⟩
    exact ⟨a1, a3 c2, by rw [a2]; exact c3⟩
   ·exact ⟨c1, c2, c3⟩
theorem leave_own {d : Det} (hok : DetOk d) (h : Own0 d) : Own0 d.leave.1 ∧ Own1 d.leave.1 ∧ d.leave.1.inc = d.inc := by
 have h1 : Own0 { d with left := true } := ⟨h.er, h.sn, h.own⟩
 have h2 := h1.hear hok.self.1 ⟨d.self, 4, d.inc⟩
 obtain ⟨_, _, _, _, l5⟩ := leave_same d
 exact ⟨h2, fun e => (by rw [l5] at e; cases e), hear_inc _ _⟩
theorem new_own {self inc : Int} {c : DConf} {seed : Int} (hs : 0 ≤ self) : Own0 (Det.new self inc c seed) ∧ Own1 (Det.new self inc c seed) := by
 have h : (Det.new self inc c seed).tab (Det.new self inc c seed).self.toNat = some ⟨1, inc⟩ := updT_same (fun _ => none) self.toNat ⟨1, inc⟩
 exact ⟨⟨fun x hx => (nomatch hx), rfl, ⟨1, inc⟩, h, Int.le_refl _⟩, fun _ => ⟨⟨1, inc⟩, h, .inr ⟨rfl, rfl⟩⟩⟩
structure SentOk (me : Int) (s : Sent) : Prop where
 frm : s.frm = me
 right : ∀ hd, (s.msg hd).right
 small : s.ms.length ≤ 8
 kind : s.kind = 1 ∨ s.kind = 2 ∨ s.kind = 3
theorem send_ok {d : Det} (hok : DetOk d) {kind to_ seq node : Int} (hk : kind = 1 ∨ kind = 2 ∨ kind = 3) (ht : 0 ≤ to_ ∧ to_ ≤ 7) (hne : to_ ≠ d.self) (hq : 0 ≤ seq ∧ seq ≤ 1099511627776) (hn : (kind ≠ 1 ∧ 0 ≤ node ∧ node ≤ 7) ∨ node = 0) : SentOk d.self (d.send kind to_ seq node) :=
 ⟨rfl, fun hd => Sent.right hk hok.self ht (fun e => hne e.symm) hq hn (allT_ok hok.tab), allT_len _, hk⟩
theorem mem_someL {s : Int} {l : List Int} {n x : Int} (hl : l.length ≤ 900000) (h : x ∈ someL s l n) : x ∈ l := by
 unfold someL at h
 have h1 := (shufL_perm s (onceL l) (by have := onceL_len l; omega)).mem_iff.1 (List.mem_of_mem_take h)
 exact ((onceL_is l).2 x).1 h1
theorem around_sent {d : Det} (hok : DetOk d) : ∀ s ∈ d.around.2, SentOk d.self s := by
 unfold Det.around
 split
 ·intro s hs; cases hs
 ·rename_i p hp
  split
  ·intro s hs
   obtain ⟨n, hn, rfl⟩ := List.mem_map.1 hs
   have hl : (d.aroundL p.2).length ≤ (othersT d.self d.tab).length := List.length_filter_le _ _
   have hl2 := othersT_len d.self d.tab
   have hm := mem_someL (by omega) hn
   have ho := others_node (List.mem_filter.1 hm).1
   obtain ⟨q1, q2, q3, q4, _⟩ := hok.pr p hp
   have hnum := hok.num
   exact send_ok hok (.inr (.inr rfl)) ⟨ho.1, ho.2.1⟩ ho.2.2 ⟨q1, by omega⟩ (.inl ⟨by decide, q3, q4⟩)
  ·intro s hs; cases hs
theorem begin_sent {d : Det} (hok : DetOk d) (hn : d.num < 1000000) : ∀ s ∈ d.begin.2, SentOk d.self s := by
 have hk := hok.begin hn
 revert hk
 unfold Det.begin
 split
 ·intro _ s hs; cases hs
 ·split
  ·intro _ s hs; cases hs
  ·rename_i hne
   intro hk s hs
   rw [List.mem_singleton] at hs
   subst hs
   have ho := others_node (next_head (s := d.s) (ws := d.ws) (by have := othersT_len d.self d.tab; omega) hne)
   have hnum := hok.num
   exact send_ok hk (.inl rfl) ⟨ho.1, ho.2.1⟩ ho.2.2 ⟨by omega, by omega⟩ (.inr rfl)
theorem tick_sent {d : Det} (hok : DetOk d) (hc : d.clock < 1000000) (hn : d.num < 1000000) : ∀ s ∈ d.tick.2, SentOk d.self s := by
 have h1 := (hok.ticks hc).bury
 have s1 := same_bury { d with clock := d.clock + 1 }
 have s2 := same_around (Det.bury { d with clock := d.clock + 1 })
 have s3 := same_give (Det.bury { d with clock := d.clock + 1 }).around.1
 unfold Det.tick
 split
 ·intro s hs; cases hs
 ·intro s hs
  rcases List.mem_append.1 hs with hs | hs
  ·have := around_sent h1 s hs
   rw [s1.self] at this
   exact this
  ·have := begin_sent h1.around.give (by rw [s3.num, s2.num, s1.num]; exact hn) s hs
   rw [s3.self, s2.self, s1.self] at this
   exact this
theorem leave_sent {d : Det} (hok : DetOk d) : ∀ s ∈ d.leave.2, SentOk d.self s := by
 have hk := hok.leave
 obtain ⟨l1, _, _, _, _⟩ := leave_same d
 intro s hs
 have hs' : s ∈ (othersT d.leave.1.self d.leave.1.tab).map fun n => d.leave.1.send 1 n 0 0 := hs
 obtain ⟨n, hn, rfl⟩ := List.mem_map.1 hs'
 have ho := others_node hn
 have := send_ok hk (kind := 1) (to_ := n) (seq := 0) (node := 0) (.inl rfl) ⟨ho.1, ho.2.1⟩ ho.2.2 ⟨Int.le_refl 0, by decide⟩ (.inr rfl)
 rw [l1] at this
 exact this
theorem ack_sent {d : Det} (hok : DetOk d) (h : Own0 d) (m : Got) : ∀ s ∈ (d.ack m).2, SentOk d.self s := by
 unfold Det.ack
 split
 ·intro s hs; cases hs
 ·split
  ·intro s hs; cases hs
  ·rename_i i hi
   intro s hs
   dsimp only at hs
   split at hs
   ·rename_i x hx
    rw [List.mem_singleton] at hs
    subst hs
    obtain ⟨e1, e2, e3, e4, e5, e6, e7⟩ := h.er x (List.mem_of_getElem? hx)
    exact send_ok hok (.inr (.inl rfl)) ⟨e1, e2⟩ e3 ⟨e4, e5⟩ (.inl ⟨by decide, e6, e7⟩)
   ·cases hs
theorem request_sent {d : Det} (hok : DetOk d) (hn : d.num < 1000000) (m : Got) (hm : GotOk d m) : ∀ s ∈ (d.request m).2, SentOk d.self s := by
 unfold Det.request
 split
 ·intro s hs
  rw [List.mem_singleton] at hs
  subst hs
  exact send_ok hok (.inr (.inl rfl)) ⟨hm.frm.1, hm.frm.2.1⟩ hm.frm.2.2 hm.seq (.inl ⟨by decide, hok.self.1, hok.self.2⟩)
 ·rename_i hne
  intro s hs
  rw [List.mem_singleton] at hs
  subst hs
  have hnum := hok.num
  exact send_ok hok (.inl rfl) hm.node hne ⟨by omega, by omega⟩ (.inr rfl)
theorem on_sent {d : Det} (hok : DetOk d) (hn : d.num < 1000000) (h : Own0 d) (m : Got) (hm : GotOk d m) : ∀ s ∈ (d.on m).2, SentOk d.self s := by
 have hh := h.hears hok.self.1 m.ms
 obtain ⟨c1, _, _, c4, _⟩ := hh.contradict (hok.hears m.ms)
 have sm := on_pre d m.ms
 have hk := (hok.hears m.ms).contradict
 have hself : (d.hears m.ms).contradict.self = d.self := sm.self
 have hnum : (d.hears m.ms).contradict.num < 1000000 := by rw [sm.num]; exact hn
 unfold Det.on
 dsimp only
 generalize (d.hears m.ms).contradict = e at *
 rw [← hself]
 have hm' : GotOk e m := ⟨by rw [hself]; exact hm.frm, hm.seq, hm.node⟩
 split
 ·intro s hs
  rw [List.mem_singleton] at hs
  subst hs
  exact send_ok hk (.inr (.inl rfl)) ⟨hm'.frm.1, hm'.frm.2.1⟩ hm'.frm.2.2 hm'.seq (.inl ⟨by decide, hk.self.1, hk.self.2⟩)
 ·split
  ·exact ack_sent hk c1 m
  ·split
   ·exact request_sent hk hnum m hm'
   ·intro s hs; cases hs
end Go.Proofs.YtejihgfigclppaaGreat
namespace Go.Proofs.YtejihgfigclppaaGreat
open Go.RowKit Go.Lib
set_option linter.unusedVariables false
structure OwnD (me : Int) (i : Nat) (lf : Bool) (d : Det) : Prop where
 ok : DetOk d
 o0 : Own0 d
 o1 : Own1 d
 num : d.num ≤ (i : Int)
 clock : d.clock ≤ (i : Int)
 left : d.left = lf
 self : d.self = me
structure OwnStep (me : Int) (i : Nat) (lf : Bool) (was : Int) (d : Det) (out : List Sent) : Prop where
 od : OwnD me i lf d
 inc : was ≤ d.inc
 sent : ∀ s ∈ out, SentOk me s
theorem OwnD.new {self inc : Int} {c : DConf} {seed : Int} (hm : Mb.may ⟨self, 1, inc⟩) (hc : c.right) : OwnD self 0 false (Det.new self inc c seed) :=
 ⟨.new hm hc, (new_own hm.1).1, (new_own hm.1).2, Int.le_refl _, Int.le_refl _, rfl, rfl⟩
theorem OwnD.stay {self : Int} {i : Nat} {lf : Bool} {d : Det} (h : OwnD self i lf d) : OwnStep self (i + 1) lf d.inc d [] :=
 ⟨⟨h.ok, h.o0, h.o1, by have := h.num; omega, by have := h.clock; omega, h.left, h.self⟩, Int.le_refl _, fun s hs => (nomatch hs)⟩
theorem OwnD.tick {self : Int} {i : Nat} {lf : Bool} {d : Det} (h : OwnD self i lf d) (hi : i < 1000) : OwnStep self (i + 1) lf d.inc d.tick.1 d.tick.2 := by
 have hc : d.clock < 1000000 := by have := h.clock; omega
 have hn : d.num < 1000000 := by have := h.num; omega
 obtain ⟨t1, _, _, t4, _, t6, t7⟩ := tick_same d
 have hs := tick_own h.ok hc h.o0
 have ho := tick_sent h.ok hc hn
 rw [h.self] at ho
 exact ⟨⟨h.ok.tick hc hn, hs.own0 h.o0, hs.own1 h.o1, by have := h.num; omega, by have := h.clock; omega, t7.trans h.left, t1.trans h.self⟩, by rw [hs.inc]; exact Int.le_refl _, ho⟩
theorem OwnD.on {self : Int} {i : Nat} {lf : Bool} {d : Det} (h : OwnD self i lf d) (hi : i < 1000) (m : Got) (hm : GotOk d m) : OwnStep self (i + 1) lf d.inc (d.on m).1 (d.on m).2 := by
 have hn : d.num < 1000000 := by have := h.num; omega
 obtain ⟨t1, _, t3, _, t5, t6⟩ := on_same d m
 obtain ⟨a1, a2, a3⟩ := on_own h.ok h.o0 m hm
 have ho := on_sent h.ok hn h.o0 m hm
 rw [h.self] at ho
 exact ⟨⟨h.ok.on m hn, a1, a2, by have := h.num; omega, by have := h.clock; omega, t6.trans h.left, t1.trans h.self⟩, a3, ho⟩
theorem OwnD.leave {self : Int} {i : Nat} {lf : Bool} {d : Det} (h : OwnD self i lf d) : OwnStep self (i + 1) true d.inc d.leave.1 d.leave.2 := by
 obtain ⟨t1, _, t3, t4, t5⟩ := leave_same d
 obtain ⟨a1, a2, a3⟩ := leave_own h.ok h.o0
 have ho := leave_sent h.ok
 rw [h.self] at ho
 exact ⟨⟨h.ok.leave, a1, a2, by have := h.num; omega, by have := h.clock; omega, t5, t1.trans h.self⟩, by rw [a3]; exact Int.le_refl _, ho⟩
theorem OwnD.word {self : Int} {i : Nat} {d : Det} (h : OwnD self i false d) {m : Mb} (hm : m ∈ allT d.tab) (hn : m.node = self) (ht : m.inc < 1099511627776) : m.st = 1 ∧ m.inc = d.inc := by
 obtain ⟨k, hk, e, ht'⟩ := (mem_allT _ _).1 hm
 obtain ⟨w, hw, h1⟩ := h.o1 h.left
 have hks : d.self.toNat = k := by rw [h.self, ← hn, e]; rfl
 rw [hks, ht'] at hw
 cases hw
 rcases h1 with h1 | h1
 ·have : (1099511627776 : Int) ≤ m.inc := h1
  omega
 ·exact h1
theorem seqMost_le (k : Int) : seqMost k ≤ 1099511627776 := by
 unfold seqMost
 split
 ·omega
 ·split <;> omega
theorem gotOk_of {d : Det} {m : Msg} (h : badOn d m = false) : GotOk d m.got := by
 unfold badOn at h
 have hrt : m.rightB = true := by
  cases e : m.rightB with
  | true => rfl
  | false => rw [e] at h; cases h
 rw [hrt] at h
 have hto : m.to_ = d.self := by
  by_cases e : m.to_ = d.self
  ·exact e
  ·rw [decide_eq_false e] at h; cases h
 have hr : m.right := by
  by_cases hmr : m.right
  ·exact hmr
  ·rw [Msg.rightB_false hmr] at hrt; cases hrt
 refine ⟨⟨hr.frm.1, hr.frm.2, fun e => hr.ne (e.trans hto.symm)⟩, ⟨hr.seq.1, Int.le_trans hr.seq.2 (seqMost_le _)⟩, ?_⟩
 rcases hr.node with ⟨_, h1, h2⟩ | h1
 ·exact ⟨h1, h2⟩
 ·have e : m.got.node = 0 := h1
  omega
end Go.Proofs.YtejihgfigclppaaGreat
namespace Go.Proofs.YtejihgfigclppaaGreat
open Go.Shelf Go.RowKit Go.Lib Go.Sort
set_option linter.unusedVariables false
set_option linter.unusedSimpArgs false
set_option maxHeartbeats 8000000 in
theorem made_good (self inc : Int) (c : DConf) (seed : Int) (w : World) (hm : Mb.may ⟨self, 1, inc⟩) (hc : c.right) :
  Calls Tryz.prog 19 #[.agg #[.int .i64 self, .int .i64 inc, .int .i64 c.tout, .int .i64 c.ind, .int .i64 c.gr, .int .u64 seed]] w fun e w' => ∃ M, e = .returned (.tuple #[.pointer (some ⟨M.g, 0, none⟩), .int .i64 0]) ∧ DetAt w' M (Det.new self inc c seed) ∧ (∀ k ∈ M.own, w.heap.size ≤ k) ∧ Below w.heap.size w w' := by
 have hb := (Below.refl w.heap.size w).alloc (Nat.le_refl _) (.cells #[.int .i64 self, .int .i64 inc, .int .i64 c.tout, .int .i64 c.ind, .int .i64 c.gr, .int .u64 seed] 57)
 have hn := newD_good self inc c seed (w.alloc (.cells #[.int .i64 self, .int .i64 inc, .int .i64 c.tout, .int .i64 c.ind, .int .i64 c.gr, .int .u64 seed] 57)) hm hc
 have HB := Lib.hid hb
 have HN := Lib.hid hn
 clear hb hn hm hc
 go_enter Tryz.func19, Tryz.ntmps19
 go_wp2_with fail
 refine HN.out.mono ?_
 rintro e w' ⟨M, rfl, hD, hO, hb'⟩
 have HD := Lib.hid hD
 have HO : Hid (∀ k ∈ M.own, w.heap.size ≤ k) := fun k hk => by have h1 := hO k hk; have h2 := HB.out.size; omega
 have HB' := Lib.hid (HB.out.trans (hb'.mono HB.out.size))
 clear hD hO hb' HN HB
 go_wp2_with fail
 go_ret2
 exact ⟨M, rfl, HD.out, HO.out, HB'.out⟩
set_option maxHeartbeats 8000000 in
theorem made_bad (self inc : Int) (c : DConf) (seed : Int) (w : World) (h : ¬ (Mb.may ⟨self, 1, inc⟩ ∧ c.right)) :
  Calls Tryz.prog 19 #[.agg #[.int .i64 self, .int .i64 inc, .int .i64 c.tout, .int .i64 c.ind, .int .i64 c.gr, .int .u64 seed]] w fun e w' => e = .returned (.tuple #[.pointer none, .int .i64 2]) ∧ Below w.heap.size w w' := by
 have hb := (Below.refl w.heap.size w).alloc (Nat.le_refl _) (.cells #[.int .i64 self, .int .i64 inc, .int .i64 c.tout, .int .i64 c.ind, .int .i64 c.gr, .int .u64 seed] 57)
 have hn : Calls Tryz.prog 11 #[.int .i64 self, .int .i64 inc, .agg #[.int .i64 c.tout, .int .i64 c.ind, .int .i64 c.gr], .int .u64 seed] (w.alloc (.cells #[.int .i64 self, .int .i64 inc, .int .i64 c.tout, .int .i64 c.ind, .int .i64 c.gr, .int .u64 seed] 57)) fun e w' => e = .returned (.tuple #[.pointer none, .int .i64 2]) ∧ Below (w.alloc (.cells #[.int .i64 self, .int .i64 inc, .int .i64 c.tout, .int .i64 c.ind, .int .i64 c.gr, .int .u64 seed] 57)).heap.size (w.alloc (.cells #[.int .i64 self, .int .i64 inc, .int .i64 c.tout, .int .i64 c.ind, .int .i64 c.gr, .int .u64 seed] 57)) w' := by
  by_cases hm : Mb.may ⟨self, 1, inc⟩
  ·exact newD_bad2 self inc c seed _ hm fun hc => h ⟨hm, hc⟩
  ·exact newD_bad self inc c seed _ hm
 have HB := Lib.hid hb
 have HN := Lib.hid hn
 clear hb hn h
 go_enter Tryz.func19, Tryz.ntmps19
 go_wp2_with fail
 refine HN.out.mono ?_
 rintro e w' ⟨rfl, hb'⟩
 have HB' := Lib.hid (HB.out.trans (hb'.mono HB.out.size))
 clear hb' HN HB
 go_wp2_with fail
 go_ret2
 exact ⟨rfl, HB'.out⟩
end Go.Proofs.YtejihgfigclppaaGreat
