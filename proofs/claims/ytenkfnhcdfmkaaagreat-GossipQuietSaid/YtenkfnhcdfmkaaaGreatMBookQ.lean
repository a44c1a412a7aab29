/-
  Plain facts on a book of events: two books that hand each other what is newer; what was seen holds or is removed; what is newer in pieces; what a new event stands for. No function of the program is entered.
  A book in memory: what its blocks hold; see walked, and each.
  A book's each and own walked.
-/
import Derived.Test.YtenkfnhcdfmkaaaGreatMDotP
import Derived.Test.YtenkfnhcdfmkaaaGreatMOpen
import Derived.Test.YtenkfnhcdfmkaaaGreatMEvRight
import Derived.Test.YtenkfnhcdfmkaaaGreatMAcc
namespace Go.Proofs.YtenkfnhcdfmkaaaGreat
set_option linter.unusedVariables false
end Go.Proofs.YtenkfnhcdfmkaaaGreat
namespace Go.Proofs.YtenkfnhcdfmkaaaGreat
open Go.Shelf Go.RowKit Go.Lib Go.Sort
set_option linter.unusedVariables false
def evVal (p : PEv) : Value := .agg (pcells p).toArray
structure Turns3 (a b c : Nat) (w w' : World) : Prop where
 os : w'.os = w.os
 tape : w'.tape = w.tape
 output : w'.output = w.output
 size : w.heap.size ≤ w'.heap.size
 block : ∀ i, i < w.heap.size → i ≠ a → i ≠ b → i ≠ c → w'.heap[i]? = w.heap[i]?
theorem Turns3.refl (a b c : Nat) (w : World) : Turns3 a b c w w := ⟨rfl, rfl, rfl, Nat.le_refl _, fun _ _ _ _ _ => rfl⟩
theorem Turns3.trans {a b c : Nat} {w w1 w2 : World} (h : Turns3 a b c w w1) (k : Turns3 a b c w1 w2) : Turns3 a b c w w2 :=
 ⟨k.os.trans h.os, k.tape.trans h.tape, k.output.trans h.output, Nat.le_trans h.size k.size, fun i hi h1 h2 h3 => (k.block i (Nat.lt_of_lt_of_le hi h.size) h1 h2 h3).trans (h.block i hi h1 h2 h3)⟩
theorem Turns3.of_below {a b c : Nat} {w w' : World} (h : Below w.heap.size w w') : Turns3 a b c w w' := ⟨h.os, h.tape, h.output, h.size, fun i hi _ _ _ => h.block i hi⟩
theorem Turns3.of_grown {a b c r : Nat} {w w' : World} (h : w.grownBy w' (some r)) (hr : r = a ∨ r = b ∨ r = c) : Turns3 a b c w w' :=
 ⟨h.os, h.tape, h.output, h.size, fun i hi h1 h2 h3 => h.block i hi (fun e => by have := Option.some.inj e; omega)⟩
theorem Turns3.below {a b c C : Nat} {w w' : World} (h : Turns3 a b c w w') (ha : C ≤ a) (hb : C ≤ b) (hc : C ≤ c) (hC : C ≤ w.heap.size) : Below C w w' :=
 ⟨h.os, h.tape, h.output, h.size, fun i hi => h.block i (by omega) (by omega) (by omega) (by omega)⟩
structure BookAt (W : World) (bb ms mh B : Nat) (S : BookS) : Prop where
 ltb : bb < B
 lts : ms < B
 lth : mh < B
 nbs : bb ≠ ms
 nbh : bb ≠ mh
 nsh : ms ≠ mh
 size : B ≤ W.heap.size
 obj : W.heap[bb]? = some (.cells #[.map (some ms), .map (some mh), .int .i64 S.time] 96)
 seen : ∃ (Es : List (Dot × Value)), DotMapAt W ms Es ∧ ∀ d v, (d, v) ∈ Es ↔ v = .bool true ∧ May d ∧ S.sees d = true
 holds : ∃ (Eh : List (Dot × Value)) (hs : List PEv), DotMapAt W mh Eh ∧ hs.map (·.2) = S.holds ∧ (∀ d v, (d, v) ∈ Eh ↔ ∃ p, p ∈ hs ∧ d = p.2.dot ∧ v = evVal p) ∧ ∀ p, p ∈ hs → Owns Dot.cells 2 B 40 W p.1.val p.2.rem
 may : ∀ e, e ∈ S.holds → May e.dot
def fullGrid : Grid := fun n q => decide (n < 8 ∧ 1 ≤ q ∧ q ≤ 96)
theorem fullGrid_ok : fullGrid.Ok := fun n q h => by unfold fullGrid at h; simpa using h
theorem may_len {l : List Dot} (hn : l.Nodup) (hm : ∀ d ∈ l, May d) : l.length ≤ 768 := by
 refine Nat.le_trans (hn.length_le_of_subset (l₂ := dotsOf fullGrid) fun d hd => (mem_dotsOf fullGrid_ok).2 ⟨hm d hd, ?_⟩) (dotsOf_len fullGrid_ok)
 have := hm d hd
 unfold May at this
 unfold fullGrid
 rw [decide_eq_true_eq]
 omega
theorem DotMapAt.nodup {w : World} {b : Nat} {E : List (Dot × Value)} (h : DotMapAt w b E) : (E.map (·.1)).Nodup := by obtain ⟨_, _, h⟩ := h; exact h.nodup
theorem entries_len {w : World} {b : Nat} {E : List (Dot × Value)} (h : DotMapAt w b E) (hm : ∀ p ∈ E, May p.1) : E.length ≤ 768 := by
 have := may_len h.nodup fun d hd => by obtain ⟨p, hp, rfl⟩ := List.mem_map.1 hd; exact hm p hp
 simpa using this
theorem BookAt.keep {W W' : World} {bb ms mh B : Nat} {S : BookS} (h : BookAt W bb ms mh B S) (hsz : W.heap.size ≤ W'.heap.size) (hb : ∀ i, i < W.heap.size → W'.heap[i]? = W.heap[i]?) : BookAt W' bb ms mh B S := by
 have h0 := h.size
 refine ⟨h.ltb, h.lts, h.lth, h.nbs, h.nbh, h.nsh, Nat.le_trans h.size hsz, (hb _ (by have := h.ltb; omega)).trans h.obj, ?_, ?_, h.may⟩
 ·obtain ⟨Es, h1, h2⟩ := h.seen
  exact ⟨Es, h1.keep (hb _ (by have := h.lts; omega)), h2⟩
 ·obtain ⟨Eh, hs, h1, h2, h3, h4⟩ := h.holds
  exact ⟨Eh, hs, h1.keep (hb _ (by have := h.lth; omega)), h2, h3, fun p hp => (h4 p hp).keep fun g hg => hb g ((h4 p hp).lt g hg).2⟩
theorem BookAt.below {W W' : World} {bb ms mh B C : Nat} {S : BookS} (h : BookAt W bb ms mh B S) (hb : Below C W W') (hC : W.heap.size ≤ C) : BookAt W' bb ms mh B S := h.keep hb.size fun i hi => hb.block i (by omega)
theorem BookAt.seenE {W : World} {bb ms mh B : Nat} {S : BookS} (h : BookAt W bb ms mh B S) {d : Dot} (hd : May d) (mt : TypeId) (ht : (Tryz.prog).underlying mt = some (.map 40 4)) :
  (Instr.lookup mt (.map (some ms)) (dotVal d) false).run Tryz.prog W = .ok (.bool (S.sees d)) W := by
 obtain ⟨Es, h1, h2⟩ := h.seen
 rw [h1.look ht (Tryz.zeroValue4 W) (may_fits hd)]
 refine congrArg (fun v => Result.ok v W) ?_
 cases hs : S.sees d with
 | true =>
  rw [(lookE_mem h1.nodup).2 ((h2 d (.bool true)).2 ⟨rfl, hd, hs⟩)]; rfl
 | false =>
  have : lookE Es d = none := lookE_none.2 fun hm => by
   obtain ⟨p, hp, e⟩ := List.mem_map.1 hm
   have := (h2 p.1 p.2).1 hp
   rw [e, hs] at this
   exact absurd this.2.2 (by simp)
  rw [this]; rfl
theorem see_mem {S : BookS} {d : Dot} (hd : May d) {x : Dot} (hx : May x) : (seeB S d).sees x = true ↔ S.sees x = true ∨ x = d := by
 have : (seeB S d).sees x = (S.sees x || decide (x = d)) := sees_put hd hx
 rw [this, Bool.or_eq_true, decide_eq_true_eq]
theorem mem_putE {E : List (Dot × Value)} {d x : Dot} {v u : Value} : (x, u) ∈ putE E d v ↔ (x = d ∧ u = v) ∨ ((x, u) ∈ E ∧ x ≠ d) := by
 unfold putE
 rw [List.mem_cons, List.mem_filter, Prod.mk.injEq]
 simp
theorem mem_delE {E : List (Dot × Value)} {d x : Dot} {u : Value} : (x, u) ∈ delE E d ↔ (x, u) ∈ E ∧ x ≠ d := by
 unfold delE
 rw [List.mem_filter]
 simp
theorem BookAt.marked {W W' : World} {bb ms mh B : Nat} {S : BookS} (h : BookAt W bb ms mh B S) {d : Dot} (hd : May d) {Es : List (Dot × Value)} (h2 : ∀ d v, (d, v) ∈ Es ↔ v = .bool true ∧ May d ∧ S.sees d = true)
  (hm : DotMapAt W' ms (putE Es d (.bool true))) (hg : W.grownBy W' (some ms)) : BookAt W' bb ms mh B ⟨(seeB S d).saw, S.holds, S.time⟩ := by
 have hk : ∀ i, i < W.heap.size → i ≠ ms → W'.heap[i]? = W.heap[i]? := fun i hi hne => hg.block i hi (fun e => hne (Option.some.inj e))
 have h0 := h.size
 refine ⟨h.ltb, h.lts, h.lth, h.nbs, h.nbh, h.nsh, Nat.le_trans h.size hg.size, (hk _ (by have := h.ltb; omega) h.nbs).trans h.obj, ⟨_, hm, fun x v => ?_⟩, ?_, h.may⟩
 ·rw [mem_putE, h2]
  constructor
  ·rintro (⟨rfl, rfl⟩ | ⟨⟨h3, h4, h5⟩, h6⟩)
   ·exact ⟨rfl, hd, (see_mem hd hd).2 (.inr rfl)⟩
   ·exact ⟨h3, h4, (see_mem hd h4).2 (.inl h5)⟩
  ·rintro ⟨h3, h4, h5⟩
   by_cases e : x = d
   ·exact .inl ⟨e, h3⟩
   ·exact .inr ⟨⟨h3, h4, ((see_mem hd h4).1 h5).resolve_right e⟩, e⟩
 ·obtain ⟨Eh, hs, h1, h2, h3, h4⟩ := h.holds
  exact ⟨Eh, hs, h1.keep (hk _ (by have := h.lth; omega) (fun e => h.nsh e.symm)), h2, h3, fun p hp => (h4 p hp).keep fun g hg => hk g ((h4 p hp).lt g hg).2 (by have := ((h4 p hp).lt g hg).1; have := h.lts; omega)⟩
theorem BookAt.dropped {W W' : World} {bb ms mh B : Nat} {S : BookS} (h : BookAt W bb ms mh B S) {d : Dot} {Eh : List (Dot × Value)} {hs : List PEv} (h2 : hs.map (·.2) = S.holds) (h3 : ∀ d v, (d, v) ∈ Eh ↔ ∃ p, p ∈ hs ∧ d = p.2.dot ∧ v = evVal p) (h4 : ∀ p, p ∈ hs → Owns Dot.cells 2 B 40 W p.1.val p.2.rem)
  (hm : DotMapAt W' mh (delE Eh d)) (hg : W.grownBy W' (some mh)) : BookAt W' bb ms mh B ⟨S.saw, S.holds.filter fun e => decide (e.dot ≠ d), S.time⟩ := by
 have hk : ∀ i, i < W.heap.size → i ≠ mh → W'.heap[i]? = W.heap[i]? := fun i hi hne => hg.block i hi (fun e => hne (Option.some.inj e))
 have h0 := h.size
 refine ⟨h.ltb, h.lts, h.lth, h.nbs, h.nbh, h.nsh, Nat.le_trans h.size hg.size, (hk _ (by have := h.ltb; omega) h.nbh).trans h.obj, ?_, ⟨_, hs.filter fun p => decide (p.2.dot ≠ d), hm, ?_, fun x v => ?_, fun p hp => ?_⟩, fun e he => h.may e (List.mem_filter.1 he).1⟩
 ·obtain ⟨Es, h5, h6⟩ := h.seen
  exact ⟨Es, h5.keep (hk _ (by have := h.lts; omega) h.nsh), h6⟩
 ·rw [← h2, List.filter_map]; rfl
 ·rw [mem_delE, h3]
  constructor
  ·rintro ⟨⟨p, hp, rfl, rfl⟩, hne⟩
   exact ⟨p, List.mem_filter.2 ⟨hp, by simpa using hne⟩, rfl, rfl⟩
  ·rintro ⟨p, hp, rfl, rfl⟩
   obtain ⟨h5, h6⟩ := List.mem_filter.1 hp
   exact ⟨⟨p, h5, rfl, rfl⟩, by simpa using h6⟩
 ·have hp' := (List.mem_filter.1 hp).1
  exact (h4 p hp').keep fun g hg => hk g ((h4 p hp').lt g hg).2 (by have := ((h4 p hp').lt g hg).1; have := h.lth; omega)
set_option maxHeartbeats 4000000 in
theorem see_any (bb ms mh B : Nat) (S : BookS) (d : Dot) (hd : May d) (w : World) (h : BookAt w bb ms mh B S) :
  Calls Tryz.prog 54 #[.pointer (some ⟨bb, 0, none⟩), .agg #[.int .i64 d.node, .int .i64 d.seq]] w fun e w' => e = .returned (.tuple #[]) ∧ BookAt w' bb ms mh B (seeB S d) ∧ Turns3 bb ms mh w w' := by
 have hb1 := (Below.refl w.heap.size w).alloc (Nat.le_refl _) (.cells #[.int .i64 d.node, .int .i64 d.seq] 40)
 have h1 : BookAt (w.alloc (.cells #[.int .i64 d.node, .int .i64 d.seq] 40)).drew bb ms mh B S := h.below (below_drew hb1) (Nat.le_refl _)
 have hnew : (w.alloc (.cells #[.int .i64 d.node, .int .i64 d.seq] 40)).heap[w.heap.size]? = some (.cells #[.int .i64 d.node, .int .i64 d.seq] 40) := heap_alloc_new w _
 obtain ⟨Es, h2, h3⟩ := h1.seen
 have hlen := entries_len h2 fun p hp => ((h3 p.1 p.2).1 hp).2.1
 obtain ⟨w2, hrun, hm2, hg2⟩ := h2.store Tryz.underlying93 (by omega) (may_fits hd) (.bool true)
 have h4 := h1.marked hd h3 hm2 hg2
 have h5 : BookAt w2.drew bb ms mh B ⟨(seeB S d).saw, S.holds, S.time⟩ := h4.below (below_drew (Below.refl w2.heap.size w2)) (Nat.le_refl _)
 obtain ⟨Eh, hs, k1, k2, k3, k4⟩ := h5.holds
 obtain ⟨w3, hrun3, hm3, hg3⟩ := k1.drop Tryz.underlying94 (may_fits hd) 0
 have h6 := h5.dropped k2 k3 k4 hm3 hg3
 have hbw : bb < w.heap.size := by have := h.size; have := h.ltb; omega
 have ht : Turns3 bb ms mh w w3 := (Turns3.of_below (below_drew hb1)).trans ((Turns3.of_grown hg2 (.inr (.inl rfl))).trans ((Turns3.of_below (below_drew (Below.refl _ _))).trans (Turns3.of_grown hg3 (.inr (.inr rfl)))))
 have c0 : (w.alloc (.cells #[.int .i64 d.node, .int .i64 d.seq] 40)).drew.cell? ⟨bb, 0, none⟩ = some (.map (some ms)) := cell_of_row _ bb 0 _ _ _ h1.obj
 have c1 : w2.drew.cell? ⟨bb, 1, none⟩ = some (.map (some mh)) := cell_of_row _ bb 1 _ _ _ h5.obj
 have hmsn : w.heap.size ≠ ms := by have := h.size; have := h.lts; omega
 have hnew2 : w2.drew.heap[w.heap.size]? = some (.cells #[.int .i64 d.node, .int .i64 d.seq] 40) := (hg2.block w.heap.size (by show _ < (w.alloc _).heap.size; simp) (fun e => hmsn (Option.some.inj e))).trans hnew
 have d0 : (w.alloc (.cells #[.int .i64 d.node, .int .i64 d.seq] 40)).drew.cell? ⟨w.heap.size, 0, none⟩ = some (.int .i64 d.node) := cell_of_row _ w.heap.size 0 _ _ _ hnew
 have d1 : (w.alloc (.cells #[.int .i64 d.node, .int .i64 d.seq] 40)).drew.cell? ⟨w.heap.size, 1, none⟩ = some (.int .i64 d.seq) := cell_of_row _ w.heap.size 1 _ _ _ hnew
 have k0 : w2.drew.cell? ⟨w.heap.size, 0, none⟩ = some (.int .i64 d.node) := cell_of_row _ w.heap.size 0 _ _ _ hnew2
 have k1' : w2.drew.cell? ⟨w.heap.size, 1, none⟩ = some (.int .i64 d.seq) := cell_of_row _ w.heap.size 1 _ _ _ hnew2
 unfold dotVal at hrun hrun3
 have H6 := Lib.hid h6
 have HT := Lib.hid ht
 clear h h1 h2 h3 h4 h5 h6 k1 k2 k3 k4 hm2 hm3 hg2 hg3 hb1 ht hnew hnew2
 go_enter Tryz.func54, Tryz.ntmps54
 go_wp2_with fail
 generalize w.alloc (.cells #[.int .i64 d.node, .int .i64 d.seq] 40) = w1 at *
 go_region_law (fail)
 all_goals
  go_wp2_with fail
  go_region_law (fail)
 all_goals
  go_wp2_with fail
  go_end0
  exact ⟨rfl, H6.out, HT.out⟩
end Go.Proofs.YtenkfnhcdfmkaaaGreat
namespace Go.Proofs.YtenkfnhcdfmkaaaGreat
open Go.Shelf Go.RowKit Go.Lib Go.Sort
set_option linter.unusedVariables false
set_option maxHeartbeats 4000000 in
theorem beach_any (K : Nat) (pre free : Array Value) (eg : ∀ args w, (callFunc K args).run Tryz.prog w = .ok (.enter K args) w) (oa : Option Addr) (cap : Nat) (ds : List Dot) (Inv : Nat → World → Prop) (hs : Steps K pre free ds Inv)
  (hr : ∀ i W, Inv i W → SlAt Dot.cells W (.slice oa ds.length cap) ds) (hl : ds.length ≤ 1000000) (w : World) (h0 : Inv 0 w) :
  Calls Tryz.prog 55 #[.slice oa ds.length cap, .func (.func K) pre free] w fun e w' => e = .returned (.tuple #[]) ∧ Inv ds.length w' := by
 have HS := Lib.hid hs
 have HR := Lib.hid hr
 have H0 := Lib.hid h0
 clear hs hr h0
 go_enter Tryz.func55, Tryz.ntmps55
 go_wp2_with fail
 go_loopg [8] ds.length (fun gk s8 wr => ∃ (i : Nat), s8 = .int .i64 i ∧ i ≤ ds.length ∧ ds.length - i ≤ gk ∧ Hid (Inv i wr))
 case atStart => exact ⟨0, rfl, Nat.zero_le _, Nat.le_refl _, H0.out⟩
 case round =>
  obtain ⟨i, rfl, hi, hg, HI⟩ := hrel
  by_cases hlt : i < ds.length
  ·have hltz : (i : Int) < (ds.length : Int) := by omega
   have hsl := HR.out i wr HI.out
   obtain ⟨b, off, rfl⟩ := hsl.plain Dot.cells_len (by decide) (by intro e; rw [e] at hlt; exact absurd hlt (by simp))
   have c0 := hsl.cell Dot.cells_len (i := i) (c := 0) hlt (by decide)
   have c1 := hsl.cell Dot.cells_len (i := i) (c := 1) hlt (by decide)
   have hst := fun W (hb : Below wr.heap.size wr W) => HS.out.1 i hlt W (HS.out.2 i wr W HI.out hb)
   simp only [Dot.cells, List.getElem?_cons_zero, List.getElem?_cons_succ] at c0 c1
   have e0 : off + (i * 2 + 0) = off + i * 2 := by omega
   have e1 : off + (i * 2 + 1) = off + i * 2 + 1 := by omega
   rw [e0] at c0
   rw [e1] at c1
   generalize ds[i] = d at *
   have HST := Lib.hid hst
   clear hsl hst e0 e1
   go_wp2_with fail
   refine (HST.out _ ((Below.refl _ _).alloc (Nat.le_refl _) _)).mono ?_
   rintro e w1 ⟨rfl, hI⟩
   have HI1 := Lib.hid hI
   clear hI c0 c1 HST HI
   go_wp2_with fail
   go_roundg (ds.length - (i + 1))
   case measure => omega
   case rel => exact ⟨i + 1, by go_num, by omega, Nat.le_refl _, HI1.out⟩
  ·have hltz : ¬ (i : Int) < (ds.length : Int) := by omega
   obtain rfl : i = ds.length := by omega
   go_wp2_with fail
   go_end0
   exact ⟨rfl, HI.out⟩
set_option maxHeartbeats 4000000 in
theorem own_any (hd : Hdr) (ev : Ev) (w : World) (h : SlAt Dot.cells w hd.val ev.rem) (hl : ev.rem.length ≤ 1000000) :
  Calls Tryz.prog 56 #[.agg #[.int .i64 ev.dot.node, .int .i64 ev.dot.seq, .int .i64 ev.time, .int .i64 ev.kind, .int .i64 ev.work, .int .i64 ev.value, .int .i64 ev.pol.mn, .int .i64 ev.pol.mx, .int .i64 ev.pol.goal, .int .i64 ev.pol.slack, .int .i64 ev.pol.up, .int .i64 ev.pol.down, .int .i64 ev.pol.cool, hd.val]] w fun e w' => ∃ hd' : Hdr, e = .returned (.agg #[.int .i64 ev.dot.node, .int .i64 ev.dot.seq, .int .i64 ev.time, .int .i64 ev.kind, .int .i64 ev.work, .int .i64 ev.value, .int .i64 ev.pol.mn, .int .i64 ev.pol.mx, .int .i64 ev.pol.goal, .int .i64 ev.pol.slack, .int .i64 ev.pol.up, .int .i64 ev.pol.down, .int .i64 ev.pol.cool, hd'.val]) ∧ Owns Dot.cells 2 w.heap.size 40 w' hd'.val ev.rem ∧ Below w.heap.size w w' := by
 obtain ⟨ra, rn, rc⟩ := hd
 simp only [Hdr.val] at h ⊢
 obtain ⟨hr0, hr1, hb2, hsz⟩ := alloc2 w (.cells #[.int .i64 ev.dot.node, .int .i64 ev.dot.seq, .int .i64 ev.time, .int .i64 ev.kind, .int .i64 ev.work, .int .i64 ev.value, .int .i64 ev.pol.mn, .int .i64 ev.pol.mx, .int .i64 ev.pol.goal, .int .i64 ev.pol.slack, .int .i64 ev.pol.up, .int .i64 ev.pol.down, .int .i64 ev.pol.cool, .slice ra rn rc] 44) (.cells #[.int .i64 0, .int .i64 0, .int .i64 0, .int .i64 0, .int .i64 0, .int .i64 0, .int .i64 0, .int .i64 0, .int .i64 0, .int .i64 0, .int .i64 0, .int .i64 0, .int .i64 0, .slice none 0 0] 44)
 have hcl := cloneDot_any (.slice ra rn rc) ev.rem _ (h.below Dot.cells_len (by decide) hb2 (Nat.le_refl _)) hl
 have HCL := Lib.hid hcl
 have HR0 := Lib.hid hr0
 have HR1 := Lib.hid hr1
 have HB2 := Lib.hid hb2
 clear hr0 hr1 hb2 hcl h
 go_enter Tryz.func56, Tryz.ntmps56
 go_wp2_with fail
 generalize ((w.alloc (.cells #[.int .i64 ev.dot.node, .int .i64 ev.dot.seq, .int .i64 ev.time, .int .i64 ev.kind, .int .i64 ev.work, .int .i64 ev.value, .int .i64 ev.pol.mn, .int .i64 ev.pol.mx, .int .i64 ev.pol.goal, .int .i64 ev.pol.slack, .int .i64 ev.pol.up, .int .i64 ev.pol.down, .int .i64 ev.pol.cool, .slice ra rn rc] 44)).alloc (.cells #[.int .i64 0, .int .i64 0, .int .i64 0, .int .i64 0, .int .i64 0, .int .i64 0, .int .i64 0, .int .i64 0, .int .i64 0, .int .i64 0, .int .i64 0, .int .i64 0, .int .i64 0, .slice none 0 0] 44)) = w2 at *
 refine HCL.out.mono ?_
 rintro e w3 ⟨⟨oa, on, oc⟩, rfl, hown, hb3⟩
 have q0 := (hb3.block w.heap.size (by omega)).trans HR0.out
 have q1 := (hb3.block (w.heap.size + 1) (by omega)).trans HR1.out
 have hA : ∀ o, w3.cell? ⟨w.heap.size, o, none⟩ = (#[.int .i64 ev.dot.node, .int .i64 ev.dot.seq, .int .i64 ev.time, .int .i64 ev.kind, .int .i64 ev.work, .int .i64 ev.value, .int .i64 ev.pol.mn, .int .i64 ev.pol.mx, .int .i64 ev.pol.goal, .int .i64 ev.pol.slack, .int .i64 ev.pol.up, .int .i64 ev.pol.down, .int .i64 ev.pol.cool, .slice ra rn rc] : Array Value)[o]? := fun o => by unfold World.cell?; rw [q0]; rfl
 have hB : ∀ o, w3.cell? ⟨w.heap.size + 1, o, none⟩ = (#[.int .i64 0, .int .i64 0, .int .i64 0, .int .i64 0, .int .i64 0, .int .i64 0, .int .i64 0, .int .i64 0, .int .i64 0, .int .i64 0, .int .i64 0, .int .i64 0, .int .i64 0, .slice none 0 0] : Array Value)[o]? := fun o => by unfold World.cell?; rw [q1]; rfl
 have fA : ∀ o, w3.frozen? ⟨w.heap.size, o, none⟩ = false := fun o => by unfold World.frozen?; rw [q0]; simp
 have fB : ∀ o, w3.frozen? ⟨w.heap.size + 1, o, none⟩ = false := fun o => by unfold World.frozen?; rw [q1]; simp
 have HB3 := Lib.hid (HB2.out.trans (hb3.mono (by omega)))
 have HO := Lib.hid hown
 have hz3 := hb3.size
 clear q0 q1 hown hb3 HCL
 simp only [Hdr.val]
 go_wp2_with fail
 refine bodyPost_ret (v := .agg #[.int .i64 ev.dot.node, .int .i64 ev.dot.seq, .int .i64 ev.time, .int .i64 ev.kind, .int .i64 ev.work, .int .i64 ev.value, .int .i64 ev.pol.mn, .int .i64 ev.pol.mx, .int .i64 ev.pol.goal, .int .i64 ev.pol.slack, .int .i64 ev.pol.up, .int .i64 ev.pol.down, .int .i64 ev.pol.cool, .slice oa on oc]) (by simp [results, Tryz.results56, go_sem, cell_set, hB]) rfl ⟨⟨oa, on, oc⟩, rfl, ?_, ?_⟩
 ·refine (HO.out.keep fun g hg2 => ?_).lower (by omega)
  have hgb := (HO.out.lt g hg2).1
  have key0 : ∀ (W : World) (o : Nat) (u : Value), (W.setCell ⟨w.heap.size, o, none⟩ u).heap[g]? = W.heap[g]? := fun W o u => Below.heap_setCell _ _ _ _ (by show g ≠ w.heap.size; omega)
  have key1 : ∀ (W : World) (o : Nat) (u : Value), (W.setCell ⟨w.heap.size + 1, o, none⟩ u).heap[g]? = W.heap[g]? := fun W o u => Below.heap_setCell _ _ _ _ (by show g ≠ w.heap.size + 1; omega)
  simp only [key0, key1]
 ·have hb := HB3.out
  clear hA hB fA fB
  go_grown
end Go.Proofs.YtenkfnhcdfmkaaaGreat
