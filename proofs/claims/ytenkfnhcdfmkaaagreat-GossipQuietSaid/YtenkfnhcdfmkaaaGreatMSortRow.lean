/-
  Between a row of one's own (Owns) and the kit's words for a row that is being sorted (HoldsK, sortWorldK): there and back. No function of the program is entered.
  A row of dots that may be, sorted by the library's SortFunc with the book's order: the same dots, each before the next.
  A book's walk: what a function value leaves that goes through the events that hold, in order.
-/
import Derived.Test.YtenkfnhcdfmkaaaGreatMRd
import Derived.Test.YtenkfnhcdfmkaaaGreatMSortPure
import Derived.Shelf.SlSortCmp.KitK
import Derived.Test.YtenkfnhcdfmkaaaGreatMDotP
import Derived.Test.YtenkfnhcdfmkaaaGreatMAcc
import Derived.Test.YtenkfnhcdfmkaaaGreatLay
import Derived.Shelf.SlSortCmp.NoneTotal
import Derived.Test.YtenkfnhcdfmkaaaGreatMBookQ
namespace Go.Proofs.YtenkfnhcdfmkaaaGreat
open Go.Shelf Go.RowKit Go.Lib Go.Sort
set_option linter.unusedVariables false
variable {α : Type} [Inhabited α]
theorem flatK_toList (enc : α → List Value) (k : Nat) (k0 : 0 < k) (hk : ∀ x, (enc x).length = k) (l : List α) : (flatK enc k l.toArray).toList = l.flatMap enc := by
 apply List.ext_getElem?
 intro j
 by_cases hj : j < l.length * k
 ·have hj' : j < (flatK enc k l.toArray).size := by simpa using hj
  rw [Array.getElem?_toList, Array.getElem?_eq_getElem hj']
  have hd : j / k < l.length := (Nat.div_lt_iff_lt_mul k0).2 hj
  have hm : j % k < k := Nat.mod_lt _ k0
  have e : (l.flatMap enc)[j / k * k + j % k]? = (enc l[j / k])[j % k]? := flat_at enc k hk l (j / k) (j % k) hd hm
  have e2 : j / k * k + j % k = j := by have := Nat.div_add_mod j k; rw [Nat.mul_comm] at this; exact this
  rw [e2] at e
  rw [e, List.getElem?_eq_getElem (by rw [hk]; exact hm)]
  have g := get_flatK enc k l.toArray j (by simpa using hj)
  rw [getElem!_pos _ j hj'] at g
  rw [g, getElem!_pos l.toArray (j / k) (by simpa using hd)]
  simp [getElem!_pos, hk, hm]
 ·rw [Array.getElem?_toList, Array.getElem?_eq_none (by simpa using hj), List.getElem?_eq_none (by rw [flat_len enc k hk]; omega)]
theorem owns_holds {enc : α → List Value} {k base e : Nat} (k0 : 0 < k) (hk : ∀ x, (enc x).length = k) {w : World} {g n cap : Nat} {l : List α} (h : Owns enc k base e w (.slice (some ⟨g, 0, none⟩) n cap) l) : HoldsK enc k w g 0 l.toArray := by
 rcases h.2 with ⟨h, _⟩ | ⟨g', cap', cur, hv, hb, hh, hc, hm, hs, ht⟩
 ·cases h
 ·simp only [Value.slice.injEq, Option.some.injEq, Addr.mk.injEq] at hv
  obtain ⟨⟨rfl, _, _⟩, _, _⟩ := hv
  intro j hj
  have hj' : j < l.length * k := by simpa using hj
  refine ⟨?_, by simp [World.frozen?, hh]⟩
  have e1 : (flatK enc k l.toArray)[j]! = (flatK enc k l.toArray)[j] := getElem!_pos _ j hj
  have e2 : (l.flatMap enc)[j]? = some ((flatK enc k l.toArray)[j]) := by rw [← flatK_toList enc k k0 hk, Array.getElem?_toList, Array.getElem?_eq_getElem hj]
  have e3 := World.ownsRow.cells h (g := g) rfl j _ e2
  rw [Addr.add_lit] at e3
  rw [e1]
  exact e3
theorem grownBy_sort {enc : α → List Value} {k : Nat} {w : World} {g n : Nat} {os : Array Obj} (d : Array α) : w.grownBy (sortWorldK enc k w g 0 n d os) (some g) := by
 unfold sortWorldK putRowK
 refine ⟨rfl, rfl, rfl, by simp, fun k hk hne => ?_⟩
 rw [heap_grow_old _ _ (by simpa using hk)]
 have : g ≠ k := fun e => hne (by rw [e])
 simp [putRow, mapBlock, Sort.ahead, Array.getElem?_modify, this]
theorem owns_sorted {enc : α → List Value} {k base e : Nat} (k0 : 0 < k) (hk : ∀ x, (enc x).length = k) {w : World} {g n c cap : Nat} {os : Array Obj} {l : List α} (h : Owns enc k base e w (.slice (some ⟨g, 0, none⟩) n cap) l) (d : Array α) (hs : d.size = l.length) :
  Owns enc k base e (sortWorldK enc k w g 0 c d os) (.slice (some ⟨g, 0, none⟩) n cap) d.toList := by
 rcases h.2 with ⟨h, _⟩ | ⟨g', cap', cur, hv, hb, hh, hc, hm, hcs, ht⟩
 ·cases h
 ·simp only [Value.slice.injEq, Option.some.injEq, Addr.mk.injEq] at hv
  obtain ⟨⟨rfl, _, _⟩, rfl, rfl⟩ := hv
  have hlen : d.toList.length = l.length := by simpa using hs
  refine ⟨flat_len enc k hk _, .inr ⟨g, cap, putCells id 0 (flatK enc k d) cur, by rw [hlen], hb, ?_, by rw [hlen]; exact hc, hm, by simp [putCells, hcs], ?_⟩⟩
  ·have hg : g < w.heap.size := (Array.getElem?_eq_some_iff.1 hh).1
   unfold sortWorldK putRowK
   rw [heap_grow_old _ _ (by simpa using hg)]
   simp [putRow, mapBlock, Sort.ahead, Array.getElem?_modify, hh, onCells]
  ·have e1 : (flatK enc k d).toList = d.toList.flatMap enc := by have := flatK_toList enc k k0 hk d.toList; simpa using this
   rw [← e1]
   have hsz : (flatK enc k d).size = d.toList.length * k := by simp
   have hle : d.toList.length * k ≤ cur.size := by rw [hcs, hlen]; exact Nat.mul_le_mul_right _ hc
   apply List.ext_getElem?
   intro j
   by_cases hj : j < d.toList.length * k
   ·have hjF : j < (flatK enc k d).size := by omega
    have hjc : j < cur.size := by omega
    have hp : (putCells id 0 (flatK enc k d) cur)[j]? = some ((flatK enc k d)[j]!) := by
     have hjc2 : j < (putCells id 0 (flatK enc k d) cur).size := by simp only [putCells, Array.size_mapIdx]; exact hjc
     rw [Array.getElem?_eq_getElem hjc2]
     congr 1
     simp only [putCells, Array.getElem_mapIdx, Nat.zero_le, true_and, Nat.zero_add, Nat.sub_zero, id]
     rw [if_pos hjF]
    rw [List.getElem?_take_of_lt hj, Array.getElem?_toList, Array.getElem?_toList, hp, Array.getElem?_eq_getElem hjF, getElem!_pos _ j hjF]
   ·rw [List.getElem?_take_eq_none (by omega), Array.getElem?_toList, Array.getElem?_eq_none (by omega)]
end Go.Proofs.YtenkfnhcdfmkaaaGreat
namespace Go.Proofs.YtenkfnhcdfmkaaaGreat
open Go.Shelf Go.RowKit Go.Lib Go.Sort
set_option linter.unusedVariables false
abbrev MDot := { d : Dot // May d }
instance : Inhabited MDot := ⟨⟨⟨0, 1⟩, by decide⟩⟩
def mcells (d : MDot) : List Value := Dot.cells d.1
def ordDot (a b : Dot) : Int := if a.node = b.node then a.seq - b.seq else a.node - b.node
theorem ordDot_neg {a b : Dot} : ordDot a b < 0 ↔ Before a b := by
 unfold ordDot Before
 split <;> omega
theorem ltOf_ord (a b : MDot) : ltOf (fun x y : MDot => ordDot x.1 y.1) a b = decide (Before a.1 b.1) := by
 unfold ltOf
 rw [Bool.eq_iff_iff, decide_eq_true_eq, decide_eq_true_eq]
 exact ordDot_neg
theorem swo_ord : SWO (ltOf fun x y : MDot => ordDot x.1 y.1) where
 irrefl x := by rw [ltOf_ord]; exact decide_eq_false (Before.irrefl _)
 trans x y z h1 h2 := by rw [ltOf_ord] at *; rw [decide_eq_true_eq] at *; exact h1.trans h2
 ntrans x y z h1 h2 := by rw [ltOf_ord] at *; rw [decide_eq_false_iff_not] at *; unfold Before at *; omega
theorem total_ord (x y : MDot) (h1 : ltOf (fun x y : MDot => ordDot x.1 y.1) x y = false) (h2 : ltOf (fun x y : MDot => ordDot x.1 y.1) y x = false) : x = y := by
 rw [ltOf_ord, decide_eq_false_iff_not] at h1 h2
 obtain ⟨⟨a, b⟩, _⟩ := x
 obtain ⟨⟨c, d⟩, _⟩ := y
 unfold Before at h1 h2
 simp only at h1 h2
 simp only [Subtype.mk.injEq, Dot.mk.injEq]
 omega
set_option maxHeartbeats 2000000 in
theorem walkCmp_any (a b : Dot) (ha : May a) (hb : May b) (w : World) : Calls Tryz.prog 106 #[.agg #[.int .i64 a.node, .int .i64 a.seq], .agg #[.int .i64 b.node, .int .i64 b.seq]] w fun e w' => e = .returned (.int .i64 (ordDot a b)) ∧ Grew w w' := by
 obtain ⟨h1, h2, h3, h4⟩ := ha
 obtain ⟨k1, k2, k3, k4⟩ := hb
 by_cases he : a.node = b.node
 ·have hm : ordDot a b = a.seq - b.seq := by unfold ordDot; rw [if_pos he]
  rw [hm]; clear hm
  go_enter Tryz.func106, Tryz.ntmps106
  go_wp2_with fail
  go_ret
  exact ⟨by go_num, ((Grew.refl _).alloc _).alloc _⟩
 ·have hm : ordDot a b = a.node - b.node := by unfold ordDot; rw [if_neg he]
  rw [hm]; clear hm
  go_enter Tryz.func106, Tryz.ntmps106
  go_wp2_with fail
  go_ret
  exact ⟨by go_num, ((Grew.refl _).alloc _).alloc _⟩
theorem mcells_flat : ∀ (l : List MDot), l.flatMap mcells = (l.map (·.1)).flatMap Dot.cells
 | [] => rfl
 | a :: l => by rw [List.flatMap_cons, List.map_cons, List.flatMap_cons, mcells_flat l]; rfl
theorem lift_may : ∀ (l : List Dot), (∀ d ∈ l, May d) → ∃ m : List MDot, m.map (·.1) = l
 | [], _ => ⟨[], rfl⟩
 | a :: l, h => by
  obtain ⟨m, hm⟩ := lift_may l fun d hd => h d (by simp [hd])
  exact ⟨⟨a, h a (by simp)⟩ :: m, by rw [List.map_cons, hm]⟩
theorem owns_lift {base e : Nat} {w : World} {v : Value} {m : List MDot} : Owns mcells 2 base e w v m ↔ Owns Dot.cells 2 base e w v (m.map (·.1)) := by
 unfold Owns
 rw [mcells_flat, List.length_map]
theorem aggDot : ∀ w, (isAgg 40).run Tryz.prog w = .ok true w := fun w => by kernel_rfl
theorem sizeDot : ∀ w, (Go.sizeOf 40).run Tryz.prog w = .ok 2 w := fun w => by kernel_rfl
theorem sortDots_any (base : Nat) (v : Value) (l : List Dot) (w : World) (h : Owns Dot.cells 2 base 40 w v l) (hm : ∀ d ∈ l, May d) (hn : l.Nodup) (hl : l.length ≤ 1000000) :
  Calls Tryz.prog 105 #[v, .func (.func 106) #[] #[]] w fun e w' => e = .returned (.tuple #[]) ∧ ∃ l', l'.length = l.length ∧ (∀ d, d ∈ l' ↔ d ∈ l) ∧ l'.Pairwise Before ∧ Owns Dot.cells 2 base 40 w' v l' ∧ w.grownBy w' v.ownBlock := by
 have eg : ∀ args w, (callFunc 106 args).run Tryz.prog w = .ok (.enter 106 args) w := enters_of Tryz.func106 (by kernel_rfl) rfl
 by_cases he : l = []
 ·subst he
  obtain ⟨oa, cap, rfl⟩ := slAt_slice h.at
  refine (AnyF.slices_SortFunc_none (P := Tryz.prog) (ρ := laysSlLaysF06_ren) laysSlLaysF06 oa cap _ w).mono ?_
  rintro e w' ⟨rfl, rfl⟩
  exact ⟨rfl, [], rfl, fun d => Iff.rfl, List.Pairwise.nil, h, World.grownBy.refl _ _⟩
 ·obtain ⟨m, rfl⟩ := lift_may l hm
  have hO := owns_lift.2 h
  obtain ⟨g, cap, hv, hgl⟩ : ∃ g cap, v = .slice (some ⟨g, 0, none⟩) m.length cap ∧ g < w.heap.size := by
   rcases hO.2 with ⟨hv, hn⟩ | ⟨g, cap, cur, hv, hb, hh, _⟩
   ·exact absurd (by rw [List.eq_nil_of_length_eq_zero hn]; rfl) he
   ·exact ⟨g, cap, hv, (Array.getElem?_eq_some_iff.1 hh).1⟩
  subst hv
  have hH := owns_holds (by decide : 0 < 2) (fun _ => rfl) hO
  have hcmp : CmpLays Tryz.prog 106 #[] mcells 2 (fun x y : MDot => ordDot x.1 y.1) g 0 m.toArray.size w := fun k os dk _ x y => (walkCmp_any x.1 y.1 x.2 y.2 _).mono fun e w' ⟨h1, q, os', h2⟩ => ⟨h1, q, os', h2⟩
  have hc := AnyQ.slices_SortFunc_total (P := Tryz.prog) (ρ := laysSlLaysF06_ren) laysSlLaysF06 2 aggDot sizeDot mcells (fun _ => rfl) (fun x => Dot.cells_one x.1) (fun x y : MDot => ordDot x.1 y.1) swo_ord 106 #[] g 0 cap m.toArray w eg hcmp hH hgl (by rw [List.size_toArray]; rw [List.length_map] at hl; omega) total_ord
  rw [List.size_toArray] at hc
  refine hc.mono ?_
  rintro e w' ⟨rfl, n, os, rfl⟩
  have hperm := List.mergeSort_perm m.toArray.toList (fun x y : MDot => !ltOf (fun x y : MDot => ordDot x.1 y.1) y x)
  have hsorted := List.pairwise_mergeSort (le := fun x y : MDot => !ltOf (fun x y : MDot => ordDot x.1 y.1) y x) (fun a b c h1 h2 => by
   rw [ltOf_ord] at *
   simp only [Bool.not_eq_true', decide_eq_false_iff_not] at *
   unfold Before at *; omega) (fun a b => by
   rw [ltOf_ord, ltOf_ord]
   simp only [Bool.or_eq_true, Bool.not_eq_true', decide_eq_false_iff_not]
   unfold Before; omega) m.toArray.toList
  generalize hr : m.toArray.toList.mergeSort (fun x y : MDot => !ltOf (fun x y : MDot => ordDot x.1 y.1) y x) = r at *
  have hpm : r.Perm m := hperm
  have hmem : ∀ d, d ∈ r.map (·.1) ↔ d ∈ m.map (·.1) := fun d => (hpm.map (·.1)).mem_iff
  have hnd : (r.map (·.1)).Nodup := (hpm.map (·.1)).nodup_iff.2 hn
  have hown := owns_sorted (os := os) (c := n) (by decide : 0 < 2) (fun _ => rfl) hO r.toArray (by rw [List.size_toArray]; exact hpm.length_eq)
  refine ⟨rfl, r.map (·.1), by rw [List.length_map, List.length_map]; exact hpm.length_eq, hmem, ?_, owns_lift.1 hown, grownBy_sort _⟩
  rw [List.pairwise_map]
  have hnd2 : r.Pairwise fun a b => a.1 ≠ b.1 := List.pairwise_map.1 hnd
  refine (hsorted.and hnd2).imp fun {a b} ⟨h1, h2⟩ => ?_
  rw [ltOf_ord] at h1
  simp only [Bool.not_eq_true', decide_eq_false_iff_not] at h1
  obtain ⟨⟨a1, a2⟩, _⟩ := a
  obtain ⟨⟨b1, b2⟩, _⟩ := b
  unfold Before at *
  simp only [ne_eq, Dot.mk.injEq] at h1 h2 ⊢
  omega
end Go.Proofs.YtenkfnhcdfmkaaaGreat
namespace Go.Proofs.YtenkfnhcdfmkaaaGreat
open Go.Shelf Go.RowKit Go.Lib Go.Sort
set_option linter.unusedVariables false
def CoreAt (W : World) (bb ms mh : Nat) (t : Int) (Eh : List (Dot × Value)) : Prop := W.heap[bb]? = some (.cells #[.map (some ms), .map (some mh), .int .i64 t] 96) ∧ DotMapAt W mh Eh
structure Coll (Eh todo : List (Dot × Value)) (ds : List Dot) : Prop where
  nd : ds.Nodup
  mem : ∀ d, d ∈ Eh.map (·.1) ↔ d ∈ ds ∨ d ∈ todo.map (·.1)
  apart : ∀ d ∈ ds, d ∉ todo.map (·.1)
theorem Coll.start (Eh : List (Dot × Value)) : Coll Eh Eh [] := ⟨List.Pairwise.nil, fun d => by simp, fun d h => nomatch h⟩
theorem Coll.step {Eh todo : List (Dot × Value)} {ds : List Dot} (h : Coll Eh todo ds) {d : Dot} {v : Value} (hd : (d, v) ∈ todo) : Coll Eh (delE todo d) (ds ++ [d]) := by
  have hm : ∀ x, x ∈ (delE todo d).map (·.1) ↔ x ∈ todo.map (·.1) ∧ x ≠ d := fun x => by
    constructor
    · intro hx
      obtain ⟨⟨a, u⟩, hp, rfl⟩ := List.mem_map.1 hx
      obtain ⟨h1, h2⟩ := mem_delE.1 hp
      exact ⟨List.mem_map_of_mem (f := (·.1)) h1, h2⟩
    · rintro ⟨hx, hne⟩
      obtain ⟨⟨a, u⟩, hp, rfl⟩ := List.mem_map.1 hx
      exact List.mem_map_of_mem (f := (·.1)) (mem_delE.2 ⟨hp, hne⟩)
  have hdt : d ∈ todo.map (·.1) := List.mem_map_of_mem (f := (·.1)) hd
  refine ⟨List.nodup_append.2 ⟨h.nd, List.nodup_cons.2 ⟨List.not_mem_nil, List.Pairwise.nil⟩, fun a ha b hb => ?_⟩, fun x => ?_, fun x hx => ?_⟩
  · obtain rfl : b = d := by simpa using hb
    exact fun e => h.apart a ha (e ▸ hdt)
  · rw [h.mem x, hm x, List.mem_append, List.mem_singleton]
    by_cases e : x = d
    · subst e; simp [hdt]
    · simp [e]
  · rw [hm x]
    rintro ⟨h1, h2⟩
    rcases List.mem_append.1 hx with h3 | h3
    · exact h.apart x h3 h1
    · exact h2 (by simpa using h3)
set_option maxHeartbeats 8000000 in
theorem bookWalk_any (K : Nat) (pre free : Array Value) (eg : ∀ args w, (callFunc K args).run Tryz.prog w = .ok (.enter K args) w) (bb ms mh : Nat) (t : Int) (Eh : List (Dot × Value)) (hs : List PEv) (hby : ByDot (hs.map (·.2))) (hmay : ∀ p ∈ hs, May p.2.dot)
    (h3 : ∀ d v, (d, v) ∈ Eh ↔ ∃ p, p ∈ hs ∧ d = p.2.dot ∧ v = evVal p) (Inv : Nat → Obj → Nat → World → Prop) (Q : World → Prop) (w : World)
    (hI : ∀ rb ob i W, Inv rb ob i W → CoreAt W bb ms mh t Eh ∧ W.heap[rb]? = some ob) (hmono : ∀ rb ob i W W', Inv rb ob i W → Below W.heap.size W W' → Inv rb ob i W')
    (hstep : ∀ rb ob i (hi : i < hs.length) W, Inv rb ob i W → Calls Tryz.prog K (pre.push (evVal hs[i]) ++ free) W fun e w' => ∃ c, e = .returned (.bool c) ∧ (c = true → Inv rb ob (i + 1) w') ∧ (c = false → Q w')) (hQ : ∀ rb ob W, Inv rb ob hs.length W → Q W)
    (hcore : CoreAt w bb ms mh t Eh) (h0 : ∀ rb ob W, w.heap.size ≤ rb → W.heap[rb]? = some ob → Below w.heap.size w W → Inv rb ob 0 W) :
    Calls Tryz.prog 72 #[.pointer (some ⟨bb, 0, none⟩), .func (.func K) pre free] w fun e w' => e = .returned (.tuple #[]) ∧ Q w' := by
  obtain ⟨hob, hmp⟩ := hcore
  obtain ⟨w1, hrun1, hrg1, hg1, hs1⟩ := hmp.range Tryz.underlying94
  have c1 : w.cell? ⟨bb, 1, none⟩ = some (.map (some mh)) := cell_of_row _ bb 1 _ _ _ hob
  have HRG1 := Lib.hid hrg1
  have HG1 := Lib.hid hg1
  go_enter Tryz.func72, Tryz.ntmps72
  go_wp2_with fail
  have HH0 := Lib.hid h0
  have HHM := Lib.hid hmono
  have HHI := Lib.hid hI
  have HSTEP := Lib.hid hstep
  have HQQ := Lib.hid hQ
  have HMY := Lib.hid hmay
  have HBY := Lib.hid hby
  have H3 := Lib.hid h3
  have hmm := hmp.lt
  have hlen := entries_len hmp fun p hp => by obtain ⟨q, hq, h1, _⟩ := (h3 p.1 p.2).1 hp; rw [h1]; exact hmay q hq
  have hb01 : Below w.heap.size w w1 := ⟨hg1.os, hg1.tape, hg1.output, hg1.size, fun i hi => hg1.block i hi (by simp)⟩
  have HB01 := Lib.hid hb01
  clear h0 hmono hI hstep hQ hmay hby h3 hrun1 hrg1 hg1 HG1 hb01 c1 hob hmp
  go_loopg [4] Eh.length (fun gk s4 wr => ∃ (todo : List (Dot × Value)) (ds : List Dot) (oq : Option Addr) (cq : Nat), s4 = .slice oq ds.length cq ∧ todo.length ≤ gk ∧ todo.length + ds.length ≤ 768 ∧ Hid (DotRange wr mh w.heap.size Eh todo) ∧ Hid (Owns Dot.cells 2 (w.heap.size + 1) 40 wr (.slice oq ds.length cq) ds) ∧ Hid (Below w.heap.size w wr) ∧ w.heap.size + 1 ≤ wr.heap.size ∧ Hid (Coll Eh todo ds))
  case atStart => exact ⟨Eh, [], none, 0, rfl, Nat.le_refl _, by simpa using hlen, HRG1.out, Owns.nil _ _ _ _ _, HB01.out, by omega, Coll.start Eh⟩
  case round =>
    obtain ⟨todo, ds, oq, cq, rfl, hg, hle, HR, HO, HB, hszr, HC⟩ := hrel
    rcases HR.out.next 0 with ⟨htd, hrun⟩ | ⟨d, v, w2, hmem, hrun, hrg2, hlen2, hg2, hs2, hen⟩
    · subst htd
      have hcoll := HC.out
      have hrlt := HR.out.lt
      clear HR HC HRG1 HB01
      go_wp2_with fail
      have hdm : ∀ d ∈ ds, ∃ q ∈ hs, d = q.2.dot := fun d hd => by
        obtain ⟨⟨a, u⟩, hp, rfl⟩ := List.mem_map.1 ((hcoll.mem d).2 (.inl hd))
        obtain ⟨q, hq, h1, _⟩ := (H3.out a u).1 hp
        exact ⟨q, hq, h1⟩
      refine (sortDots_any (w.heap.size + 1) (.slice oq ds.length cq) ds wr HO.out (fun d hd => by obtain ⟨q, hq, rfl⟩ := hdm d hd; exact HMY.out q hq) hcoll.nd (by omega)).mono ?_
      rintro e w3 ⟨rfl, l', hll, hmem, hpw, hown3, hg3⟩
      have hl' : l' = hs.map fun p => p.2.dot := by
        refine before_eq hpw (by have := HBY.out; unfold ByDot at this; rw [List.pairwise_map] at this ⊢; exact this) fun x => ?_
        rw [hmem, List.mem_map]
        constructor
        · intro hx
          obtain ⟨q, hq, rfl⟩ := hdm x hx
          exact ⟨q, hq, rfl⟩
        · rintro ⟨q, hq, rfl⟩
          exact ((hcoll.mem _).1 (List.mem_map_of_mem (f := (·.1)) ((H3.out q.2.dot (evVal q)).2 ⟨q, hq, rfl, rfl⟩))).resolve_right (fun h => nomatch h)
      have hlen2 : ds.length = hs.length := by rw [← hll, hl', List.length_map]
      have hge : ∀ k, (Value.slice oq ds.length cq).ownBlock = some k → w.heap.size + 1 ≤ k := fun k hk => (hown3.lt k hk).1
      have hb3 : Below w.heap.size w w3 := HB.out.grown hg3 HB.out.size (fun k hk => by have := hge k hk; omega)
      have hinv : ∃ rb ob, (∀ g, (Value.slice oq ds.length cq).ownBlock = some g → g = rb) ∧ w3.heap[rb]? = some ob ∧ Inv rb ob 0 w3 := by
        cases hv : (Value.slice oq ds.length cq).ownBlock with
        | none =>
          have hlt : w.heap.size < w3.heap.size := Nat.lt_of_lt_of_le hrlt hg3.size
          exact ⟨w.heap.size, w3.heap[w.heap.size], (fun g hg => nomatch hg), Array.getElem?_eq_getElem hlt, HH0.out _ _ w3 (Nat.le_refl _) (Array.getElem?_eq_getElem hlt) hb3⟩
        | some g =>
          have hlt := (hown3.lt g hv).2
          exact ⟨g, w3.heap[g], fun k hk => (Option.some.inj hk).symm, Array.getElem?_eq_getElem hlt, HH0.out _ _ w3 (by have := hge g hv; omega) (Array.getElem?_eq_getElem hlt) hb3⟩
      obtain ⟨rb, ob, hrb, hrob, hi0⟩ := hinv
      have hrow : ∀ i W, Inv rb ob i W → SlAt Dot.cells W (.slice oq ds.length cq) (hs.map fun p => p.2.dot) := fun i W hi => by
        rw [← hl']
        exact (hown3.keep fun g hg => by rw [hrb g hg, hrob]; exact (HHI.out rb ob i W hi).2).at
      have hn3 : ds.length ≤ 768 := by omega
      rw [hlen2] at hrow hn3 ⊢
      clear hcoll hdm HO hown3 hg3 hge hb3 hrob hrb hl' hll hmem hpw hle hg HB hlen2 HH0 hrlt
      have HROW := Lib.hid hrow
      have HI0 := Lib.hid hi0
      clear hrow hi0
      go_wp2_with fail
      go_loopg [27] hs.length (fun gk s27 wx => ∃ (i : Nat), s27 = .int .i64 i ∧ i ≤ hs.length ∧ hs.length - i ≤ gk ∧ Hid (Inv rb ob i wx))
      case atStart => exact ⟨0, rfl, Nat.zero_le _, Nat.le_refl _, HI0.out⟩
      case round =>
        obtain ⟨i, rfl, hi, hg, HI⟩ := hrel
        by_cases hlt : i < hs.length
        · have hltz : (i : Int) < (hs.length : Int) := by omega
          have hsl := HROW.out i _ HI.out
          obtain ⟨b, off, rfl⟩ := hsl.plain Dot.cells_len (by decide) (by intro e; have e2 := congrArg List.length e; rw [List.length_map] at e2; rw [e2] at hlt; exact absurd hlt (by simp))
          have c0 := hsl.cell Dot.cells_len (i := i) (c := 0) (by simpa using hlt) (by decide)
          have c1 := hsl.cell Dot.cells_len (i := i) (c := 1) (by simpa using hlt) (by decide)
          simp only [Dot.cells, List.getElem?_cons_zero, List.getElem?_cons_succ, List.getElem_map] at c0 c1
          have e0 : off + (i * 2 + 0) = off + i * 2 := by omega
          have e1 : off + (i * 2 + 1) = off + i * 2 + 1 := by omega
          rw [e0] at c0
          rw [e1] at c1
          have hst := HSTEP.out rb ob i hlt
          have hmem : hs[i] ∈ hs := List.getElem_mem hlt
          generalize hs[i] = p at *
          have hb1 := below_drew ((Below.refl wr.heap.size wr).alloc (Nat.le_refl _) (.cells #[.int .i64 p.2.dot.node, .int .i64 p.2.dot.seq] 40))
          have hi1 := HHM.out rb ob i wr _ HI.out hb1
          have hst1 := hst _ hi1
          obtain ⟨hob1, hmp1⟩ := (HHI.out rb ob i _ hi1).1
          have k1 := cell_of_row _ bb 1 _ _ _ hob1
          have hlook := hmp1.look Tryz.underlying94 (Tryz.zeroValue44 _) (may_fits (HMY.out p hmem))
          rw [(lookE_mem hmp1.nodup).2 ((H3.out p.2.dot (evVal p)).2 ⟨p, hmem, rfl, rfl⟩), Option.getD_some] at hlook
          have hnew : (wr.alloc (.cells #[.int .i64 p.2.dot.node, .int .i64 p.2.dot.seq] 40)).drew.heap[wr.heap.size]? = some (.cells #[.int .i64 p.2.dot.node, .int .i64 p.2.dot.seq] 40) := heap_alloc_new wr _
          have d0 := cell_of_row _ wr.heap.size 0 _ _ _ hnew
          have d1 := cell_of_row _ wr.heap.size 1 _ _ _ hnew
          generalize evVal p = ev at *
          have HST := Lib.hid hst1
          unfold dotVal at hlook
          clear hb1 hi1 hst hst1 hob1 hmp1 hnew hsl e0 e1 hmem HI HI0 HROW
          go_wp2_with fail
          generalize wr.alloc (.cells #[.int .i64 p.2.dot.node, .int .i64 p.2.dot.seq] 40) = wa at *
          go_region_law (first
            | (go_simp
               refine HST.out.mono ?_
               rintro e w4 ⟨c, rfl, hct, hcf⟩
               have HT := Lib.hid hct
               have HF := Lib.hid hcf
               clear hct hcf))
          all_goals
            clear HST k1 hlook d0 d1 c0 c1
            cases c with
            | true =>
              go_wp2_with fail
              go_roundg (hs.length - (i + 1))
              case measure => omega
              case rel => exact ⟨i + 1, by go_num, by omega, Nat.le_refl _, HT.out (by simp)⟩
            | false =>
              go_wp2_with fail
              first
                | exact bodyPost_ret (v := .tuple #[]) (by simp [results, Tryz.results72, go_sem]) rfl ⟨rfl, HF.out (by simp)⟩
                | (go_end0; exact ⟨rfl, HF.out (by simp)⟩)
        · have hltz : ¬ (i : Int) < (hs.length : Int) := by omega
          obtain rfl : i = hs.length := by omega
          go_wp2_with fail
          go_end0
          exact ⟨rfl, HQQ.out rb ob _ HI.out⟩
    · have HR2 := Lib.hid hrg2
      have HC2 := Lib.hid (HC.out.step hmem)
      have HO2 := Lib.hid (HO.out.kept hg2 (by
        cases hv : (Value.slice oq ds.length cq).ownBlock with
        | none => exact .inl rfl
        | some g => exact .inr fun e => by have := (HO.out.lt g hv).1; have := Option.some.inj e; omega))
      have hb2 : Below w.heap.size w w2 := HB.out.grown hg2 HB.out.size (fun k hk => by cases hk; exact Nat.le_refl _)
      have HB2 := Lib.hid hb2
      unfold dotVal at hrun hen
      clear hrg2 hg2 hb2 HR HC HO HB hmem HRG1 HB01
      go_wp2_with (at_builtin; refine wpList_app Dot.cells 2 Dot.cells_len (by decide) Dot.cells_one _ rfl _ _ 34 rfl (w.heap.size + 1) 40 _ 16 Tryz.underlying34 infoDot rfl _ ds rfl ?h1 _ [d] rfl ?h2 ?h3 ?h4 ?h5 ?_)
      case h1 => exact HO2.out.below (((Below.refl _ _).alloc (Nat.le_refl _) _).alloc (by simp) _) (Nat.le_refl _)
      case h2 =>
        have := slAt_new (enc := Dot.cells) (w2.alloc (.cells #[.int .i64 d.node, .int .i64 d.seq] 40)) #[.int .i64 d.node, .int .i64 d.seq] 40 1 1 (0, 0) [d] rfl rfl (by decide)
        rw [World.size_alloc, hs2] at this
        exact this
      case h3 => simp only [List.length_singleton]; omega
      case h4 => simp only [List.length_singleton]; omega
      case h5 => simp; omega
      intro v' w' hown2 hg2 hv2
      have hex : ∃ h : Hdr, v' = h.val := hdr_of_slAt hown2.at
      obtain ⟨⟨o2, n2, c2⟩, hvv⟩ := hex
      simp only [Hdr.val] at hvv
      subst hvv
      have hn : n2 = (ds ++ [d]).length := by
        obtain ⟨_, _, hv, _⟩ := hown2.at.slice_of
        simp only [Value.slice.injEq] at hv
        exact hv.2.1
      subst hn
      have HOWN2 := Lib.hid hown2
      have HG2 := Lib.hid hg2
      clear hown2 hg2 hv2
      go_wp2_with fail
      go_roundg ((delE todo d).length)
      case measure => omega
      case rel =>
        have hg1 : w2.grownBy _ (Value.slice oq ds.length cq).ownBlock := (World.grownBy_alloc w2 (.cells #[.int .i64 d.node, .int .i64 d.seq] 40) _).trans (World.grownBy_alloc _ (.cells #[.int .i64 d.node, .int .i64 d.seq] 40) _)
        have hg3 := hg1.trans HG2.out
        have hge : ∀ k, (Value.slice oq ds.length cq).ownBlock = some k → w.heap.size + 1 ≤ k := fun k hk => (HO2.out.lt k hk).1
        refine ⟨delE todo d, ds ++ [d], o2, c2, rfl, Nat.le_refl _, ?_, ?_, HOWN2.out, ?_, ?_, HC2.out⟩
        · rw [List.length_append, List.length_singleton]; omega
        · refine HR2.out.kept hg3 ?_ ?_
          · cases hv : (Value.slice oq ds.length cq).ownBlock with
            | none => simp
            | some g => exact fun e => by have := hge g hv; have := Option.some.inj e; omega
          · cases hv : (Value.slice oq ds.length cq).ownBlock with
            | none => simp
            | some g => exact fun e => by have := hge g hv; have := Option.some.inj e; omega
        · exact HB2.out.grown hg3 HB2.out.size (fun k hk => by have := hge k hk; omega)
        · have := hg3.size; omega
end Go.Proofs.YtenkfnhcdfmkaaaGreat
