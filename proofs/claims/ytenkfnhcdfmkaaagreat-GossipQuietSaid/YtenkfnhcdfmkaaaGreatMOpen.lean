/-
  How an argument that reads as data is opened: a policy, a dot, an event, a slice of dots or of events, in this text's own words (SlAt, EvsAt). No function of the program is entered.
  Maps whose keys are dots: what a map in memory holds, as a list of dots with values; look-up, store, delete, len, and a range over it.
  Maps whose keys are dots, in memory: look-up, store, delete, len, and a range over one.
-/
import Derived.Test.YtenkfnhcdfmkaaaGreatMSat
import Derived.Test.YtenkfnhcdfmkaaaGreatRows
import Derived.ProofKit
import Derived.OpenShut
import Derived.Test.YtenkfnhcdfmkaaaGreatMDotP
import Derived.Maps.RangeWalk
import Derived.Maps.OwnSet
import Derived.DeepKeys4
namespace Go.Proofs.YtenkfnhcdfmkaaaGreat
open Go.ChangeShapes Go.WideShapes Go.ChangeAt Go.RowKit
set_option linter.unusedVariables false
theorem ownNone : ownKnob Tryz.prog.godebug = none := by kernel_rfl
theorem laidOutP : laidOutB Tryz.prog = true := by kernel_rfl
def I64 (n : Int) : Prop := -9223372036854775808 ≤ n ∧ n ≤ 9223372036854775807
theorem i64_of_wf {n : Int} (h : (Lit.int .i64 n).wf = true) : I64 n := by
 have hmin : IntKind.i64.min = -9223372036854775808 := rfl
 have hmax : IntKind.i64.max = 9223372036854775807 := rfl
 simp only [Lit.wf, Bool.and_eq_true, decide_eq_true_eq] at h
 exact ⟨by omega, by omega⟩
section
variable {H : Type} {enc : TypeId × Value → H} {w : World} {base : Nat} {spare : Nat → Bool} {held : Bool}
theorem fld_at {cs : List Value} {xs : List (DataW H × List MemPlace)} {n i : Nat} {f : Field} (hf : DataW.trod enc Tryz.prog w base spare held n f.type ((cs.drop f.offset).take ((Tryz.prog).cellsOf f.type)) = xs[i]?) (t k o : Nat) (ht : f.type = t) (ho : f.offset = o) (hk : (Tryz.prog).cellsOf t = k) (hi : i < xs.length) :
  ∃ y, DataW.trod enc Tryz.prog w base spare held n t ((cs.drop o).take k) = some y := by
 subst ht ho hk
 rw [List.getElem?_eq_getElem hi] at hf
 exact ⟨_, hf⟩
theorem cellsInt : (Tryz.prog).cellsOf 3 = 1 := by kernel_rfl
theorem int_fld {cs : List Value} {xs : List (DataW H × List MemPlace)} {n i : Nat} {f : Field} (hf : DataW.trod enc Tryz.prog w base spare held n f.type ((cs.drop f.offset).take ((Tryz.prog).cellsOf f.type)) = xs[i]?) (o : Nat) (ht : f.type = 3) (ho : f.offset = o) (hi : i < xs.length) :
  ∃ z : Int, (cs.drop o).take 1 = [.int .i64 z] ∧ I64 z := by
 obtain ⟨y, hy⟩ := fld_at hf 3 1 o ht ho cellsInt hi
 obtain ⟨z, h1, _, h3⟩ := DataW.trod_int Tryz.underlying3 hy
 exact ⟨z, h1, i64_of_wf h3⟩
def Pol.fits (p : Pol) : Prop := I64 p.mn ∧ I64 p.mx ∧ I64 p.goal ∧ I64 p.slack ∧ I64 p.up ∧ I64 p.down ∧ I64 p.cool
def Dot.fits (d : Dot) : Prop := I64 d.node ∧ I64 d.seq
theorem cellsPol : Tryz.prog.cellsOf 42 = 7 := by kernel_rfl
theorem list7 {l : List Value} (h : l.length = 7) : ∃ a b c d e f g, l = [a, b, c, d, e, f, g] := by
 match l, h with
 | [a, b, c, d, e, f, g], _ => exact ⟨a, b, c, d, e, f, g, rfl⟩
set_option maxRecDepth 100000 in
theorem trod_pol {fuel : Nat} {cs : List Value} {x : DataW H × List MemPlace} (h : DataW.trod enc Tryz.prog w base spare held fuel 42 cs = some x) : ∃ p : Pol, cs = p.cells ∧ p.fits := by
 obtain ⟨xs, n, _, _, hl, hlen, hf⟩ := DataW.trod_struct Tryz.underlying42 h
 rw [cellsPol] at hl
 obtain ⟨c0, c1, c2, c3, c4, c5, c6, rfl⟩ := list7 hl
 have hx : xs.length = 7 := hlen
 obtain ⟨z0, e0, f0⟩ := int_fld (hf 0 _ rfl) 0 rfl rfl (by omega)
 obtain ⟨z1, e1, f1⟩ := int_fld (hf 1 _ rfl) 1 rfl rfl (by omega)
 obtain ⟨z2, e2, f2⟩ := int_fld (hf 2 _ rfl) 2 rfl rfl (by omega)
 obtain ⟨z3, e3, f3⟩ := int_fld (hf 3 _ rfl) 3 rfl rfl (by omega)
 obtain ⟨z4, e4, f4⟩ := int_fld (hf 4 _ rfl) 4 rfl rfl (by omega)
 obtain ⟨z5, e5, f5⟩ := int_fld (hf 5 _ rfl) 5 rfl rfl (by omega)
 obtain ⟨z6, e6, f6⟩ := int_fld (hf 6 _ rfl) 6 rfl rfl (by omega)
 simp only [List.drop_succ_cons, List.drop_zero, List.take_succ_cons, List.take_zero, List.cons.injEq, and_true] at e0 e1 e2 e3 e4 e5 e6
 subst e0 e1 e2 e3 e4 e5 e6
 exact ⟨⟨z0, z1, z2, z3, z4, z5, z6⟩, rfl, f0, f1, f2, f3, f4, f5, f6⟩
end
end Go.Proofs.YtenkfnhcdfmkaaaGreat
namespace Go.Proofs.YtenkfnhcdfmkaaaGreat
open Go.RowKit Go.Maps
set_option linter.unusedVariables false
def dotVal (d : Dot) : Value := .agg #[.int .i64 d.node, .int .i64 d.seq]
theorem rowDot : (40 : TypeId) < (Tryz.prog).types.size := of_decide_eq_true (by kernel_rfl)
theorem keyDot : Keyed Tryz.prog 40 := Keyed.of_law (deep_law_laid laidOutP (m := 3) (by omega) rowDot (by kernel_rfl) (by rw [Tryz.underlying40]))
def DFits (d : Dot) : Prop := (Lit.int .i64 d.node).wf = true ∧ (Lit.int .i64 d.seq).wf = true
theorem typesPos : 0 < (Tryz.prog).types.size := of_decide_eq_true (by kernel_rfl)
theorem succ_of {n : Nat} (h : 0 < n) : ∃ m, n = m + 1 := ⟨n - 1, by omega⟩
theorem keyOf_dot {d : Dot} (h : DFits d) : ∃ l, keyOf Tryz.prog 40 (dotVal d) = some l := by
 have hk : (Tryz.prog).keyType 40 = true := by kernel_rfl
 have hc2 : (Tryz.prog).cellsOf 40 = 2 := by kernel_rfl
 have hc1 : (Tryz.prog).cellsOf 3 = 1 := by kernel_rfl
 have hf : Value.formed Tryz.prog 40 (dotVal d) = true := by simp [Value.formed, dotVal, Tryz.underlying40, hc2]
 obtain ⟨m, hm⟩ := succ_of typesPos
 unfold keyOf
 rw [Tryz.underlying40, hk, hf, hm]
 simp [Program.keyLits, Tryz.underlying40, Tryz.underlying3, hc1, hc2, dotVal, Value.cells, h.1, h.2]
theorem two_of {α : Type} : ∀ {l : List α}, l.length = 2 → ∃ a b, l = [a, b]
 | [a, b], _ => ⟨a, b, rfl⟩
theorem keyOf_dot_inv {v : Value} {l : Lit} (h : keyOf Tryz.prog 40 v = some l) : ∃ d, DFits d ∧ v = dotVal d := by
 obtain ⟨xs, L, rfl, hl, _⟩ := keyOf_top (k := 40) (P := Tryz.prog) (by rw [Tryz.underlying40]) h
 have hc2 : (Tryz.prog).cellsOf 40 = 2 := by kernel_rfl
 have hc1 : (Tryz.prog).cellsOf 3 = 1 := by kernel_rfl
 obtain ⟨m, hm⟩ := succ_of typesPos
 rw [hm] at hl
 obtain ⟨ys⟩ := xs
 unfold Program.keyLits at hl
 simp only [Tryz.underlying40, hc2] at hl
 clear hm h hc2
 split at hl
 ·rename_i hlen
  obtain ⟨a, b, rfl⟩ := two_of hlen.1
  simp [Program.keyLits, Tryz.underlying3, hc1] at hl
  cases a <;> simp at hl
  rename_i qa na
  by_cases ha : qa = .i64 ∧ (Lit.int .i64 na).wf = true
  ·obtain ⟨rfl, ha⟩ := ha
   simp only [ha, and_self, if_true, Option.bind_some, Function.comp] at hl
   cases b <;> simp at hl
   rename_i qb nb
   by_cases hb : qb = .i64 ∧ (Lit.int .i64 nb).wf = true
   ·obtain ⟨rfl, hb⟩ := hb
    exact ⟨⟨na, nb⟩, ⟨ha, hb⟩, rfl⟩
   ·simp [hb] at hl
  ·simp [ha] at hl
 ·cases hl
noncomputable def kl (d : Dot) : Lit := @Classical.epsilon Lit ⟨.bool false⟩ fun l => keyOf Tryz.prog 40 (dotVal d) = some l
theorem kl_is {d : Dot} (h : DFits d) : keyOf Tryz.prog 40 (dotVal d) = some (kl d) := @Classical.epsilon_spec Lit (fun l => keyOf Tryz.prog 40 (dotVal d) = some l) (keyOf_dot h)
theorem dotVal_inj {a b : Dot} (h : dotVal a = dotVal b) : a = b := by
 cases a; cases b
 simp [dotVal] at h
 rw [h.1, h.2]
theorem kl_inj {a b : Dot} (ha : DFits a) (hb : DFits b) (e : kl a = kl b) : a = b := by
 have h1 := kl_is ha
 have h2 := kl_is hb
 rw [e] at h1
 generalize kl b = l at h1 h2
 exact dotVal_inj (keyDot.inj h1 h2)
theorem kl_key {d : Dot} (h : DFits d) : WideAt.IsKeyLit (kl d) := by
 have h1 := kl_is h
 generalize kl d = l at h1
 exact keyDot.key h1
theorem may_fits {d : Dot} (h : May d) : DFits d := by
 unfold May at h
 exact ⟨WalkArith.wf_i64 (by omega), WalkArith.wf_i64 (by omega)⟩
def heldR (v : Value) : Option (DataW Value × List MemPlace) := some (.held v, [])
def lookE (E : List (Dot × Value)) (d : Dot) : Option Value := (E.find? fun p => decide (p.1 = d)).map (·.2)
def putE (E : List (Dot × Value)) (d : Dot) (v : Value) : List (Dot × Value) := (d, v) :: E.filter fun p => decide (p.1 ≠ d)
def delE (E : List (Dot × Value)) (d : Dot) : List (Dot × Value) := E.filter fun p => decide (p.1 ≠ d)
theorem lookE_del_other {E : List (Dot × Value)} {d x : Dot} (h : x ≠ d) : lookE (delE E d) x = lookE E x := by
 unfold lookE delE
 induction E with
 | nil => rfl
 | cons p E ih =>
  rw [List.filter_cons]
  by_cases e : p.1 = d
  ·have hx : decide (p.1 = x) = false := decide_eq_false fun e2 => h (e2.symm.trans e)
   simp only [e, ne_eq, not_true_eq_false, decide_false, Bool.false_eq_true, if_false, List.find?_cons]
   rw [e] at hx
   rw [hx]
   exact ih
  ·simp only [ne_eq, e, not_false_eq_true, decide_true, if_true, List.find?_cons]
   split
   ·rfl
   ·exact ih
theorem lookE_del_same {E : List (Dot × Value)} {d : Dot} : lookE (delE E d) d = none := by
 unfold lookE delE
 rw [Option.map_eq_none_iff, List.find?_eq_none]
 intro p hp
 have := (List.mem_filter.1 hp).2
 simpa using this
theorem lookE_put_same {E : List (Dot × Value)} {d : Dot} {v : Value} : lookE (putE E d v) d = some v := by
 unfold lookE putE
 rw [List.find?_cons, decide_eq_true rfl]
 rfl
theorem lookE_put_other {E : List (Dot × Value)} {d x : Dot} {v : Value} (h : x ≠ d) : lookE (putE E d v) x = lookE E x := by
 rw [← lookE_del_other (E := E) h]
 unfold lookE putE delE
 rw [List.find?_cons, decide_eq_false (fun e => h e.symm)]
theorem lookE_mem {E : List (Dot × Value)} (hn : (E.map (·.1)).Nodup) {d : Dot} {v : Value} : lookE E d = some v ↔ (d, v) ∈ E := by
 unfold lookE
 induction E with
 | nil => simp
 | cons p E ih =>
  rw [List.map_cons, List.nodup_cons] at hn
  rw [List.find?_cons]
  by_cases e : p.1 = d
  ·rw [decide_eq_true e]
   obtain ⟨a, b⟩ := p
   simp only at e hn
   subst e
   simp only [Option.map_some, Option.some.injEq, List.mem_cons, Prod.mk.injEq, true_and]
   constructor
   ·intro h; exact .inl h.symm
   ·rintro (h | h)
    ·exact h.symm
    ·exact absurd (List.mem_map_of_mem (f := (·.1)) h) hn.1
  ·rw [decide_eq_false e, List.mem_cons]
   simp only [ih hn.2]
   constructor
   ·exact .inr
   ·rintro (h | h)
    ·exact absurd (by rw [← h]) e
    ·exact h
theorem lookE_none {E : List (Dot × Value)} {d : Dot} : lookE E d = none ↔ d ∉ E.map (·.1) := by
 unfold lookE
 rw [Option.map_eq_none_iff, List.find?_eq_none]
 constructor
 ·intro h hm
  obtain ⟨p, hp, e⟩ := List.mem_map.1 hm
  exact h p hp (by simpa using e)
 ·intro h p hp hd
  exact h (List.mem_map.2 ⟨p, hp, by simpa using hd⟩)
structure MapD (D : DataW Value) (E : List (Dot × Value)) : Prop where
 at' : ∀ d, DFits d → ∀ z, D.atKey (kl d) z = (match lookE E d with | some v => .held v | none => z)
 has : ∀ d, DFits d → Maps.has D (kl d) = (lookE E d).isSome
 size : Maps.size D = E.length
 nodup : (E.map (·.1)).Nodup
 fits : ∀ p ∈ E, DFits p.1
 keys : ∀ k, Maps.has D k = true → ∃ p ∈ E, kl p.1 = k
 tidy : Tidy D
theorem MapD.none : MapD (.map []) [] := ⟨fun d _ z => rfl, fun d _ => rfl, rfl, List.Pairwise.nil, (fun _ h => nomatch h), (fun k h => by cases h), tidy_empty⟩
theorem delE_len {E : List (Dot × Value)} (hn : (E.map (·.1)).Nodup) (d : Dot) : (delE E d).length + (if (lookE E d).isSome then 1 else 0) = E.length := by
 unfold delE lookE
 induction E with
 | nil => rfl
 | cons p E ih =>
  rw [List.map_cons, List.nodup_cons] at hn
  have := ih hn.2
  rw [List.filter_cons, List.find?_cons]
  by_cases e : p.1 = d
  ·have hno : E.find? (fun p => decide (p.1 = d)) = Option.none := List.find?_eq_none.2 fun q hq hd => hn.1 (by rw [e]; exact List.mem_map.2 ⟨q, hq, by simpa using hd⟩)
   rw [hno] at this
   simp [e] at this ⊢
   exact this
  ·rw [decide_eq_false e]
   simp only [ne_eq, e, not_false_eq_true, decide_true, if_true, List.length_cons]
   simp only [ne_eq] at this
   omega
theorem MapD.put {D : DataW Value} {E : List (Dot × Value)} (h : MapD D E) {d : Dot} (hd : DFits d) (v : Value) : MapD (D.put (kl d) (.held v)) (putE E d v) where
 at' x hx z := by
  by_cases e : x = d
  ·subst e
   rw [atKey_put_same h.tidy.isMap (kl_key hx), lookE_put_same]
  ·rw [atKey_put_other (fun e2 => e (kl_inj hx hd e2)), lookE_put_other e]
   exact h.at' x hx z
 has x hx := by
  by_cases e : x = d
  ·subst e
   rw [has_put_same h.tidy.isMap (kl_key hx), lookE_put_same]; rfl
  ·rw [has_put_other (fun e2 => e (kl_inj hx hd e2)), lookE_put_other e]
   exact h.has x hx
 size := by
  rw [size_put h.tidy, h.has d hd, h.size]
  have := delE_len h.nodup d
  unfold putE
  rw [List.length_cons]
  unfold delE at this
  cases hs : (lookE E d).isSome with
  | true => rw [hs] at this; simp only [if_true] at this ⊢; omega
  | false => rw [hs] at this; simp only [Bool.false_eq_true, if_false] at this ⊢; omega
 nodup := by
  unfold putE
  rw [List.map_cons, List.nodup_cons]
  refine ⟨fun hm => ?_, List.Pairwise.sublist (List.Sublist.map _ List.filter_sublist) h.nodup⟩
  obtain ⟨p, hp, e⟩ := List.mem_map.1 hm
  have := (List.mem_filter.1 hp).2
  simp only [ne_eq, decide_eq_true_eq] at this
  exact this e
 fits p hp := by
  rcases List.mem_cons.1 hp with rfl | hp
  ·exact hd
  ·exact h.fits p (List.mem_filter.1 hp).1
 keys k hk := by
  by_cases e : k = kl d
  ·refine ⟨(d, v), List.mem_cons_self, ?_⟩
   rw [e]
  ·rw [has_put_other e] at hk
   obtain ⟨p, hp, rfl⟩ := h.keys k hk
   exact ⟨p, List.mem_cons_of_mem _ (List.mem_filter.2 ⟨hp, by simp only [ne_eq, decide_eq_true_eq]; exact fun e2 => e (by rw [e2])⟩), rfl⟩
 tidy := by
  have hk := kl_key hd
  generalize kl d = k at hk
  exact h.tidy.put hk _
theorem MapD.del {D : DataW Value} {E : List (Dot × Value)} (h : MapD D E) {d : Dot} (hd : DFits d) : MapD (D.del (kl d)) (delE E d) where
 at' x hx z := by
  by_cases e : x = d
  ·subst e
   rw [atKey_del_same, lookE_del_same]
  ·rw [atKey_del_other (fun e2 => e (kl_inj hx hd e2)), lookE_del_other e]
   exact h.at' x hx z
 has x hx := by
  by_cases e : x = d
  ·subst e
   rw [has_del_same, lookE_del_same]; rfl
  ·rw [has_del_other (fun e2 => e (kl_inj hx hd e2)), lookE_del_other e]
   exact h.has x hx
 size := by
  have h1 := size_del (k := kl d) h.tidy
  have h2 := delE_len h.nodup d
  rw [h.has d hd, h.size] at h1
  omega
 nodup := List.Pairwise.sublist (List.Sublist.map _ List.filter_sublist) h.nodup
 fits p hp := h.fits p (List.mem_filter.1 hp).1
 keys k hk := by
  by_cases e : k = kl d
  ·rw [e, has_del_same] at hk; cases hk
  ·rw [has_del_other e] at hk
   obtain ⟨p, hp, rfl⟩ := h.keys k hk
   exact ⟨p, List.mem_filter.2 ⟨hp, by simp only [ne_eq, decide_eq_true_eq]; exact fun e2 => e (by rw [e2])⟩, rfl⟩
 tidy := by
  generalize kl d = k
  exact h.tidy.del k
end Go.Proofs.YtenkfnhcdfmkaaaGreat
namespace Go.Proofs.YtenkfnhcdfmkaaaGreat
open Go.RowKit Go.Maps
set_option linter.unusedVariables false
def DotMapAt (w : World) (b : Nat) (E : List (Dot × Value)) : Prop := ∃ D, w.ownsMap Tryz.prog 40 heldR b E.length D ∧ MapD D E
theorem DotMapAt.of {w : World} {b n : Nat} {D : DataW Value} {E : List (Dot × Value)} (h : w.ownsMap Tryz.prog 40 heldR b n D) (hD : MapD D E) : DotMapAt w b E := by
 refine ⟨D, ?_, hD⟩
 obtain ⟨es, clock, hb, F, hs, rfl⟩ := h
 refine ⟨es, clock, hb, F, ?_, rfl⟩
 have := hD.size
 simp [Maps.size, length_sorted] at this
 omega
theorem DotMapAt.lt {w : World} {b : Nat} {E : List (Dot × Value)} (h : DotMapAt w b E) : b < w.heap.size := by obtain ⟨D, h, _⟩ := h; exact h.lt
theorem DotMapAt.made (w : World) : DotMapAt (w.alloc (.map #[] 0)) w.heap.size [] := ⟨_, World.ownsMap_made w _ _ _, MapD.none⟩
theorem DotMapAt.keep {w w' : World} {b : Nat} {E : List (Dot × Value)} (h : DotMapAt w b E) (hb : w'.heap[b]? = w.heap[b]?) : DotMapAt w' b E := by
 obtain ⟨D, ⟨es, clock, h1, h2⟩, h3⟩ := h
 exact ⟨D, ⟨es, clock, hb.trans h1, h2⟩, h3⟩
theorem DotMapAt.kept {w w' : World} {b : Nat} {E : List (Dot × Value)} {row : Option Nat} (h : DotMapAt w b E) (hg : w.grownBy w' row) (hne : some b ≠ row) : DotMapAt w' b E := h.keep (hg.block b h.lt hne)
theorem DotMapAt.below {w w' : World} {b B : Nat} {E : List (Dot × Value)} (h : DotMapAt w b E) (hb : Below B w w') (hB : b < B) : DotMapAt w' b E := h.keep (hb.block b hB)
theorem DotMapAt.look {w : World} {b : Nat} {E : List (Dot × Value)} (h : DotMapAt w b E) {mt et : TypeId} (ht : (Tryz.prog).underlying mt = some (.map 40 et)) {z : Value} (hz : (zeroValue et).run Tryz.prog w = .ok z w) {d : Dot} (hd : DFits d) :
  (Instr.lookup mt (.map (some b)) (dotVal d) false).run Tryz.prog w = .ok ((lookE E d).getD z) w := by
 obtain ⟨D, h, hD⟩ := h
 obtain ⟨v, ps, hrun, hv⟩ := h.lookup keyDot ht hz (zd := .held z) (zp := []) rfl (kl_is hd)
 rw [hD.at' d hd] at hv
 unfold heldR at hv
 simp only [Option.some.injEq, Prod.mk.injEq] at hv
 rw [hrun]
 cases he : lookE E d with
 | none => rw [he] at hv; simp only [DataW.held.injEq] at hv; rw [hv.1]; rfl
 | some u => rw [he] at hv; simp only [DataW.held.injEq] at hv; rw [hv.1]; rfl
theorem DotMapAt.store {w : World} {b : Nat} {E : List (Dot × Value)} (h : DotMapAt w b E) {mt et : TypeId} (ht : (Tryz.prog).underlying mt = some (.map 40 et)) (hn : E.length < 1000000) {d : Dot} (hd : DFits d) (v : Value) :
  ∃ w', (Instr.mapUpdate mt (.map (some b)) (dotVal d) v).run Tryz.prog w = .ok () w' ∧ DotMapAt w' b (putE E d v) ∧ w.grownBy w' (some b) := by
 obtain ⟨D, h, hD⟩ := h
 obtain ⟨w', h1, h2, h3⟩ := h.update keyDot ht (by unfold maxLen; omega) (kl_is hd) (d := .held v) (ps := []) rfl
 exact ⟨w', h1, .of h2 (hD.put hd v), h3⟩
theorem DotMapAt.drop {w : World} {b : Nat} {E : List (Dot × Value)} (h : DotMapAt w b E) {mt et : TypeId} (ht : (Tryz.prog).underlying mt = some (.map 40 et)) {d : Dot} (hd : DFits d) (ty : TypeId) :
  ∃ w', (Builtin.delete_ #[mt, 40] ty #[.map (some b), dotVal d]).run Tryz.prog w = .ok (.tuple #[]) w' ∧ DotMapAt w' b (delE E d) ∧ w.grownBy w' (some b) := by
 obtain ⟨D, h, hD⟩ := h
 obtain ⟨w', h1, h2, h3⟩ := h.drop keyDot ht (kl_is hd) ty
 exact ⟨w', h1, .of h2 (hD.del hd), h3.grown⟩
theorem DotMapAt.len {w : World} {b : Nat} {E : List (Dot × Value)} (h : DotMapAt w b E) {mt et : TypeId} (ht : (Tryz.prog).underlying mt = some (.map 40 et)) (ty : TypeId) : (Builtin.len_ #[mt] ty #[.map (some b)]).run Tryz.prog w = .ok (.int .i64 E.length) w := by
 obtain ⟨D, h, hD⟩ := h
 rw [h.len ht ty, hD.size]
def DotRange (w : World) (b r : Nat) (E todo : List (Dot × Value)) : Prop :=
 ∃ D left cnt, w.ranges Tryz.prog 40 heldR b r E.length D left cnt ∧ MapD D E ∧ (∀ k, left k = true ↔ ∃ p ∈ todo, kl p.1 = k) ∧ (∀ p ∈ todo, p ∈ E) ∧ (todo.map (·.1)).Nodup
theorem DotRange.at {w : World} {b r : Nat} {E todo : List (Dot × Value)} (h : DotRange w b r E todo) : DotMapAt w b E := by
 obtain ⟨D, left, cnt, h, hD, _⟩ := h
 exact ⟨D, h.owns, hD⟩
theorem DotRange.lt {w : World} {b r : Nat} {E todo : List (Dot × Value)} (h : DotRange w b r E todo) : r < w.heap.size := by
 obtain ⟨D, left, cnt, h, _⟩ := h
 exact h.lt
theorem DotRange.kept {w w' : World} {b r : Nat} {E todo : List (Dot × Value)} {row : Option Nat} (h : DotRange w b r E todo) (hg : w.grownBy w' row) (hb : some b ≠ row) (hr : some r ≠ row) : DotRange w' b r E todo := by
 obtain ⟨D, left, cnt, h, rest⟩ := h
 exact ⟨D, left, cnt, h.kept hg hb hr, rest⟩
theorem DotMapAt.range {w : World} {b : Nat} {E : List (Dot × Value)} (h : DotMapAt w b E) {mt et : TypeId} (ht : (Tryz.prog).underlying mt = some (.map 40 et)) :
  ∃ w', (Instr.range mt (.map (some b))).run Tryz.prog w = .ok (.pointer (some ⟨w.heap.size, 0, none⟩)) w' ∧ DotRange w' b w.heap.size E E ∧ w.grownBy w' none ∧ w'.heap.size = w.heap.size + 1 := by
 obtain ⟨D, h, hD⟩ := h
 obtain ⟨w', h1, h2, h3, h4⟩ := h.range keyDot ht
 refine ⟨w', h1, ⟨D, _, _, h2, hD, fun k => ⟨hD.keys k, ?_⟩, fun p hp => hp, hD.nodup⟩, h3, h4⟩
 rintro ⟨p, hp, rfl⟩
 rw [hD.has p.1 (hD.fits p hp)]
 rw [(lookE_mem hD.nodup (d := p.1) (v := p.2)).2 hp]
 rfl
theorem DotRange.next {w : World} {b r : Nat} {E todo : List (Dot × Value)} (h : DotRange w b r E todo) (ty : TypeId) :
  (todo = [] ∧ (Instr.next (.pointer (some ⟨r, 0, none⟩)) false ty).run Tryz.prog w = .ok (.tuple #[.bool false]) w) ∨
  ∃ d v w', (d, v) ∈ todo ∧ (Instr.next (.pointer (some ⟨r, 0, none⟩)) false ty).run Tryz.prog w = .ok (.tuple #[.bool true, dotVal d, v]) w' ∧ DotRange w' b r E (delE todo d) ∧ (delE todo d).length + 1 = todo.length ∧ w.grownBy w' (some r) ∧ w'.heap.size = w.heap.size ∧
   (Instr.entry (.pointer (some ⟨r, 0, none⟩))).run Tryz.prog w' = .ok (.tuple #[dotVal d, v]) w' := by
 obtain ⟨D, left, cnt, h, hD, hl, hsub, hnd⟩ := h
 rcases h.next keyDot ty with ⟨_, hno, hrun⟩ | ⟨key, v, k, y, w', cnt', hkey, hlk, hv, hat, hrun, hrg, _, hg, hsz, hen⟩
 ·refine .inl ⟨?_, hrun⟩
  cases todo with
  | nil => rfl
  | cons p t =>
   have := (hl (kl p.1)).2 ⟨p, by simp, rfl⟩
   rw [hno] at this
   cases this
 ·obtain ⟨d, hd, rfl⟩ := keyOf_dot_inv hkey
  have hk : k = kl d := by rw [kl_is hd] at hkey; exact (Option.some.inj hkey).symm
  subst hk
  obtain ⟨p, hp, hpk⟩ := (hl (kl d)).1 hlk
  have hpd : p.1 = d := kl_inj (hD.fits p (hsub p hp)) hd hpk
  obtain ⟨d', v'⟩ := p
  simp only at hpd
  subst hpd
  have hlook := (lookE_mem hD.nodup).2 (hsub _ hp)
  have hvv : v = v' := by
   have h1 := hat (.held v)
   rw [hD.at' d' hd, hlook] at h1
   unfold heldR at hv
   simp only [Option.some.injEq] at hv
   rw [← hv] at h1
   simpa using h1.symm
  subst hvv
  have hlen := delE_len hnd d'
  rw [(lookE_mem hnd).2 hp] at hlen
  refine .inr ⟨d', v, w', hp, hrun, ⟨D, _, _, hrg, hD, fun k => ?_, fun q hq => hsub q (List.mem_filter.1 hq).1, List.Pairwise.sublist (List.Sublist.map _ List.filter_sublist) hnd⟩, by simpa using hlen, hg, hsz, hen⟩
  rw [Bool.and_eq_true, hl k, Bool.not_eq_true']
  constructor
  ·rintro ⟨⟨q, hq, rfl⟩, hne⟩
   refine ⟨q, List.mem_filter.2 ⟨hq, ?_⟩, rfl⟩
   simp only [ne_eq, decide_eq_true_eq]
   intro e
   rw [e, WideAt.sameKey_self (kl_key hd)] at hne
   cases hne
  ·rintro ⟨q, hq, rfl⟩
   obtain ⟨hq1, hq2⟩ := List.mem_filter.1 hq
   simp only [ne_eq, decide_eq_true_eq] at hq2
   refine ⟨⟨q, hq1, rfl⟩, ?_⟩
   cases hs : (kl q.1).sameKey (kl d') with
   | false => rfl
   | true => exact absurd (kl_inj (hD.fits q (hsub q hq1)) hd (WideAt.sameKey_eq hs)) hq2
end Go.Proofs.YtenkfnhcdfmkaaaGreat
