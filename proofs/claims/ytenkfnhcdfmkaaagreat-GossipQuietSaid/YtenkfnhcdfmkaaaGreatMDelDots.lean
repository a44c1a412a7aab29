/-
  slices.IndexFunc and slices.DeleteFunc at dots, with any function value.
  dotset.Less walked in general: how many dots are in the one set alone.
-/
import Derived.Test.YtenkfnhcdfmkaaaGreatMDotList
import Derived.Laws.OwnMore
import Derived.Test.YtenkfnhcdfmkaaaGreatMBookQ
namespace Go.Proofs.YtenkfnhcdfmkaaaGreat
open Go.Shelf Go.RowKit Go.Lib Go.Sort
set_option linter.unusedVariables false
theorem flat_set2 (d : Dot) : ∀ (l : List Dot) (i : Nat), i < l.length → ((l.flatMap Dot.cells).set (i * 2) (.int .i64 d.node)).set (i * 2 + 1) (.int .i64 d.seq) = (l.set i d).flatMap Dot.cells
 | [], i, h => absurd h (Nat.not_lt_zero _)
 | x :: l, 0, h => rfl
 | x :: l, i + 1, h => by
  have ih := flat_set2 d l i (by simpa using h)
  have e1 : (i + 1) * 2 = i * 2 + 1 + 1 := by omega
  rw [List.set_cons_succ, List.flatMap_cons, List.flatMap_cons, ← ih, e1]
  rfl
theorem Owns.setDot {base e g n cap : Nat} {w : World} {l : List Dot} (h : Owns Dot.cells 2 base e w (.slice (some ⟨g, 0, none⟩) n cap) l) (i : Nat) (hi : i < l.length) (d : Dot) :
  Owns Dot.cells 2 base e ((w.setCell ⟨g, i * 2, none⟩ (.int .i64 d.node)).setCell ⟨g, i * 2 + 1, none⟩ (.int .i64 d.seq)) (.slice (some ⟨g, 0, none⟩) n cap) (l.set i d) := by
 have hn : n = l.length := by
  obtain ⟨_, _, hv, _⟩ := h.at.slice_of
  simp only [Value.slice.injEq] at hv
  exact hv.2.1
 subst hn
 have h2 := (World.ownsRow.stored (World.ownsRow.stored h (i * 2) (.int .i64 d.node)).1 (i * 2 + 1) (.int .i64 d.seq)).1
 rw [flat_set2 d l i hi] at h2
 unfold Owns
 rw [List.length_set]
 exact h2
theorem Owns.pastEnd {base e g n cap : Nat} {w : World} {l : List Dot} (h : Owns Dot.cells 2 base e w (.slice (some ⟨g, 0, none⟩) n cap) l) : ∀ (vs : List Value) (o : Nat), l.length * 2 ≤ o → Owns Dot.cells 2 base e (w.setCells g o vs) (.slice (some ⟨g, 0, none⟩) n cap) l := by
 have hn : n = l.length := by
  obtain ⟨_, _, hv, _⟩ := h.at.slice_of
  simp only [Value.slice.injEq] at hv
  exact hv.2.1
 subst hn
 intro vs
 induction vs generalizing w with
 | nil => intro o ho; exact h
 | cons v vs ih =>
  intro o ho
  have h2 := (World.ownsRow.stored h o v).1
  rw [List.set_eq_of_length_le (by rw [flat_len Dot.cells 2 Dot.cells_len]; exact ho)] at h2
  exact ih h2 (o + 1) (by omega)
def AnswersD (K : Nat) (free : Array Value) (w : World) (g : Nat) (l : List Dot) (p : Dot → Bool) : Prop := ∀ d ∈ l, ∀ W : World, w.heap.size ≤ W.heap.size → (∀ i, i < w.heap.size → i ≠ g → W.heap[i]? = w.heap[i]?) → Calls Tryz.prog K (#[.agg #[.int .i64 d.node, .int .i64 d.seq]] ++ free) W fun e w' => e = .returned (.bool (p d)) ∧ Below W.heap.size W w'
set_option maxHeartbeats 4000000 in
theorem indexDots_any (K : Nat) (free : Array Value) (eg : ∀ args w, (callFunc K args).run Tryz.prog w = .ok (.enter K args) w) (oa : Option Addr) (cap : Nat) (l : List Dot) (p : Dot → Bool) (w : World) (g : Nat) (h : SlAt Dot.cells w (.slice oa l.length cap) l) (hl : l.length ≤ 1000000) (hs : AnswersD K free w g l p) :
  Calls Tryz.prog 90 #[.slice oa l.length cap, .func (.func K) #[] free] w fun e w' => ∃ r : Int, e = .returned (.int .i64 r) ∧ ((r = -1 ∧ ∀ x ∈ l, p x = false) ∨ ∃ k, ∃ hk : k < l.length, r = k ∧ p l[k] = true ∧ ∀ x ∈ l.take k, p x = false) ∧ Below w.heap.size w w' := by
 have HA := Lib.hid h
 have HS := Lib.hid hs
 clear h hs
 go_enter Tryz.func90, Tryz.ntmps90
 go_wp2_with fail
 go_loopg [5, 8] l.length (fun gk s5 s8 wr => ∃ (k : Nat), s8 = .int .i64 k ∧ k ≤ l.length ∧ l.length - k ≤ gk ∧ Hid (Below w.heap.size w wr) ∧ Hid (∀ x ∈ l.take k, p x = false))
 case atStart => exact ⟨0, rfl, Nat.zero_le _, Nat.le_refl _, Below.refl _ _, fun x hx => by simp at hx⟩
 case round =>
  obtain ⟨k, rfl, hk, hg, HB, HN⟩ := hrel
  by_cases hlt : k < l.length
  ·have hltz : (k : Int) < (l.length : Int) := by omega
   have hsl := HA.out.below Dot.cells_len (by decide) HB.out (Nat.le_refl _)
   obtain ⟨b, off, rfl⟩ := hsl.plain Dot.cells_len (by decide) (by intro e; rw [e] at hlt; exact absurd hlt (by simp))
   have c0 := hsl.cell Dot.cells_len (i := k) (c := 0) hlt (by decide)
   have c1 := hsl.cell Dot.cells_len (i := k) (c := 1) hlt (by decide)
   simp only [Dot.cells, List.getElem?_cons_zero, List.getElem?_cons_succ] at c0 c1
   rw [show off + (k * 2 + 0) = off + k * 2 by omega] at c0
   rw [show off + (k * 2 + 1) = off + k * 2 + 1 by omega] at c1
   have hst := HS.out l[k] (List.getElem_mem hlt) wr HB.out.size (fun i hi _ => HB.out.block i hi)
   have htk : ∀ x, x ∈ l.take (k + 1) → x ∈ l.take k ∨ x = l[k] := fun x hx => by
    rw [List.take_add_one, List.getElem?_eq_getElem hlt, Option.toList_some, List.mem_append, List.mem_singleton] at hx
    exact hx
   obtain ⟨d, hd⟩ : ∃ d, l[k] = d := ⟨_, rfl⟩
   rw [hd] at c0 c1 hst htk
   have HD := Lib.hid hd
   have HST := Lib.hid hst
   have HTK := Lib.hid htk
   clear hsl hst htk hd
   obtain ⟨q, hq⟩ : ∃ q, p d = q := ⟨_, rfl⟩
   have HQ := Lib.hid hq
   rw [hq] at HST
   clear hq
   go_wp2_with fail
   refine HST.out.mono ?_
   rintro e w1 ⟨rfl, hb⟩
   have HB1 := Lib.hid (HB.out.trans (hb.mono HB.out.size))
   clear hb HST c0 c1
   cases q with
   | true =>
    go_wp2_with fail
    go_ret
    exact ⟨k, rfl, .inr ⟨k, hlt, rfl, by rw [HD.out]; exact HQ.out, HN.out⟩, HB1.out⟩
   | false =>
    go_wp2_with fail
    go_roundg (l.length - (k + 1))
    case measure => omega
    case rel => exact ⟨k + 1, by go_num, by omega, Nat.le_refl _, HB1.out, fun x hx => by
     rcases HTK.out x hx with h1 | h1
     ·exact HN.out x h1
     ·rw [h1]; exact HQ.out⟩
  ·have hltz : ¬ (k : Int) < (l.length : Int) := by omega
   obtain rfl : k = l.length := by omega
   go_wp2_with fail
   go_ret
   exact ⟨-1, rfl, .inl ⟨rfl, fun x hx => HN.out x (by rw [List.take_length]; exact hx)⟩, HB.out⟩
theorem run_clear3 (w : World) (ty : TypeId) (b o n c : Nat) (hn : 0 < n) (hc : ∀ j, j < n * 2 → (w.cell? ⟨b, o + j, none⟩).isSome = true) (hf : ∀ j, j < n * 2 → w.frozen? ⟨b, o + j, none⟩ = false) :
  ∃ vs, (Builtin.clear_ #[34] ty #[.slice (some ⟨b, o, none⟩) n c]).run Tryz.prog w = .ok (.tuple #[]) (w.setCells b o vs) ∧ w.grownBy (w.setCells b o vs) (some b) := by
 have hv : ∀ w, (zeroValue 40).run Tryz.prog w = .ok (.agg #[.int .i64 0, .int .i64 0]) w := Tryz.zeroValue40
 obtain ⟨vs, hvs⟩ : ∃ vs, (Builtin.zeroCells (Value.cells (.agg #[.int .i64 0, .int .i64 0])) n).toList = vs := ⟨_, rfl⟩
 have hl : vs.length = n * 2 := by rw [← hvs]; simp [Builtin.zeroCells, Value.cells]
 have h1 : ∀ v ∈ vs, v.oneCell' = true := by
  intro v hv
  rw [← hvs] at hv
  simp [Builtin.zeroCells, Value.cells] at hv
  obtain ⟨j, hj, rfl⟩ := hv
  have : j % 2 = 0 ∨ j % 2 = 1 := by omega
  rcases this with h | h <;> simp [h, Value.oneCell']
 have hst := run_storeCells_cells (P := Tryz.prog) b o vs 0 w (by simpa [hl] using hc) (by simpa [hl] using hf) h1
 simp only [Nat.add_zero] at hst
 obtain ⟨m, rfl⟩ : ∃ m, n = m + 1 := ⟨n - 1, by omega⟩
 refine ⟨vs, ?_, ?_⟩
 ·simp [Builtin.clear_, hv, hvs, hst]
 ·have key : ∀ (vs : List Value) (o : Nat) (x : World), w.grownBy x (some b) → w.grownBy (x.setCells b o vs) (some b) := by
   intro vs
   induction vs with
   | nil => intro o x h; exact h
   | cons v vs ih => intro o x h; exact ih _ _ (grown_set h v)
  exact key vs o w (World.grownBy.refl _ _)
theorem ownsFree {α : Type} {enc : α → List Value} {k base e : Nat} {w : World} {g off n cap : Nat} {l : List α} (h : Owns enc k base e w (.slice (some ⟨g, off, none⟩) n cap) l) (o : Nat) : w.frozen? ⟨g, o, none⟩ = false := by
 rcases h.2 with ⟨h, _⟩ | ⟨g', cap', cur, hv, hb, hh, hc, hm, hs, ht⟩
 ·cases h
 ·simp only [Value.slice.injEq, Option.some.injEq, Addr.mk.injEq] at hv
  obtain ⟨⟨rfl, _, _⟩, _, _⟩ := hv
  simp [World.frozen?, hh]
theorem ownsOff {α : Type} {enc : α → List Value} {k base e : Nat} {w : World} {g off n cap : Nat} {l : List α} (h : Owns enc k base e w (.slice (some ⟨g, off, none⟩) n cap) l) : off = 0 := by
 rcases h.2 with ⟨h, _⟩ | ⟨g', cap', cur, hv, hb, hh, hc, hm, hs, ht⟩
 ·cases h
 ·simp only [Value.slice.injEq, Option.some.injEq, Addr.mk.injEq] at hv
  exact hv.1.2.1
structure KeptD (p : Dot → Bool) (l L : List Dot) (i j : Nat) : Prop where
 len : L.length = l.length
 lt : i < j
 le : j ≤ l.length
 low : L.take i = (l.take j).filter fun x => !p x
 high : L.drop j = l.drop j
theorem KeptD.at {p : Dot → Bool} {l L : List Dot} {i j : Nat} (h : KeptD p l L i j) (hj : j < l.length) : L[j]'(by rw [h.len]; exact hj) = l[j] := by
 have h1 := congrArg (fun x : List Dot => x[0]?) h.high
 simp only [List.getElem?_drop, Nat.add_zero] at h1
 rw [List.getElem?_eq_getElem hj, List.getElem?_eq_getElem (by rw [h.len]; exact hj)] at h1
 exact Option.some.inj h1
theorem KeptD.skip {p : Dot → Bool} {l L : List Dot} {i j : Nat} (h : KeptD p l L i j) (hj : j < l.length) (hp : p l[j] = true) : KeptD p l L i (j + 1) := by
 refine ⟨h.len, by have := h.lt; omega, by omega, ?_, ?_⟩
 ·rw [h.low, List.take_succ_eq_append_getElem hj, List.filter_append]
  simp [hp]
 ·have h1 := congrArg (List.drop 1) h.high
  rw [List.drop_drop, List.drop_drop] at h1
  exact h1
theorem KeptD.keep {p : Dot → Bool} {l L : List Dot} {i j : Nat} (h : KeptD p l L i j) (hj : j < l.length) (hp : p l[j] = false) : KeptD p l (L.set i l[j]) (i + 1) (j + 1) := by
 have hi : i < L.length := by have := h.lt; have := h.len; omega
 refine ⟨by rw [List.length_set]; exact h.len, by have := h.lt; omega, by omega, ?_, ?_⟩
 ·rw [List.take_succ_eq_append_getElem (by rw [List.length_set]; exact hi), List.getElem_set_self, List.take_set_of_le (Nat.le_refl _), h.low, List.take_succ_eq_append_getElem hj, List.filter_append]
  simp [hp]
 ·have h1 := congrArg (List.drop 1) h.high
  rw [List.drop_drop, List.drop_drop] at h1
  rw [List.drop_set_of_lt (by have := h.lt; omega)]
  exact h1
set_option maxHeartbeats 8000000 in
theorem deleteDots_any (K : Nat) (free : Array Value) (eg : ∀ args w, (callFunc K args).run Tryz.prog w = .ok (.enter K args) w) (oa : Option Addr) (n cap : Nat) (l : List Dot) (p : Dot → Bool) (w : World) (base : Nat) (hB : base ≤ w.heap.size) (h : Owns Dot.cells 2 base 40 w (.slice oa n cap) l) (hl : l.length ≤ 1000000) (hs : ∀ g, (Value.slice oa n cap).ownBlock = some g ∨ (Value.slice oa n cap).ownBlock = none → AnswersD K free w g l p) :
  Calls Tryz.prog 57 #[.slice oa n cap, .func (.func K) #[] free] w fun e w' => ∃ o m c, e = .returned (.slice o m c) ∧ Owns Dot.cells 2 base 40 w' (.slice o m c) (l.filter fun x => !p x) ∧ Below base w w' := by
 obtain rfl : n = l.length := by
  obtain ⟨_, _, hv, _⟩ := h.at.slice_of
  simp only [Value.slice.injEq] at hv
  exact hv.2.1
 obtain ⟨g, hg⟩ : ∃ g, (Value.slice oa l.length cap).ownBlock = some g ∨ (Value.slice oa l.length cap).ownBlock = none := by
  cases hx : (Value.slice oa l.length cap).ownBlock with
  | none => exact ⟨0, .inr rfl⟩
  | some g => exact ⟨g, .inl rfl⟩
 have hix := indexDots_any K free eg oa cap l p w g h.at hl (hs g hg)
 have HIX := Lib.hid hix
 have HO := Lib.hid h
 have HS := Lib.hid hs
 clear hix h hs
 go_enter Tryz.func57, Tryz.ntmps57
 go_wp2_with fail
 refine HIX.out.mono ?_
 rintro e w1 ⟨r, rfl, hr, hb1⟩
 have hs1 := hb1.size
 rcases hr with ⟨rfl, hall⟩ | ⟨k, hk, rfl, hpk, hno⟩
 ·have hfl : (l.filter fun x => !p x) = l := List.filter_eq_self.2 fun x hx => by rw [hall x hx]; rfl
  have HFL := Lib.hid hfl
  have HB1 := Lib.hid hb1
  clear hall hb1 HIX hfl
  go_wp2_with fail
  go_ret
  exact ⟨_, _, _, rfl, by rw [HFL.out]; exact HO.out.below HB1.out (Nat.le_refl _), HB1.out.mono hB⟩
 ·obtain ⟨b, off, rfl⟩ := HO.out.at.plain Dot.cells_len (by decide) (by intro e; rw [e] at hk; exact absurd hk (by simp))
  obtain rfl := ownsOff HO.out
  have hbb : base ≤ b ∧ b < w.heap.size := HO.out.lt b rfl
  have HAN := Lib.hid (HS.out b (.inl rfl))
  have hcap : l.length ≤ cap := by
   obtain ⟨_, _, hv, hc⟩ := HO.out.at.slice_of
   simp only [Value.slice.injEq] at hv
   omega
  have hkd : KeptD p l l k (k + 1) := ⟨rfl, by omega, hk, by
   rw [List.take_succ_eq_append_getElem hk, List.filter_append, List.filter_eq_self.2 (fun x hx => by rw [hno x hx]; rfl)]
   simp [hpk], rfl⟩
  have HKD := Lib.hid hkd
  have HO1 := Lib.hid (HO.out.below hb1 (Nat.le_refl _))
  have HG1 : Hid (w.grownBy w1 (some b)) := ⟨hb1.os, hb1.tape, hb1.output, hb1.size, fun i hi _ => hb1.block i hi⟩
  clear hkd hb1 hno hpk HIX HO HS hg
  have hc0 : ¬ cap = 0 := by omega
  go_wp2_with fail
  go_loopg [5, 6, 7] l.length (fun gk s5 s6 s7 wr => ∃ (i j : Nat) (L : List Dot), s5 = .int .i64 i ∧ s6 = .int .i64 j ∧ i < j ∧ j ≤ l.length ∧ l.length - j ≤ gk ∧ Hid (KeptD p l L i j) ∧ Hid (Owns Dot.cells 2 base 40 wr (.slice (some ⟨b, 0, none⟩) l.length cap) L) ∧ Hid (w.grownBy wr (some b)))
  case atStart => exact ⟨k, k + 1, l, rfl, by go_num, by omega, by omega, by omega, HKD.out, HO1.out, HG1.out⟩
  case round =>
   obtain ⟨i, j, L, rfl, rfl, hij, hj, hgk, HKJ, HOJ, HGJ⟩ := hrel
   have hsz := HGJ.out.size
   have hLl := HKJ.out.len
   have HLL := Lib.hid hLl
   by_cases hlt : j < l.length
   ·have hltz : (j : Int) < (l.length : Int) := by omega
    have c0 := HOJ.out.at.cell Dot.cells_len (i := j) (c := 0) (by omega) (by decide)
    have c1 := HOJ.out.at.cell Dot.cells_len (i := j) (c := 1) (by omega) (by decide)
    simp only [Dot.cells, List.getElem?_cons_zero, List.getElem?_cons_succ, HKJ.out.at hlt] at c0 c1
    rw [show 0 + (j * 2 + 0) = j * 2 by omega] at c0
    rw [show 0 + (j * 2 + 1) = j * 2 + 1 by omega] at c1
    have hst := fun W h1 h2 => HAN.out l[j] (List.getElem_mem hlt) W h1 h2
    have hskip := HKJ.out.skip hlt
    have hkeep := HKJ.out.keep hlt
    have hset := fun W (hW : Owns Dot.cells 2 base 40 W (.slice (some ⟨b, 0, none⟩) l.length cap) L) => hW.setDot i (by omega) l[j]
    obtain ⟨d, hd⟩ : ∃ d, l[j] = d := ⟨_, rfl⟩
    rw [hd] at c0 c1 hst hskip hkeep hset
    have hba := (Below.refl wr.heap.size wr).alloc (Nat.le_refl _) (.cells #[.int .i64 d.node, .int .i64 d.seq] 40)
    have hza : (wr.alloc (.cells #[.int .i64 d.node, .int .i64 d.seq] 40)).heap.size = wr.heap.size + 1 := World.size_alloc _ _
    have hra : (wr.alloc (.cells #[.int .i64 d.node, .int .i64 d.seq] 40)).heap[wr.heap.size]? = some (.cells #[.int .i64 d.node, .int .i64 d.seq] 40) := heap_alloc_new wr _
    have hst2 := hst _ (by omega) (fun i hi hne => (hba.block i (by omega)).trans (HGJ.out.block i hi (fun e => hne (Option.some.inj e))))
    have HST := Lib.hid hst2
    have HSK := Lib.hid hskip
    have HKP := Lib.hid hkeep
    have HSET := Lib.hid hset
    have HBA := Lib.hid hba
    have HRA := Lib.hid hra
    obtain ⟨q, hq⟩ : ∃ q, p d = q := ⟨_, rfl⟩
    rw [hq] at HST HSK HKP
    clear hst hst2 hskip hkeep hset hba hra hd hLl hq
    go_wp2_with fail
    generalize wr.alloc (.cells #[.int .i64 d.node, .int .i64 d.seq] 40) = wa at *
    refine HST.out.mono ?_
    rintro e w2 ⟨rfl, hb2⟩
    have hz2 := hb2.size
    have hg2 : w.grownBy w2 (some b) := HGJ.out.trans (World.grownBy.trans ⟨HBA.out.os, HBA.out.tape, HBA.out.output, HBA.out.size, fun i hi _ => HBA.out.block i hi⟩ ⟨hb2.os, hb2.tape, hb2.output, hb2.size, fun i hi _ => hb2.block i hi⟩)
    have ho2 := (HOJ.out.below HBA.out (Nat.le_refl _)).below hb2 (Nat.le_refl _)
    have hr2 := (hb2.block wr.heap.size (by omega)).trans HRA.out
    have HG2 := Lib.hid hg2
    have HO2 := Lib.hid ho2
    cases q with
    | true =>
     clear hb2 hg2 ho2 hr2 HST c0 c1
     go_wp2_with fail
     go_roundg (l.length - (j + 1))
     case measure => omega
     case rel => exact ⟨i, j + 1, L, rfl, by go_num, by omega, by omega, Nat.le_refl _, HSK.out (by simp), HO2.out, HG2.out⟩
    | false =>
     have k0 := ho2.at.cell Dot.cells_len (i := i) (c := 0) (by rw [HLL.out]; omega) (by decide)
     have k1 := ho2.at.cell Dot.cells_len (i := i) (c := 1) (by rw [HLL.out]; omega) (by decide)
     simp only [Dot.cells, List.getElem?_cons_zero, List.getElem?_cons_succ] at k0 k1
     rw [show 0 + (i * 2 + 0) = i * 2 by omega] at k0
     rw [show 0 + (i * 2 + 1) = i * 2 + 1 by omega] at k1
     have f0 := ownsFree ho2
     have d0 := cell_of_row _ wr.heap.size 0 _ _ _ hr2
     have d1 := cell_of_row _ wr.heap.size 1 _ _ _ hr2
     have hiz : (i : Int) < (l.length : Int) := by omega
     clear hb2 hg2 ho2 hr2 HST c0 c1
     go_wp2_with fail
     go_roundg (l.length - (j + 1))
     case measure => omega
     case rel => exact ⟨i + 1, j + 1, L.set i d, by go_num, by go_num, by omega, by omega, Nat.le_refl _, HKP.out (by simp), HSET.out _ HO2.out, grown_set (grown_set HG2.out _) _⟩
   ·have hltz : ¬ (j : Int) < (l.length : Int) := by omega
    obtain rfl : j = l.length := by omega
    obtain ⟨vs, hrun, hgv⟩ := run_clear3 wr 0 b (i * 2) (l.length - i) (cap - i) (by omega) (fun q hq => by
     have h1 := HOJ.out.at.cell Dot.cells_len (i := i + q / 2) (c := q % 2) (by rw [hLl]; omega) (by omega)
     have e1 : 0 + ((i + q / 2) * 2 + q % 2) = i * 2 + q := by omega
     rw [e1] at h1
     rw [h1]
     have : q % 2 = 0 ∨ q % 2 = 1 := by omega
     rcases this with h2 | h2 <;> rw [h2] <;> rfl) (fun q _ => ownsFree HOJ.out _)
    have hlow := HKJ.out.low
    rw [List.take_length] at hlow
    have hti := (HOJ.out.take Dot.cells_len i (by omega)).pastEnd vs (i * 2) (by rw [List.length_take]; omega)
    rw [hlow] at hti
    have HTI := Lib.hid hti
    have HGV := Lib.hid (HGJ.out.trans hgv)
    have hiz : (i : Int) ≤ (l.length : Int) := by omega
    have hil : i ≤ l.length := by omega
    have hic : i ≤ cap := by omega
    have hne : ¬ cap = i := by omega
    clear hlow hti hgv hLl HLL
    go_wp2_with fail
    go_ret
    exact ⟨_, _, _, rfl, HTI.out, (Below.refl _ _).grown HGV.out hB (fun k hk => by cases hk; omega)⟩
end Go.Proofs.YtenkfnhcdfmkaaaGreat
namespace Go.Proofs.YtenkfnhcdfmkaaaGreat
open Go.Shelf Go.RowKit Go.Lib Go.Sort
set_option linter.unusedVariables false
noncomputable def lessD (s t : DSet) : List Dot := (dotsOf s.grid).filter fun d => !t.grid d.node.toNat d.seq.toNat
theorem list3_any (oa : Option Addr) (cap : Nat) (s : DSet) (w : World) (h : SlAt Dot.cells w (.slice oa s.more.length cap) s.more) (hl : s.more.length ≤ 1000000) :
  Calls Tryz.prog 58 #[.agg #[.int .i64 (s.u 0), .int .i64 (s.u 1), .int .i64 (s.u 2), .int .i64 (s.u 3), .int .i64 (s.u 4), .int .i64 (s.u 5), .int .i64 (s.u 6), .int .i64 (s.u 7), .slice oa s.more.length cap]] w fun e w' => ∃ oh n c, e = .returned (.slice oh n c) ∧ Owns Dot.cells 2 w.heap.size 40 w' (.slice oh n c) (dotsOf s.grid) ∧ Below w.heap.size w w' := by
 refine (list_any oa cap s w h hl).mono ?_
 rintro e w' ⟨⟨o, n, c⟩, rfl, h1, h2⟩
 exact ⟨o, n, c, rfl, h1, h2⟩
set_option maxHeartbeats 4000000 in
theorem lessFn2_any (ob gb : Nat) (g : Grid) (d : Dot) (hm : May d) (w : World) (ho : w.heap[ob]? = some (.cells #[.pointer (some ⟨gb, 0, none⟩)] 114)) (hg : GridAt w gb g) :
  Calls Tryz.prog 59 #[.agg #[.int .i64 d.node, .int .i64 d.seq], .pointer (some ⟨ob, 0, none⟩)] w fun e w' => e = .returned (.bool (g d.node.toNat d.seq.toNat)) ∧ Below w.heap.size w w' := by
 have hb1 := (Below.refl w.heap.size w).alloc (Nat.le_refl _) (.cells #[.int .i64 d.node, .int .i64 d.seq] 40)
 unfold May at hm
 obtain ⟨hm1, hm2, hm3, hm4⟩ := hm
 have hm5 : d.seq < 98 := by omega
 have hm6 : 0 ≤ d.seq := by omega
 have c0 := cell_of_row _ ob 0 _ _ _ ((hb1.block ob (Array.getElem?_eq_some_iff.1 ho).1).trans ho)
 have gc := (hg.below hb1 hg.lt).cell d.node.toNat d.seq.toNat (by omega) (by omega)
 have hr0 : (w.alloc (.cells #[.int .i64 d.node, .int .i64 d.seq] 40)).heap[w.heap.size]? = _ := heap_alloc_new w _
 have d0 := cell_of_row _ w.heap.size 0 _ _ _ hr0
 have d1 := cell_of_row _ w.heap.size 1 _ _ _ hr0
 have HB1 := Lib.hid hb1
 clear hb1 hr0 ho hg
 go_enter Tryz.func59, Tryz.ntmps59
 go_wp2_with fail
 go_region_law (fail)
 all_goals
  go_wp2_with fail
  go_ret
  exact ⟨rfl, below_drew HB1.out⟩
set_option maxHeartbeats 8000000 in
theorem less_any (oa ob : Option Addr) (ca cb : Nat) (s t : DSet) (w : World) (h : SlAt Dot.cells w (.slice oa s.more.length ca) s.more) (k : SlAt Dot.cells w (.slice ob t.more.length cb) t.more) (hl : s.more.length ≤ 1000000) (kl : t.more.length ≤ 1000000) :
  Calls Tryz.prog 16 #[.agg #[.int .i64 (s.u 0), .int .i64 (s.u 1), .int .i64 (s.u 2), .int .i64 (s.u 3), .int .i64 (s.u 4), .int .i64 (s.u 5), .int .i64 (s.u 6), .int .i64 (s.u 7), .slice oa s.more.length ca], .agg #[.int .i64 (t.u 0), .int .i64 (t.u 1), .int .i64 (t.u 2), .int .i64 (t.u 3), .int .i64 (t.u 4), .int .i64 (t.u 5), .int .i64 (t.u 6), .int .i64 (t.u 7), .slice ob t.more.length cb]] w fun e w' => ∃ o n c, e = .returned (.slice o n c) ∧ n = (lessD s t).length ∧ Below w.heap.size w w' := by
 have eg : ∀ args w, (callFunc 59 args).run Tryz.prog w = .ok (.enter 59 args) w := enters_of Tryz.func59 (by kernel_rfl) rfl
 obtain ⟨r0, r1, hb2, hs2⟩ := alloc2 w (.cells #[.int .i64 (s.u 0), .int .i64 (s.u 1), .int .i64 (s.u 2), .int .i64 (s.u 3), .int .i64 (s.u 4), .int .i64 (s.u 5), .int .i64 (s.u 6), .int .i64 (s.u 7), .slice oa s.more.length ca] 48) (.cells #[.int .i64 (t.u 0), .int .i64 (t.u 1), .int .i64 (t.u 2), .int .i64 (t.u 3), .int .i64 (t.u 4), .int .i64 (t.u 5), .int .i64 (t.u 6), .int .i64 (t.u 7), .slice ob t.more.length cb] 48)
 have HS2 := Lib.hid (h.below Dot.cells_len (by decide) hb2 (Nat.le_refl _))
 have hof := of_one ob cb t _ (k.below Dot.cells_len (by decide) hb2 (Nat.le_refl _)) kl
 have HOF := Lib.hid hof
 have R0 := Lib.hid r0
 have R1 := Lib.hid r1
 have HB2 := Lib.hid hb2
 clear r0 r1 hb2 hof h k
 go_enter Tryz.func16, Tryz.ntmps16
 go_wp2_with fail
 generalize ((w.alloc (.cells #[.int .i64 (s.u 0), .int .i64 (s.u 1), .int .i64 (s.u 2), .int .i64 (s.u 3), .int .i64 (s.u 4), .int .i64 (s.u 5), .int .i64 (s.u 6), .int .i64 (s.u 7), .slice oa s.more.length ca] 48)).alloc (.cells #[.int .i64 (t.u 0), .int .i64 (t.u 1), .int .i64 (t.u 2), .int .i64 (t.u 3), .int .i64 (t.u 4), .int .i64 (t.u 5), .int .i64 (t.u 6), .int .i64 (t.u 7), .slice ob t.more.length cb] 48)) = w2 at *
 rw [hs2] at HOF
 refine HOF.out.mono ?_
 rintro e w3 ⟨gb, rfl, hgb, hgr, hb3⟩
 rw [← hs2] at hb3
 have hz3 := hb3.size
 have hb4 := (Below.refl w3.heap.size w3).alloc (Nat.le_refl _) (.cells #[.pointer (some ⟨gb, 0, none⟩)] 114)
 have ho4 : (w3.alloc (.cells #[.pointer (some ⟨gb, 0, none⟩)] 114)).heap[w3.heap.size]? = some (.cells #[.pointer (some ⟨gb, 0, none⟩)] 114) := heap_alloc_new w3 _
 have hz4 : (w3.alloc (.cells #[.pointer (some ⟨gb, 0, none⟩)] 114)).heap.size = w3.heap.size + 1 := World.size_alloc _ _
 have hglt := hgr.lt
 have hg4 := hgr.below hb4 hglt
 have hs4 := (HS2.out.below Dot.cells_len (by decide) hb3 (Nat.le_refl _)).below Dot.cells_len (by decide) hb4 (Nat.le_refl _)
 have hli := list3_any oa ca s _ hs4 hl
 have q4 := (hb4.block w.heap.size (by omega)).trans ((hb3.block _ (by omega)).trans R0.out)
 have sA := fun o => cell_of_row _ w.heap.size o _ _ _ q4
 have HLI := Lib.hid hli
 have HO4 := Lib.hid ho4
 have HG4 := Lib.hid hg4
 have HB4 := Lib.hid (HB2.out.trans ((hb3.trans (hb4.mono hz3)).mono (by omega)))
 clear hgr hb3 hb4 ho4 hg4 hs4 hli q4 HOF R0 R1 HS2
 go_wp2_with fail
 generalize w3.alloc (.cells #[.pointer (some ⟨gb, 0, none⟩)] 114) = w4 at *
 refine HLI.out.mono ?_
 rintro e w5 ⟨o5, n5, c5, rfl, hown5, hb5⟩
 have hz5 := hb5.size
 have hdl := deleteDots_any 59 #[.pointer (some ⟨w3.heap.size, 0, none⟩)] eg o5 n5 c5 (dotsOf s.grid) (fun d => t.grid d.node.toNat d.seq.toNat) w5 w4.heap.size hz5 hown5 (Nat.le_trans (dotsOf_len s.grid_ok) (by decide)) (fun g hg d hd W hsz hW => by
  have hge : w4.heap.size ≤ g := by
   obtain ⟨bb, off, hb⟩ := hown5.at.plain Dot.cells_len (by decide) (by intro e; rw [e] at hd; cases hd)
   subst hb
   rcases hg with hg | hg
   ·exact (hown5.lt g hg).1
   ·simp [Value.ownBlock] at hg
  have hk : ∀ i, i < w4.heap.size → W.heap[i]? = w4.heap[i]? := fun i hi => (hW i (by omega) (by omega)).trans (hb5.block i hi)
  exact lessFn2_any w3.heap.size gb t.grid d ((mem_dotsOf s.grid_ok).1 hd).1 W ((hk _ (by omega)).trans HO4.out) (HG4.out.keep (hk _ (by omega))))
 have HDL := Lib.hid hdl
 have HB5 := Lib.hid (HB4.out.trans (hb5.mono HB4.out.size))
 have HZ := Lib.hid hb5
 clear hdl hown5 hb5 HLI
 go_wp2_with fail
 refine HDL.out.mono ?_
 rintro e w6 ⟨o6, n6, c6, rfl, hown6, hb6⟩
 have hn6 : n6 = (lessD s t).length := by
  obtain ⟨_, _, hv, _⟩ := hown6.at.slice_of
  simp only [Value.slice.injEq] at hv
  exact hv.2.1
 have HN6 := Lib.hid hn6
 clear hn6 hown6
 have HB6 : Hid (Below w.heap.size w w6) := ⟨hb6.os.trans HB5.out.os, hb6.tape.trans HB5.out.tape, hb6.output.trans HB5.out.output, Nat.le_trans HB5.out.size hb6.size, fun i hi => (hb6.block i (by have := HB4.out.size; omega)).trans (HB5.out.block i hi)⟩
 clear hb6 HDL
 go_wp2_with fail
 go_ret
 exact ⟨_, _, _, rfl, HN6.out, HB6.out⟩
end Go.Proofs.YtenkfnhcdfmkaaaGreat
