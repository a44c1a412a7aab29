/-
  Plain facts on sets of dots: a set laid open as a grid, the dots of a grid in order, the set that a grid closes to. No function of the program is entered.
  A set of dots laid open in memory: 8 rows of 98 bools in one block; put lays one in.
  dotset's small functions walked: may, compare, each and walk at any function value.
-/
import Derived.Test.YtejihgfigclppaaGreatMSat
import Derived.Deep.RegionLaw
import Derived.Deep.QuietTactic
import Derived.BigQuiet
import Derived.Deep.LoopGhost
import Derived.Shelf.GgClosure.Gives
namespace Go.Proofs.YtejihgfigclppaaGreat
set_option linter.unusedVariables false
def May (d : Dot) : Prop := 0 ≤ d.node ∧ d.node < 8 ∧ 1 ≤ d.seq ∧ d.seq ≤ 96
instance (d : Dot) : Decidable (May d) := by unfold May; infer_instance
def Before (a b : Dot) : Prop := a.node < b.node ∨ (a.node = b.node ∧ a.seq < b.seq)
instance (a b : Dot) : Decidable (Before a b) := by unfold Before; infer_instance
theorem Before.trans {a b c : Dot} (h : Before a b) (k : Before b c) : Before a c := by unfold Before at *; omega
abbrev Grid := Nat → Nat → Bool
def Grid.none : Grid := fun _ _ => false
def Grid.put (g : Grid) (n q : Nat) : Grid := fun m r => g m r || (decide (m = n) && decide (r = q))
def Grid.or (g h : Grid) : Grid := fun n q => g n q || h n q
def Grid.Ok (g : Grid) : Prop := ∀ n q, g n q = true → n < 8 ∧ 1 ≤ q ∧ q ≤ 96
theorem Grid.Ok.put {g : Grid} (h : g.Ok) {n q : Nat} (hn : n < 8) (h1 : 1 ≤ q) (h2 : q ≤ 96) : (g.put n q).Ok := fun m r e => by
 unfold Grid.put at e
 simp only [Bool.or_eq_true, Bool.and_eq_true, decide_eq_true_eq] at e
 rcases e with e | ⟨rfl, rfl⟩
 ·exact h m r e
 ·exact ⟨hn, h1, h2⟩
theorem Grid.Ok.or {g h : Grid} (hg : g.Ok) (hh : h.Ok) : (g.or h).Ok := fun m r e => by
 unfold Grid.or at e
 rw [Bool.or_eq_true] at e
 rcases e with e | e
 ·exact hg m r e
 ·exact hh m r e
def dotAt (i : Nat) : Dot := ⟨(i / 98 : Nat), (i % 98 : Nat)⟩
def gridAt (g : Grid) (i : Nat) : Bool := g (i / 98) (i % 98)
def dotsTo (g : Grid) (k : Nat) : List Dot := ((List.range k).filter (gridAt g)).map dotAt
def dotsOf (g : Grid) : List Dot := dotsTo g 784
theorem dotsTo_yes {g : Grid} {k : Nat} (h : gridAt g k = true) : dotsTo g (k + 1) = dotsTo g k ++ [dotAt k] := by
 unfold dotsTo
 rw [List.range_succ, List.filter_append, List.map_append]
 simp [h]
theorem dotsTo_no {g : Grid} {k : Nat} (h : gridAt g k = false) : dotsTo g (k + 1) = dotsTo g k := by
 unfold dotsTo
 rw [List.range_succ, List.filter_append, List.map_append]
 simp [h]
theorem mem_dotsTo {g : Grid} {k : Nat} {d : Dot} : d ∈ dotsTo g k ↔ ∃ i, i < k ∧ gridAt g i = true ∧ d = dotAt i := by
 unfold dotsTo
 simp only [List.mem_map, List.mem_filter, List.mem_range]
 constructor
 ·rintro ⟨i, ⟨h1, h2⟩, rfl⟩; exact ⟨i, h1, h2, rfl⟩
 ·rintro ⟨i, h1, h2, rfl⟩; exact ⟨i, ⟨h1, h2⟩, rfl⟩
theorem before_dotAt {i j : Nat} (h : i < j) : Before (dotAt i) (dotAt j) := by
 unfold Before dotAt
 simp only
 have h1 := Nat.div_add_mod i 98
 have h2 := Nat.div_add_mod j 98
 have h3 := Nat.mod_lt i (show 98 > 0 by decide)
 have h4 := Nat.mod_lt j (show 98 > 0 by decide)
 omega
theorem dotsTo_sorted (g : Grid) (k : Nat) : (dotsTo g k).Pairwise Before := by
 unfold dotsTo
 rw [List.pairwise_map]
 refine List.Pairwise.sublist List.filter_sublist ?_
 exact (List.pairwise_lt_range (n := k)).imp fun h => before_dotAt h
theorem mem_dotsOf {g : Grid} (hg : g.Ok) {d : Dot} : d ∈ dotsOf g ↔ May d ∧ g d.node.toNat d.seq.toNat = true := by
 unfold dotsOf
 rw [mem_dotsTo]
 constructor
 ·rintro ⟨i, hi, h1, rfl⟩
  have h2 := hg _ _ h1
  unfold May dotAt
  simp only
  refine ⟨by omega, ?_⟩
  rw [Int.toNat_natCast, Int.toNat_natCast]
  exact h1
 ·rintro ⟨hm, h1⟩
  obtain ⟨n, q⟩ := d
  unfold May at hm
  simp only at hm h1
  refine ⟨98 * n.toNat + q.toNat, by omega, ?_, ?_⟩
  ·unfold gridAt
   rw [show (98 * n.toNat + q.toNat) / 98 = n.toNat by omega, show (98 * n.toNat + q.toNat) % 98 = q.toNat by omega]
   exact h1
  ·unfold dotAt
   rw [show (98 * n.toNat + q.toNat) / 98 = n.toNat by omega, show (98 * n.toNat + q.toNat) % 98 = q.toNat by omega, Int.toNat_of_nonneg (by omega), Int.toNat_of_nonneg (by omega)]
theorem dotsOf_len {g : Grid} (hg : g.Ok) : (dotsOf g).length ≤ 768 := by
 unfold dotsOf dotsTo
 rw [List.length_map]
 have h1 : ((List.range 784).filter (gridAt g)) = ((List.range 784).filter fun i => decide (1 ≤ i % 98 ∧ i % 98 ≤ 96)).filter (gridAt g) := by
  rw [List.filter_filter]
  refine List.filter_congr fun i hi => ?_
  cases h : gridAt g i with
  | false => simp
  | true => have := hg _ _ h; simp [this]
 rw [h1]
 refine Nat.le_trans (List.length_filter_le _ _) ?_
 decide +kernel
structure DSet where
 u : Nat → Int
 more : List Dot
def DSet.none : DSet := ⟨fun _ => 0, []⟩
def DSet.Right (s : DSet) : Prop := (∀ n, n < 8 → 0 ≤ s.u n ∧ s.u n ≤ 96) ∧ s.more.length ≤ 768 ∧ (∀ d ∈ s.more, May d ∧ 2 ≤ d.seq - s.u d.node.toNat) ∧ s.more.Pairwise Before
open Classical in
noncomputable def DSet.grid (s : DSet) : Grid := fun n q => decide (s.Right ∧ n < 8 ∧ 1 ≤ q ∧ ((q : Int) ≤ s.u n ∨ (⟨n, q⟩ : Dot) ∈ s.more))
theorem DSet.grid_iff {s : DSet} {n q : Nat} : s.grid n q = true ↔ s.Right ∧ n < 8 ∧ 1 ≤ q ∧ ((q : Int) ≤ s.u n ∨ (⟨n, q⟩ : Dot) ∈ s.more) := by
 unfold DSet.grid
 simp only [decide_eq_true_eq]
theorem DSet.grid_ok (s : DSet) : s.grid.Ok := fun n q h => by
 obtain ⟨hr, hn, hq, h⟩ := DSet.grid_iff.1 h
 refine ⟨hn, hq, ?_⟩
 rcases h with h | h
 ·have := (hr.1 n hn).2; omega
 ·have := (hr.2.2.1 _ h).1.2.2.2
  simp only at this
  omega
theorem DSet.grid_wrong {s : DSet} (h : ¬ s.Right) : s.grid = Grid.none := by
 funext n q
 cases e : s.grid n q with
 | false => rfl
 | true => exact absurd (DSet.grid_iff.1 e).1 h
theorem DSet.grid_none : DSet.none.grid = Grid.none := by
 funext n q
 cases e : DSet.none.grid n q with
 | false => rfl
 | true =>
  obtain ⟨_, _, h1, h2⟩ := DSet.grid_iff.1 e
  rcases h2 with h2 | h2
  ·have : (q : Int) ≤ 0 := h2
   omega
  ·cases h2
structure Closes (g : Grid) (s : DSet) : Prop where
 pos : ∀ n, n < 8 → 0 ≤ s.u n
 lo : ∀ n, n < 8 → ∀ q : Nat, 1 ≤ q → (q : Int) ≤ s.u n → g n q = true
 hi : ∀ n, n < 8 → g n ((s.u n).toNat + 1) = false
 rest : s.more = (dotsOf g).filter fun d => decide (s.u d.node.toNat < d.seq)
theorem Closes.right {g : Grid} (hg : g.Ok) {s : DSet} (h : Closes g s) : s.Right := by
 have hu : ∀ n, n < 8 → 0 ≤ s.u n ∧ s.u n ≤ 96 := fun n hn => by
  have h0 := h.pos n hn
  refine ⟨h0, ?_⟩
  by_cases hz : s.u n = 0
  ·omega
  ·have := hg _ _ (h.lo n hn (s.u n).toNat (by omega) (by omega))
   omega
 refine ⟨hu, ?_, fun d hd => ?_, ?_⟩
 ·rw [h.rest]
  exact Nat.le_trans (List.length_filter_le _ _) (dotsOf_len hg)
 ·rw [h.rest, List.mem_filter] at hd
  obtain ⟨hd1, hd2⟩ := hd
  have hm := (mem_dotsOf hg).1 hd1
  have hlt : s.u d.node.toNat < d.seq := by simpa using hd2
  refine ⟨hm.1, ?_⟩
  have hm1 := hm.1
  unfold May at hm1
  have h0 := hu d.node.toNat (by omega)
  by_cases e : d.seq = s.u d.node.toNat + 1
  ·have h3 := h.hi d.node.toNat (by omega)
   rw [show (s.u d.node.toNat).toNat + 1 = d.seq.toNat by omega, hm.2] at h3
   cases h3
  ·omega
 ·rw [h.rest]
  exact List.Pairwise.sublist List.filter_sublist (dotsTo_sorted _ _)
theorem Closes.grid {g : Grid} (hg : g.Ok) {s : DSet} (h : Closes g s) : s.grid = g := by
 have hr := h.right hg
 funext n q
 rw [Bool.eq_iff_iff, DSet.grid_iff]
 constructor
 ·rintro ⟨_, hn, hq, h1 | h1⟩
  ·exact h.lo n hn q hq h1
  ·rw [h.rest, List.mem_filter] at h1
   have := ((mem_dotsOf hg).1 h1.1).2
   simpa using this
 ·intro e
  obtain ⟨hn, h1, h2⟩ := hg _ _ e
  refine ⟨hr, hn, h1, ?_⟩
  by_cases hle : (q : Int) ≤ s.u n
  ·exact .inl hle
  ·refine .inr ?_
   rw [h.rest, List.mem_filter]
   refine ⟨(mem_dotsOf hg).2 ⟨?_, by simpa using e⟩, ?_⟩
   ·unfold May; simp only; omega
   ·simp only [Int.toNat_natCast, decide_eq_true_eq]; omega
def closeStep (s : DSet) (d : Dot) : DSet := if d.seq = s.u d.node.toNat + 1 then ⟨fun n => if n = d.node.toNat then s.u n + 1 else s.u n, s.more⟩ else ⟨s.u, s.more ++ [d]⟩
structure Closing (g : Grid) (k : Nat) (s : DSet) : Prop where
 pos : ∀ n, 0 ≤ s.u n
 top : ∀ n, s.u n ≤ 97
 lim : ∀ n, s.u n = 0 ∨ 98 * n + (s.u n).toNat < k
 lo : ∀ n, ∀ q : Nat, 1 ≤ q → (q : Int) ≤ s.u n → g n q = true
 hi : ∀ n, 98 * n + (s.u n).toNat + 1 < k → (s.u n).toNat + 1 < 98 → g n ((s.u n).toNat + 1) = false
 rest : s.more = (dotsTo g k).filter fun d => decide (s.u d.node.toNat < d.seq)
theorem closing_start (g : Grid) : Closing g 0 DSet.none := ⟨fun _ => Int.le_refl 0, fun _ => by show (0 : Int) ≤ 97; decide, fun _ => .inl rfl, fun n q h1 h2 => by have : (q : Int) ≤ 0 := h2; omega, fun n h => by omega, rfl⟩
theorem Closing.skip {g : Grid} {k : Nat} {s : DSet} (h : Closing g k s) (hk : gridAt g k = false) : Closing g (k + 1) s := by
 refine ⟨h.pos, h.top, fun n => (h.lim n).imp id (fun e => by omega), h.lo, fun n h1 h2 => ?_, by rw [dotsTo_no hk]; exact h.rest⟩
 by_cases e : 98 * n + (s.u n).toNat + 1 = k
 ·have : gridAt g k = g n ((s.u n).toNat + 1) := by
   unfold gridAt
   rw [show k / 98 = n by omega, show k % 98 = (s.u n).toNat + 1 by omega]
  rw [← this]; exact hk
 ·exact h.hi n (by omega) h2
theorem Closing.step {g : Grid} (hg : g.Ok) {k : Nat} {s : DSet} (h : Closing g k s) (hk : gridAt g k = true) : Closing g (k + 1) (closeStep s (dotAt k)) := by
 have hok := hg _ _ hk
 obtain ⟨n, hn⟩ : ∃ n, k / 98 = n := ⟨_, rfl⟩
 obtain ⟨q, hq⟩ : ∃ q, k % 98 = q := ⟨_, rfl⟩
 have hkn : k = 98 * n + q := by have := Nat.div_add_mod k 98; omega
 have hdot : dotAt k = ⟨n, q⟩ := by unfold dotAt; rw [hn, hq]
 have hgk : g n q = true := by unfold gridAt at hk; rw [hn, hq] at hk; exact hk
 rw [hn, hq] at hok
 have h0 := h.pos n
 have hl := h.lim n
 -- what came of this node lies ahead
 have hbefore : ∀ d ∈ dotsTo g k, d.node.toNat = n → d.seq < q := fun d hd e => by
  obtain ⟨i, hi, _, rfl⟩ := mem_dotsTo.1 hd
  unfold dotAt at e ⊢
  simp only [Int.toNat_natCast] at e ⊢
  omega
 rw [hdot]
 unfold closeStep
 simp only [Int.toNat_natCast]
 by_cases he : (q : Int) = s.u n + 1
 ·rw [if_pos he]
  refine ⟨fun m => ?_, fun m => ?_, fun m => ?_, fun m r h1 h2 => ?_, fun m h1 h2 => ?_, ?_⟩
  ·simp only; split
   ·subst_vars; omega
   ·exact h.pos m
  ·simp only; split
   ·subst_vars; omega
   ·exact h.top m
  ·simp only; split
   ·subst_vars; exact .inr (by omega)
   ·exact (h.lim m).imp id (fun e => by omega)
  ·simp only at h2; split at h2
   ·subst_vars
    by_cases e : (r : Int) ≤ s.u m
    ·exact h.lo m r h1 e
    ·rw [show r = q by omega]; exact hgk
   ·exact h.lo m r h1 h2
  ·simp only at h1 h2 ⊢
   split at h1
   ·subst_vars; omega
   ·rename_i hm
    rw [if_neg hm] at h2 ⊢
    by_cases e : 98 * m + (s.u m).toNat + 1 = k
    ·omega
    ·exact h.hi m (by omega) h2
  ·show s.more = _
   rw [dotsTo_yes hk, hdot, List.filter_append, h.rest]
   have : List.filter (fun d : Dot => decide ((if d.node.toNat = n then s.u d.node.toNat + 1 else s.u d.node.toNat) < d.seq)) [⟨n, q⟩] = [] := by
    simp; omega
   simp only
   rw [this, List.append_nil]
   refine List.filter_congr fun d hd => ?_
   split
   ·rename_i e
    have h1 := hbefore d hd e
    rw [e]
    rw [Bool.eq_iff_iff, decide_eq_true_eq, decide_eq_true_eq]
    omega
   ·rfl
 ·rw [if_neg he]
  refine ⟨h.pos, h.top, fun m => (h.lim m).imp id (fun e => by show 98 * m + (s.u m).toNat < k + 1; omega), h.lo, fun m h1 h2 => ?_, ?_⟩
  ·simp only at h1 h2 ⊢
   by_cases e : 98 * m + (s.u m).toNat + 1 = k
   ·have e1 : m = n := by omega
    subst e1
    omega
   ·exact h.hi m (by omega) h2
  ·show s.more ++ _ = _
   rw [dotsTo_yes hk, hdot, List.filter_append, ← h.rest]
   have : List.filter (fun d : Dot => decide (s.u d.node.toNat < d.seq)) [⟨n, q⟩] = [⟨n, q⟩] := by
    have : s.u n < (q : Int) := by rcases hl with e | e <;> omega
    simp [this]
   rw [this]
theorem Closing.done {g : Grid} (hg : g.Ok) {s : DSet} (h : Closing g 784 s) : Closes g s := by
 refine ⟨fun n _ => h.pos n, fun n _ => h.lo n, fun n hn => ?_, h.rest⟩
 have h0 := h.pos n
 have h96 : s.u n ≤ 96 := by
  by_cases hz : s.u n = 0
  ·omega
  ·have := hg _ _ (h.lo n (s.u n).toNat (by omega) (by omega))
   omega
 exact h.hi n (by omega) (by omega)
end Go.Proofs.YtejihgfigclppaaGreat
namespace Go.Proofs.YtejihgfigclppaaGreat
open Go.RowKit Go.Lib Go.Sort
set_option linter.unusedVariables false
def gridCells (g : Grid) : Array Value := Array.ofFn (n := 784) fun i => Value.bool (gridAt g i)
theorem gridCells_at (g : Grid) (i : Nat) (h : i < 784) : (gridCells g)[i]? = some (.bool (gridAt g i)) := by
 unfold gridCells
 rw [Array.getElem?_ofFn, dif_pos h]
theorem gridCells_size (g : Grid) : (gridCells g).size = 784 := Array.size_ofFn
def GridAt (w : World) (b : Nat) (g : Grid) : Prop := w.heap[b]? = some (.cells (gridCells g) 198)
theorem GridAt.lt {w : World} {b : Nat} {g : Grid} (h : GridAt w b g) : b < w.heap.size := (Array.getElem?_eq_some_iff.1 h).1
theorem GridAt.cell {w : World} {b : Nat} {g : Grid} (h : GridAt w b g) (n q : Nat) (hn : n < 8) (hq : q < 98) : w.cell? ⟨b, n * 98 + q, none⟩ = some (.bool (g n q)) := by
 rw [cell_of_row w b (n * 98 + q) _ _ _ h, gridCells_at g _ (by omega)]
 unfold gridAt
 rw [show (n * 98 + q) / 98 = n by omega, show (n * 98 + q) % 98 = q by omega]
theorem GridAt.free {w : World} {b : Nat} {g : Grid} (h : GridAt w b g) (o : Nat) : w.frozen? ⟨b, o, none⟩ = false := by
 unfold World.frozen?
 rw [h]
 simp
theorem GridAt.keep {w w' : World} {b : Nat} {g : Grid} (h : GridAt w b g) (hb : w'.heap[b]? = w.heap[b]?) : GridAt w' b g := hb.trans h
theorem GridAt.below {w w' : World} {b B : Nat} {g : Grid} (h : GridAt w b g) (hb : Below B w w') (hB : b < B) : GridAt w' b g := (hb.block b hB).trans h
theorem GridAt.kept {w w' : World} {b : Nat} {row : Option Nat} {g : Grid} (h : GridAt w b g) (hg : w.grownBy w' row) (hr : some b ≠ row) : GridAt w' b g := (hg.block b h.lt hr).trans h
theorem GridAt.set {w : World} {b : Nat} {g : Grid} (h : GridAt w b g) (n q : Nat) (hn : n < 8) (hq : q < 98) : GridAt (w.setCell ⟨b, n * 98 + q, none⟩ (.bool true)) b (g.put n q) := by
 unfold GridAt at *
 rw [heap_setCell_same _ _ _ _ _ _ h]
 refine congrArg (fun c => some (Obj.cells c 198 (0, 0))) ?_
 apply Array.ext_getElem?
 intro i
 by_cases hi : i < 784
 ·rw [gridCells_at _ _ hi, Array.getElem?_setIfInBounds]
  by_cases e : n * 98 + q = i
  ·rw [if_pos e, if_pos (by rw [gridCells_size]; omega)]
   unfold gridAt Grid.put
   rw [show i / 98 = n by omega, show i % 98 = q by omega]
   simp
  ·rw [if_neg e, gridCells_at _ _ hi]
   unfold gridAt Grid.put
   have : (decide (i / 98 = n) && decide (i % 98 = q)) = false := by
    rw [Bool.and_eq_false_iff, decide_eq_false_iff_not, decide_eq_false_iff_not]
    omega
   rw [this, Bool.or_false]
 ·rw [Array.getElem?_eq_none (by rw [Array.size_setIfInBounds, gridCells_size]; omega), Array.getElem?_eq_none (by rw [gridCells_size]; omega)]
def rowCells (g : Grid) (n : Nat) : Array Value := Array.ofFn (n := 98) fun i => Value.bool (g n i)
theorem rowCells_at (g : Grid) (n i : Nat) (h : i < 98) : (rowCells g n)[i]? = some (.bool (g n i)) := by
 unfold rowCells
 rw [Array.getElem?_ofFn, dif_pos h]
set_option maxHeartbeats 4000000 in
theorem put_any (b : Nat) (g : Grid) (d : Dot) (w : World) (h : GridAt w b g) (h0 : 0 ≤ d.node) (h1 : d.node < 8) (h2 : 0 ≤ d.seq) (h3 : d.seq < 98) :
  Calls Tryz.prog 131 #[.pointer (some ⟨b, 0, none⟩), .agg #[.int .i64 d.node, .int .i64 d.seq]] w fun e w' => e = .returned (.tuple #[]) ∧ GridAt w' b (g.put d.node.toNat d.seq.toNat) ∧ w.grownBy w' (some b) := by
 have hg1 : GridAt (w.alloc (.cells #[.int .i64 d.node, .int .i64 d.seq] 108)).drew b g := h.below (below_drew ((Below.refl w.heap.size w).alloc (Nat.le_refl _) _)) h.lt
 have hc := hg1.cell d.node.toNat d.seq.toNat (by omega) (by omega)
 have hf := hg1.free (d.node.toNat * 98 + d.seq.toNat)
 have HG := Lib.hid hg1
 have HL := Lib.hid h.lt
 clear h hg1
 go_enter Tryz.func131, Tryz.ntmps131
 go_wp2_with fail
 go_region_law (fail)
 all_goals
  go_wp2_with fail
  go_end0
  exact ⟨rfl, HG.out.set _ _ (by omega) (by omega), rfl, rfl, rfl, by simp, fun i hi hne => (Below.heap_setCell (w.alloc (.cells #[.int .i64 d.node, .int .i64 d.seq] 108)) ⟨b, d.node.toNat * 98 + d.seq.toNat, none⟩ _ _ (fun e => hne (by rw [e]))).trans (Below.heap_alloc _ _ _ hi)⟩
end Go.Proofs.YtejihgfigclppaaGreat
namespace Go.Proofs.YtejihgfigclppaaGreat
open Go.Shelf Go.RowKit Go.Lib Go.Sort
set_option linter.unusedVariables false
def mayB (d : Dot) : Bool := decide (May d)
set_option maxHeartbeats 2000000 in
theorem may_any (d : Dot) (w : World) : Calls Tryz.prog 119 #[.agg #[.int .i64 d.node, .int .i64 d.seq]] w fun e w' => e = .returned (.bool (mayB d)) ∧ Grew w w' := by
 by_cases h1 : 0 ≤ d.node
 ·by_cases h2 : d.node < 8
  ·by_cases h3 : 1 ≤ d.seq
   ·by_cases h4 : d.seq ≤ 96
    ·have hm : mayB d = true := decide_eq_true ⟨h1, h2, h3, h4⟩
     rw [hm]; clear hm
     go_enter Tryz.func119, Tryz.ntmps119
     go_wp2_with fail
     go_ret
     exact ⟨rfl, (Grew.refl _).alloc _⟩
    ·have hm : mayB d = false := decide_eq_false fun h => h4 h.2.2.2
     rw [hm]; clear hm
     go_enter Tryz.func119, Tryz.ntmps119
     go_wp2_with fail
     go_ret
     exact ⟨rfl, (Grew.refl _).alloc _⟩
   ·have hm : mayB d = false := decide_eq_false fun h => h3 h.2.2.1
    rw [hm]; clear hm
    go_enter Tryz.func119, Tryz.ntmps119
    go_wp2_with fail
    go_ret
    exact ⟨rfl, (Grew.refl _).alloc _⟩
  ·have hm : mayB d = false := decide_eq_false fun h => h2 h.2.1
   rw [hm]; clear hm
   go_enter Tryz.func119, Tryz.ntmps119
   go_wp2_with fail
   go_ret
   exact ⟨rfl, (Grew.refl _).alloc _⟩
 ·have hm : mayB d = false := decide_eq_false fun h => h1 h.1
  rw [hm]; clear hm
  go_enter Tryz.func119, Tryz.ntmps119
  go_wp2_with fail
  go_ret
  exact ⟨rfl, (Grew.refl _).alloc _⟩
def cmpDot (a b : Dot) : Int := if a.node = b.node then a.seq - b.seq else a.node - b.node
theorem cmpDot_neg {a b : Dot} : cmpDot a b < 0 ↔ Before a b := by
 unfold cmpDot Before
 split <;> omega
set_option maxHeartbeats 2000000 in
theorem dcompare_any (a b : Dot) (ha : May a) (hb : May b) (w : World) : Calls Tryz.prog 120 #[.agg #[.int .i64 a.node, .int .i64 a.seq], .agg #[.int .i64 b.node, .int .i64 b.seq]] w fun e w' => e = .returned (.int .i64 (cmpDot a b)) ∧ Grew w w' := by
 obtain ⟨h1, h2, h3, h4⟩ := ha
 obtain ⟨k1, k2, k3, k4⟩ := hb
 by_cases he : a.node = b.node
 ·have hm : cmpDot a b = a.seq - b.seq := by unfold cmpDot; rw [if_pos he]
  rw [hm]; clear hm
  go_enter Tryz.func120, Tryz.ntmps120
  go_wp2_with fail
  go_ret
  exact ⟨by go_num, ((Grew.refl _).alloc _).alloc _⟩
 ·have hm : cmpDot a b = a.node - b.node := by unfold cmpDot; rw [if_neg he]
  rw [hm]; clear hm
  go_enter Tryz.func120, Tryz.ntmps120
  go_wp2_with fail
  go_ret
  exact ⟨by go_num, ((Grew.refl _).alloc _).alloc _⟩
def Steps (K : Nat) (pre free : Array Value) (ds : List Dot) (Inv : Nat → World → Prop) : Prop :=
 (∀ i (h : i < ds.length) W, Inv i W → Calls Tryz.prog K (pre.push (.agg #[.int .i64 ds[i].node, .int .i64 ds[i].seq]) ++ free) W fun e w' => e = .returned (.tuple #[]) ∧ Inv (i + 1) w') ∧ (∀ i W W', Inv i W → Below W.heap.size W W' → Inv i W')
set_option maxHeartbeats 4000000 in
theorem each_any (K : Nat) (pre free : Array Value) (eg : ∀ args w, (callFunc K args).run Tryz.prog w = .ok (.enter K args) w) (oa : Option Addr) (cap : Nat) (ds : List Dot) (Inv : Nat → World → Prop) (hs : Steps K pre free ds Inv)
  (hr : ∀ i W, Inv i W → SlAt Dot.cells W (.slice oa ds.length cap) ds) (hl : ds.length ≤ 1000000) (w : World) (h0 : Inv 0 w) :
  Calls Tryz.prog 151 #[.slice oa ds.length cap, .func (.func K) pre free] w fun e w' => e = .returned (.tuple #[]) ∧ Inv ds.length w' := by
 have HS := Lib.hid hs
 have HR := Lib.hid hr
 have H0 := Lib.hid h0
 clear hs hr h0
 go_enter Tryz.func151, Tryz.ntmps151
 go_wp2_with fail
 go_loopg [8] ds.length (fun gk s8 wr => ∃ (i : Nat), s8 = .int .i64 i ∧ i ≤ ds.length ∧ ds.length - i ≤ gk ∧ Hid (Inv i wr))
 case atStart => exact ⟨0, rfl, Nat.zero_le _, Nat.le_refl _, H0.out⟩
 case round =>
  obtain ⟨i, rfl, hi, hg, HI⟩ := hrel
  by_cases hlt : i < ds.length
  ·have hltz : (i : Int) < (ds.length : Int) := by omega
   have hsl := HR.out i wr HI.out
   obtain ⟨b, off, rfl⟩ := hsl.plain Dot.cells_len (by decide) (by intro e; rw [e] at hlt; exact absurd hlt (by simp))
   have c0 := hsl.cell Dot.cells_len (i := i) (c := 0) hlt (by decide)
   have c1 := hsl.cell Dot.cells_len (i := i) (c := 1) hlt (by decide)
   have hst := fun W (hb : Below wr.heap.size wr W) => HS.out.1 i hlt W (HS.out.2 i wr W HI.out hb)
   simp only [Dot.cells, List.getElem?_cons_zero, List.getElem?_cons_succ] at c0 c1
   have e0 : off + (i * 2 + 0) = off + i * 2 := by omega
   have e1 : off + (i * 2 + 1) = off + i * 2 + 1 := by omega
   rw [e0] at c0
   rw [e1] at c1
   generalize ds[i] = d at *
   have HST := Lib.hid hst
   clear hsl hst e0 e1
   go_wp2_with fail
   refine (HST.out _ ((Below.refl _ _).alloc (Nat.le_refl _) _)).mono ?_
   rintro e w1 ⟨rfl, hI⟩
   have HI1 := Lib.hid hI
   clear hI c0 c1 HST HI
   go_wp2_with fail
   go_roundg (ds.length - (i + 1))
   case measure => omega
   case rel => exact ⟨i + 1, by go_num, by omega, Nat.le_refl _, HI1.out⟩
  ·have hltz : ¬ (i : Int) < (ds.length : Int) := by omega
   obtain rfl : i = ds.length := by omega
   go_wp2_with fail
   go_end0
   exact ⟨rfl, HI.out⟩
theorem rowCells_size (g : Grid) (n : Nat) : (rowCells g n).size = 98 := Array.size_ofFn
theorem wpList_loadAgg {P : Program} (w : World) {ops : Array Oper} {rest : List Oper} {o : Oper} {a : Act} {Q : Exit → Act → World → Prop} (hgd : o.guard = none) (t : TypeId) (x : Operand) (ho : o.op = .load t x) (n : Nat)
  (hA : (isAgg t).run P w = .ok true w) (hz : (sizeOf t).run P w = .ok n w) (p : Addr) (hx : a.eval x = .pointer (some p)) (vs : Array Value) (hl : Sem.run P (loadCellsFrom p 0 n #[]) w = .ok vs w)
  (h : wpList P ops Q rest (a.put o.dst (.agg vs)) w) : wpList P ops Q (o :: rest) a w := by
 refine wpList_plain hgd fun K hK => ?_
 unfold Oper.wp execOp
 simp only [ho, Instr.loadAt, Instr.sureAddr, loadVar, loadCells, Sem.run_bind, Sem.run_pure, Result.andThen_ok, hx, hA, hz, hl, if_true]
 exact hK _ _ h
theorem GridAt.load {w : World} {b : Nat} {g : Grid} (h : GridAt w b g) (n : Nat) (hn : n < 8) : Sem.run Tryz.prog (loadCellsFrom ⟨b, n * 98, none⟩ 0 98 #[]) w = .ok (rowCells g n) w := by
 have := run_loadCellsFrom_list Tryz.prog w ⟨b, n * 98, none⟩ (rowCells g n).toList 98 (by rw [Array.length_toList, rowCells_size]) fun j v hv => by
  rw [Addr.add_lit]
  have hj : j < 98 := by have := (List.getElem?_eq_some_iff.1 hv).1; rwa [Array.length_toList, rowCells_size] at this
  rw [Array.getElem?_toList, rowCells_at g n j hj] at hv
  rw [h.cell n j hn hj, ← hv]
 rw [this, Array.toArray_toList]
theorem run_index98 (g : Grid) (n j : Nat) (hj : j < 98) (w : World) : (Instr.index 190 (.agg (rowCells g n)) (.int .i64 j)).run Tryz.prog w = .ok (.bool (g n j)) w := by
 have h1 := rowCells_at g n j hj
 generalize rowCells g n = c at h1
 have hz : (sizeOf 4).run Tryz.prog w = .ok 1 w := by kernel_rfl
 have ha : (isAgg 4).run Tryz.prog w = .ok false w := by kernel_rfl
 simp [Instr.index, asIntOf, run_underlying Tryz.underlying190, part, hz, ha, h1, Result.andThen]
 omega
set_option maxHeartbeats 4000000 in
theorem walk_any (K : Nat) (pre free : Array Value) (eg : ∀ args w, (callFunc K args).run Tryz.prog w = .ok (.enter K args) w) (b : Nat) (g : Grid) (Inv : Nat → World → Prop)
  (hs : ∀ k, k < 784 → gridAt g k = true → ∀ W, Inv k W → Calls Tryz.prog K (pre.push (.agg #[.int .i64 (dotAt k).node, .int .i64 (dotAt k).seq]) ++ free) W fun e w' => e = .returned (.tuple #[]) ∧ Inv (k + 1) w')
  (hn : ∀ k, k < 784 → gridAt g k = false → ∀ W, Inv k W → Inv (k + 1) W) (hg : ∀ k W, Inv k W → GridAt W b g) (w : World) (h0 : Inv 0 w) :
  Calls Tryz.prog 138 #[.pointer (some ⟨b, 0, none⟩), .func (.func K) pre free] w fun e w' => e = .returned (.tuple #[]) ∧ Inv 784 w' := by
 have HS := Lib.hid hs
 have HN := Lib.hid hn
 have HG := Lib.hid hg
 have H0 := Lib.hid h0
 clear hs hn hg h0
 go_enter Tryz.func138, Tryz.ntmps138
 go_wp2_with fail
 go_loopg [7] 8 (fun gk s7 wr => ∃ (n : Nat), s7 = .int .i64 n ∧ n ≤ 8 ∧ 8 - n ≤ gk ∧ Hid (Inv (n * 98) wr))
 case atStart => exact ⟨0, rfl, Nat.zero_le _, Nat.le_refl _, by rw [Nat.zero_mul]; exact H0.out⟩
 case round =>
  obtain ⟨n, rfl, hi, hg, HI⟩ := hrel
  by_cases hlt : n < 8
  ·have hltz : (n : Int) < 8 := by omega
   have hgr := HG.out _ _ HI.out
   have hld := hgr.load n hlt
   have c0 := hgr.cell n 0 hlt (by decide)
   generalize hrow : rowCells g n = row at hld
   have HROW := Lib.hid hrow
   clear hgr hrow
   go_wp2_with (refine wpList_loadAgg _ rfl 190 _ rfl 98 (by kernel_rfl) (by kernel_rfl) ⟨b, n * 98, none⟩ rfl row hld ?_)
   clear hld c0
   have hwr := HI.out
   clear HI
   go_loopg [15] 98 (fun gk s15 wr => ∃ (j : Nat), s15 = .int .i64 j ∧ j ≤ 98 ∧ 98 - j ≤ gk ∧ Hid (Inv (n * 98 + j) wr))
   case atStart => exact ⟨0, rfl, Nat.zero_le _, Nat.le_refl _, hwr⟩
   case round =>
    obtain ⟨j, rfl, hj, hgj, HI⟩ := hrel
    by_cases hjl : j < 98
    ·have hjz : (j : Int) < 98 := by omega
     have hix := run_index98 g n j hjl
     rw [HROW.out] at hix
     have e1 : (n * 98 + j) / 98 = n := by omega
     have e2 : (n * 98 + j) % 98 = j := by omega
     have hlt784 : n * 98 + j < 784 := by omega
     have hstep := HS.out (n * 98 + j) hlt784
     have hskip := HN.out (n * 98 + j) hlt784
     unfold gridAt at hstep hskip
     unfold dotAt at hstep
     simp only [e1, e2] at hstep hskip
     cases hgb : g n j with
     | true =>
      rw [hgb] at hix
      have HST := Lib.hid (hstep hgb wr HI.out)
      clear hstep hskip hwr HI e1 e2
      go_wp2_with fail
      refine HST.out.mono ?_
      rintro e w1 ⟨rfl, hI⟩
      have HI1 := Lib.hid hI
      clear hI HST hix
      go_wp2_with fail
      go_roundg (98 - (j + 1))
      case measure => omega
      case rel => exact ⟨j + 1, by go_num, by omega, Nat.le_refl _, HI1.out⟩
     | false =>
      rw [hgb] at hix
      have HI1 := Lib.hid (hskip hgb wr HI.out)
      clear hstep hskip hwr HI e1 e2
      go_wp2_with fail
      go_roundg (98 - (j + 1))
      case measure => omega
      case rel => exact ⟨j + 1, by go_num, by omega, Nat.le_refl _, HI1.out⟩
    ·have hjz : ¬ (j : Int) < 98 := by omega
     obtain rfl : j = 98 := by omega
     clear hwr
     go_wp2_with fail
     go_roundg (8 - (n + 1))
     case measure => omega
     case rel => exact ⟨n + 1, by go_num, by omega, Nat.le_refl _, by have := HI.out; rwa [show n * 98 + 98 = (n + 1) * 98 by omega] at this⟩
  ·have hltz : ¬ (n : Int) < 8 := by omega
   obtain rfl : n = 8 := by omega
   go_wp2_with fail
   go_end0
   exact ⟨rfl, HI.out⟩
end Go.Proofs.YtejihgfigclppaaGreat
