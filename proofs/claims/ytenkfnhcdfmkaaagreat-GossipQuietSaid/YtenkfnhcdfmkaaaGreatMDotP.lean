/-
  Plain facts on sets of dots: a set laid open as a grid, the dots of a grid in order, the set that a grid closes to. No function of the program is entered.
  Plain facts on a book of events: what is seen and what holds behind each event; closed events come to the same in any order. No function of the program is entered.
-/
import Derived.Test.YtenkfnhcdfmkaaaGreatMSat
namespace Go.Proofs.YtenkfnhcdfmkaaaGreat
set_option linter.unusedVariables false
def May (d : Dot) : Prop := 0 ≤ d.node ∧ d.node < 8 ∧ 1 ≤ d.seq ∧ d.seq ≤ 96
instance (d : Dot) : Decidable (May d) := by unfold May; infer_instance
def Before (a b : Dot) : Prop := a.node < b.node ∨ (a.node = b.node ∧ a.seq < b.seq)
instance (a b : Dot) : Decidable (Before a b) := by unfold Before; infer_instance
theorem Before.trans {a b c : Dot} (h : Before a b) (k : Before b c) : Before a c := by unfold Before at *; omega
theorem Before.irrefl (a : Dot) : ¬ Before a a := by unfold Before; omega
theorem before_eq : ∀ {l l' : List Dot}, l.Pairwise Before → l'.Pairwise Before → (∀ x, x ∈ l ↔ x ∈ l') → l = l'
 | [], [], _, _, _ => rfl
 | [], b :: l', _, _, h => absurd ((h b).2 (by simp)) (by simp)
 | a :: l, [], _, _, h => absurd ((h a).1 (by simp)) (by simp)
 | a :: l, b :: l', h1, h2, h => by
  have p1 := List.pairwise_cons.1 h1
  have p2 := List.pairwise_cons.1 h2
  have hab : a = b := by
   have ha := (h a).1 (by simp)
   have hb := (h b).2 (by simp)
   rcases List.mem_cons.1 ha with e | e
   ·exact e
   ·rcases List.mem_cons.1 hb with e' | e'
    ·exact e'.symm
    ·exact absurd ((p1.1 b e').trans (p2.1 a e)) (Before.irrefl a)
  subst hab
  rw [before_eq p1.2 p2.2 fun x => ?_]
  constructor
  ·intro hx
   rcases List.mem_cons.1 ((h x).1 (List.mem_cons_of_mem _ hx)) with e | e
   ·exact absurd (p1.1 x hx) (by rw [e]; exact Before.irrefl _)
   ·exact e
  ·intro hx
   rcases List.mem_cons.1 ((h x).2 (List.mem_cons_of_mem _ hx)) with e | e
   ·exact absurd (p2.1 x hx) (by rw [e]; exact Before.irrefl _)
   ·exact e
abbrev Grid := Nat → Nat → Bool
def Grid.none : Grid := fun _ _ => false
def Grid.put (g : Grid) (n q : Nat) : Grid := fun m r => g m r || (decide (m = n) && decide (r = q))
def Grid.or (g h : Grid) : Grid := fun n q => g n q || h n q
def Grid.Ok (g : Grid) : Prop := ∀ n q, g n q = true → n < 8 ∧ 1 ≤ q ∧ q ≤ 96
theorem Grid.none_ok : Grid.none.Ok := fun n q h => nomatch h
theorem Grid.Ok.put {g : Grid} (h : g.Ok) {n q : Nat} (hn : n < 8) (h1 : 1 ≤ q) (h2 : q ≤ 96) : (g.put n q).Ok := fun m r e => by
 unfold Grid.put at e
 simp only [Bool.or_eq_true, Bool.and_eq_true, decide_eq_true_eq] at e
 rcases e with e | ⟨rfl, rfl⟩
 ·exact h m r e
 ·exact ⟨hn, h1, h2⟩
theorem Grid.Ok.or {g h : Grid} (hg : g.Ok) (hh : h.Ok) : (g.or h).Ok := fun m r e => by
 unfold Grid.or at e
 rw [Bool.or_eq_true] at e
 rcases e with e | e
 ·exact hg m r e
 ·exact hh m r e
def dotAt (i : Nat) : Dot := ⟨(i / 98 : Nat), (i % 98 : Nat)⟩
def gridAt (g : Grid) (i : Nat) : Bool := g (i / 98) (i % 98)
def dotsTo (g : Grid) (k : Nat) : List Dot := ((List.range k).filter (gridAt g)).map dotAt
def dotsOf (g : Grid) : List Dot := dotsTo g 784
theorem dotsTo_yes {g : Grid} {k : Nat} (h : gridAt g k = true) : dotsTo g (k + 1) = dotsTo g k ++ [dotAt k] := by
 unfold dotsTo
 rw [List.range_succ, List.filter_append, List.map_append]
 simp [h]
theorem dotsTo_no {g : Grid} {k : Nat} (h : gridAt g k = false) : dotsTo g (k + 1) = dotsTo g k := by
 unfold dotsTo
 rw [List.range_succ, List.filter_append, List.map_append]
 simp [h]
theorem mem_dotsTo {g : Grid} {k : Nat} {d : Dot} : d ∈ dotsTo g k ↔ ∃ i, i < k ∧ gridAt g i = true ∧ d = dotAt i := by
 unfold dotsTo
 simp only [List.mem_map, List.mem_filter, List.mem_range]
 constructor
 ·rintro ⟨i, ⟨h1, h2⟩, rfl⟩; exact ⟨i, h1, h2, rfl⟩
 ·rintro ⟨i, h1, h2, rfl⟩; exact ⟨i, ⟨h1, h2⟩, rfl⟩
theorem before_dotAt {i j : Nat} (h : i < j) : Before (dotAt i) (dotAt j) := by
 unfold Before dotAt
 simp only
 have h1 := Nat.div_add_mod i 98
 have h2 := Nat.div_add_mod j 98
 have h3 := Nat.mod_lt i (show 98 > 0 by decide)
 have h4 := Nat.mod_lt j (show 98 > 0 by decide)
 omega
theorem dotsTo_sorted (g : Grid) (k : Nat) : (dotsTo g k).Pairwise Before := by
 unfold dotsTo
 rw [List.pairwise_map]
 refine List.Pairwise.sublist List.filter_sublist ?_
 exact (List.pairwise_lt_range (n := k)).imp fun h => before_dotAt h
theorem mem_dotsOf {g : Grid} (hg : g.Ok) {d : Dot} : d ∈ dotsOf g ↔ May d ∧ g d.node.toNat d.seq.toNat = true := by
 unfold dotsOf
 rw [mem_dotsTo]
 constructor
 ·rintro ⟨i, hi, h1, rfl⟩
  have h2 := hg _ _ h1
  unfold May dotAt
  simp only
  refine ⟨by omega, ?_⟩
  rw [Int.toNat_natCast, Int.toNat_natCast]
  exact h1
 ·rintro ⟨hm, h1⟩
  obtain ⟨n, q⟩ := d
  unfold May at hm
  simp only at hm h1
  refine ⟨98 * n.toNat + q.toNat, by omega, ?_, ?_⟩
  ·unfold gridAt
   rw [show (98 * n.toNat + q.toNat) / 98 = n.toNat by omega, show (98 * n.toNat + q.toNat) % 98 = q.toNat by omega]
   exact h1
  ·unfold dotAt
   rw [show (98 * n.toNat + q.toNat) / 98 = n.toNat by omega, show (98 * n.toNat + q.toNat) % 98 = q.toNat by omega, Int.toNat_of_nonneg (by omega), Int.toNat_of_nonneg (by omega)]
theorem dotsOf_len {g : Grid} (hg : g.Ok) : (dotsOf g).length ≤ 768 := by
 unfold dotsOf dotsTo
 rw [List.length_map]
 have h1 : ((List.range 784).filter (gridAt g)) = ((List.range 784).filter fun i => decide (1 ≤ i % 98 ∧ i % 98 ≤ 96)).filter (gridAt g) := by
  rw [List.filter_filter]
  refine List.filter_congr fun i hi => ?_
  cases h : gridAt g i with
  | false => simp
  | true => have := hg _ _ h; simp [this]
 rw [h1]
 refine Nat.le_trans (List.length_filter_le _ _) ?_
 decide +kernel
structure DSet where
 u : Nat → Int
 more : List Dot
def DSet.none : DSet := ⟨fun _ => 0, []⟩
def DSet.Right (s : DSet) : Prop := (∀ n, n < 8 → 0 ≤ s.u n ∧ s.u n ≤ 96) ∧ s.more.length ≤ 768 ∧ (∀ d ∈ s.more, May d ∧ 2 ≤ d.seq - s.u d.node.toNat) ∧ s.more.Pairwise Before
open Classical in
noncomputable def DSet.grid (s : DSet) : Grid := fun n q => decide (s.Right ∧ n < 8 ∧ 1 ≤ q ∧ ((q : Int) ≤ s.u n ∨ (⟨n, q⟩ : Dot) ∈ s.more))
theorem DSet.grid_iff {s : DSet} {n q : Nat} : s.grid n q = true ↔ s.Right ∧ n < 8 ∧ 1 ≤ q ∧ ((q : Int) ≤ s.u n ∨ (⟨n, q⟩ : Dot) ∈ s.more) := by
 unfold DSet.grid
 simp only [decide_eq_true_eq]
theorem DSet.grid_ok (s : DSet) : s.grid.Ok := fun n q h => by
 obtain ⟨hr, hn, hq, h⟩ := DSet.grid_iff.1 h
 refine ⟨hn, hq, ?_⟩
 rcases h with h | h
 ·have := (hr.1 n hn).2; omega
 ·have := (hr.2.2.1 _ h).1.2.2.2
  simp only at this
  omega
theorem DSet.grid_wrong {s : DSet} (h : ¬ s.Right) : s.grid = Grid.none := by
 funext n q
 cases e : s.grid n q with
 | false => rfl
 | true => exact absurd (DSet.grid_iff.1 e).1 h
theorem DSet.grid_none : DSet.none.grid = Grid.none := by
 funext n q
 cases e : DSet.none.grid n q with
 | false => rfl
 | true =>
  obtain ⟨_, _, h1, h2⟩ := DSet.grid_iff.1 e
  rcases h2 with h2 | h2
  ·have : (q : Int) ≤ 0 := h2
   omega
  ·cases h2
structure Closes (g : Grid) (s : DSet) : Prop where
 pos : ∀ n, n < 8 → 0 ≤ s.u n
 lo : ∀ n, n < 8 → ∀ q : Nat, 1 ≤ q → (q : Int) ≤ s.u n → g n q = true
 hi : ∀ n, n < 8 → g n ((s.u n).toNat + 1) = false
 rest : s.more = (dotsOf g).filter fun d => decide (s.u d.node.toNat < d.seq)
theorem Closes.right {g : Grid} (hg : g.Ok) {s : DSet} (h : Closes g s) : s.Right := by
 have hu : ∀ n, n < 8 → 0 ≤ s.u n ∧ s.u n ≤ 96 := fun n hn => by
  have h0 := h.pos n hn
  refine ⟨h0, ?_⟩
  by_cases hz : s.u n = 0
  ·omega
  ·have := hg _ _ (h.lo n hn (s.u n).toNat (by omega) (by omega))
   omega
 refine ⟨hu, ?_, fun d hd => ?_, ?_⟩
 ·rw [h.rest]
  exact Nat.le_trans (List.length_filter_le _ _) (dotsOf_len hg)
 ·rw [h.rest, List.mem_filter] at hd
  obtain ⟨hd1, hd2⟩ := hd
  have hm := (mem_dotsOf hg).1 hd1
  have hlt : s.u d.node.toNat < d.seq := by simpa using hd2
  refine ⟨hm.1, ?_⟩
  have hm1 := hm.1
  unfold May at hm1
  have h0 := hu d.node.toNat (by omega)
  by_cases e : d.seq = s.u d.node.toNat + 1
  ·have h3 := h.hi d.node.toNat (by omega)
   rw [show (s.u d.node.toNat).toNat + 1 = d.seq.toNat by omega, hm.2] at h3
   cases h3
  ·omega
 ·rw [h.rest]
  exact List.Pairwise.sublist List.filter_sublist (dotsTo_sorted _ _)
theorem Closes.grid {g : Grid} (hg : g.Ok) {s : DSet} (h : Closes g s) : s.grid = g := by
 have hr := h.right hg
 funext n q
 rw [Bool.eq_iff_iff, DSet.grid_iff]
 constructor
 ·rintro ⟨_, hn, hq, h1 | h1⟩
  ·exact h.lo n hn q hq h1
  ·rw [h.rest, List.mem_filter] at h1
   have := ((mem_dotsOf hg).1 h1.1).2
   simpa using this
 ·intro e
  obtain ⟨hn, h1, h2⟩ := hg _ _ e
  refine ⟨hr, hn, h1, ?_⟩
  by_cases hle : (q : Int) ≤ s.u n
  ·exact .inl hle
  ·refine .inr ?_
   rw [h.rest, List.mem_filter]
   refine ⟨(mem_dotsOf hg).2 ⟨?_, by simpa using e⟩, ?_⟩
   ·unfold May; simp only; omega
   ·simp only [Int.toNat_natCast, decide_eq_true_eq]; omega
theorem closes_none : Closes Grid.none DSet.none := ⟨fun _ _ => Int.le_refl 0, fun n _ q h1 h2 => by have : (q : Int) ≤ 0 := h2; omega, fun _ _ => rfl, by
 have : dotsOf Grid.none = [] := by
  have h : ∀ x, x ∉ dotsOf Grid.none := fun x hx => by have := ((mem_dotsOf Grid.none_ok).1 hx).2; cases this
  exact List.eq_nil_iff_forall_not_mem.2 h
 rw [this]; rfl⟩
def closeStep (s : DSet) (d : Dot) : DSet := if d.seq = s.u d.node.toNat + 1 then ⟨fun n => if n = d.node.toNat then s.u n + 1 else s.u n, s.more⟩ else ⟨s.u, s.more ++ [d]⟩
structure Closing (g : Grid) (k : Nat) (s : DSet) : Prop where
 pos : ∀ n, 0 ≤ s.u n
 top : ∀ n, s.u n ≤ 97
 lim : ∀ n, s.u n = 0 ∨ 98 * n + (s.u n).toNat < k
 lo : ∀ n, ∀ q : Nat, 1 ≤ q → (q : Int) ≤ s.u n → g n q = true
 hi : ∀ n, 98 * n + (s.u n).toNat + 1 < k → (s.u n).toNat + 1 < 98 → g n ((s.u n).toNat + 1) = false
 rest : s.more = (dotsTo g k).filter fun d => decide (s.u d.node.toNat < d.seq)
theorem closing_start (g : Grid) : Closing g 0 DSet.none := ⟨fun _ => Int.le_refl 0, fun _ => by show (0 : Int) ≤ 97; decide, fun _ => .inl rfl, fun n q h1 h2 => by have : (q : Int) ≤ 0 := h2; omega, fun n h => by omega, rfl⟩
theorem Closing.skip {g : Grid} {k : Nat} {s : DSet} (h : Closing g k s) (hk : gridAt g k = false) : Closing g (k + 1) s := by
 refine ⟨h.pos, h.top, fun n => (h.lim n).imp id (fun e => by omega), h.lo, fun n h1 h2 => ?_, by rw [dotsTo_no hk]; exact h.rest⟩
 by_cases e : 98 * n + (s.u n).toNat + 1 = k
 ·have : gridAt g k = g n ((s.u n).toNat + 1) := by
   unfold gridAt
   rw [show k / 98 = n by omega, show k % 98 = (s.u n).toNat + 1 by omega]
  rw [← this]; exact hk
 ·exact h.hi n (by omega) h2
theorem Closing.step {g : Grid} (hg : g.Ok) {k : Nat} {s : DSet} (h : Closing g k s) (hk : gridAt g k = true) : Closing g (k + 1) (closeStep s (dotAt k)) := by
 have hok := hg _ _ hk
 obtain ⟨n, hn⟩ : ∃ n, k / 98 = n := ⟨_, rfl⟩
 obtain ⟨q, hq⟩ : ∃ q, k % 98 = q := ⟨_, rfl⟩
 have hkn : k = 98 * n + q := by have := Nat.div_add_mod k 98; omega
 have hdot : dotAt k = ⟨n, q⟩ := by unfold dotAt; rw [hn, hq]
 have hgk : g n q = true := by unfold gridAt at hk; rw [hn, hq] at hk; exact hk
 rw [hn, hq] at hok
 have h0 := h.pos n
 have hl := h.lim n
 -- what came of this node lies ahead
 have hbefore : ∀ d ∈ dotsTo g k, d.node.toNat = n → d.seq < q := fun d hd e => by
  obtain ⟨i, hi, _, rfl⟩ := mem_dotsTo.1 hd
  unfold dotAt at e ⊢
  simp only [Int.toNat_natCast] at e ⊢
  omega
 rw [hdot]
 unfold closeStep
 simp only [Int.toNat_natCast]
 by_cases he : (q : Int) = s.u n + 1
 ·rw [if_pos he]
  refine ⟨fun m => ?_, fun m => ?_, fun m => ?_, fun m r h1 h2 => ?_, fun m h1 h2 => ?_, ?_⟩
  ·simp only; split
   ·subst_vars; omega
   ·exact h.pos m
  ·simp only; split
   ·subst_vars; omega
   ·exact h.top m
  ·simp only; split
   ·subst_vars; exact .inr (by omega)
   ·exact (h.lim m).imp id (fun e => by omega)
  ·simp only at h2; split at h2
   ·subst_vars
    by_cases e : (r : Int) ≤ s.u m
    ·exact h.lo m r h1 e
    ·rw [show r = q by omega]; exact hgk
   ·exact h.lo m r h1 h2
  ·simp only at h1 h2 ⊢
   split at h1
   ·subst_vars; omega
   ·rename_i hm
    rw [if_neg hm] at h2 ⊢
    by_cases e : 98 * m + (s.u m).toNat + 1 = k
    ·omega
    ·exact h.hi m (by omega) h2
  ·show s.more = _
   rw [dotsTo_yes hk, hdot, List.filter_append, h.rest]
   have : List.filter (fun d : Dot => decide ((if d.node.toNat = n then s.u d.node.toNat + 1 else s.u d.node.toNat) < d.seq)) [⟨n, q⟩] = [] := by
    simp; omega
   simp only
   rw [this, List.append_nil]
   refine List.filter_congr fun d hd => ?_
   split
   ·rename_i e
    have h1 := hbefore d hd e
    rw [e]
    rw [Bool.eq_iff_iff, decide_eq_true_eq, decide_eq_true_eq]
    omega
   ·rfl
 ·rw [if_neg he]
  refine ⟨h.pos, h.top, fun m => (h.lim m).imp id (fun e => by show 98 * m + (s.u m).toNat < k + 1; omega), h.lo, fun m h1 h2 => ?_, ?_⟩
  ·simp only at h1 h2 ⊢
   by_cases e : 98 * m + (s.u m).toNat + 1 = k
   ·have e1 : m = n := by omega
    subst e1
    omega
   ·exact h.hi m (by omega) h2
  ·show s.more ++ _ = _
   rw [dotsTo_yes hk, hdot, List.filter_append, ← h.rest]
   have : List.filter (fun d : Dot => decide (s.u d.node.toNat < d.seq)) [⟨n, q⟩] = [⟨n, q⟩] := by
    have : s.u n < (q : Int) := by rcases hl with e | e <;> omega
    simp [this]
   rw [this]
theorem Closing.done {g : Grid} (hg : g.Ok) {s : DSet} (h : Closing g 784 s) : Closes g s := by
 refine ⟨fun n _ => h.pos n, fun n _ => h.lo n, fun n hn => ?_, h.rest⟩
 have h0 := h.pos n
 have h96 : s.u n ≤ 96 := by
  by_cases hz : s.u n = 0
  ·omega
  ·have := hg _ _ (h.lo n (s.u n).toNat (by omega) (by omega))
   omega
 exact h.hi n (by omega) (by omega)
end Go.Proofs.YtenkfnhcdfmkaaaGreat
namespace Go.Proofs.YtenkfnhcdfmkaaaGreat
set_option linter.unusedVariables false
def polZero : Pol := ⟨0, 0, 0, 0, 0, 0, 0⟩
def PolRight (p : Pol) : Prop := (0 ≤ p.mn ∧ p.mn ≤ p.mx ∧ p.mx ≤ 1000) ∧ (1 ≤ p.goal ∧ p.goal ≤ 1073741824) ∧ (0 ≤ p.slack ∧ p.slack ≤ 100) ∧ (1 ≤ p.up ∧ p.up ≤ 1000) ∧ (1 ≤ p.down ∧ p.down ≤ 1000) ∧ (0 ≤ p.cool ∧ p.cool ≤ 1000)
instance (p : Pol) : Decidable (PolRight p) := by unfold PolRight; infer_instance
def KindRight (e : Ev) : Prop := (e.kind = 1 ∧ e.pol = polZero ∧ 0 ≤ e.value ∧ e.value ≤ 1099511627776 ∧ e.rem = []) ∨ (e.kind = 2 ∧ PolRight e.pol ∧ e.value = 0) ∨ (e.kind = 3 ∧ e.pol = polZero ∧ e.value = 0)
instance (e : Ev) : Decidable (KindRight e) := by unfold KindRight; infer_instance
def RemRight (own : Dot) (l : List Dot) : Prop := (∀ d ∈ l, May d ∧ d ≠ own) ∧ l.Pairwise Before
instance (own : Dot) (l : List Dot) : Decidable (RemRight own l) := by unfold RemRight; infer_instance
def RightEv (e : Ev) : Prop := May e.dot ∧ (1 ≤ e.time ∧ e.time ≤ 1099511627776) ∧ (0 ≤ e.work ∧ e.work ≤ 7) ∧ e.rem.length ≤ 96 ∧ RemRight e.dot e.rem ∧ KindRight e
instance (e : Ev) : Decidable (RightEv e) := by unfold RightEv; infer_instance
structure BookS where
 saw : Grid
 holds : List Ev
 time : Int
def BookS.new : BookS := ⟨Grid.none, [], 0⟩
def BookS.sees (S : BookS) (d : Dot) : Bool := S.saw d.node.toNat d.seq.toNat
def seeB (S : BookS) (d : Dot) : BookS := ⟨S.saw.put d.node.toNat d.seq.toNat, S.holds.filter fun e => decide (e.dot ≠ d), S.time⟩
def insEv (e : Ev) : List Ev → List Ev
 | [] => [e]
 | x :: l => if Before x.dot e.dot then x :: insEv e l else e :: x :: l
def maxI (a b : Int) : Int := if a < b then b else a
def takeB (S : BookS) (e : Ev) : BookS := let T := e.rem.foldl seeB (seeB S e.dot); ⟨T.saw, insEv e T.holds, maxI T.time e.time⟩
def addB (S : BookS) (e : Ev) : Int × BookS := if RightEv e then if S.sees e.dot then (9, S) else (0, takeB S e) else (2, S)
def ByDot (l : List Ev) : Prop := l.Pairwise fun a b => Before a.dot b.dot
theorem mem_insEv {e x : Ev} : ∀ {l : List Ev}, x ∈ insEv e l ↔ x = e ∨ x ∈ l
 | [] => by simp [insEv]
 | y :: l => by
  unfold insEv
  split
  ·rw [List.mem_cons, mem_insEv (l := l), List.mem_cons]
   constructor
   ·rintro (h | h | h)
    ·exact .inr (.inl h)
    ·exact .inl h
    ·exact .inr (.inr h)
   ·rintro (h | h | h)
    ·exact .inr (.inl h)
    ·exact .inl h
    ·exact .inr (.inr h)
  ·rw [List.mem_cons]
theorem byDot_ins {e : Ev} : ∀ {l : List Ev}, ByDot l → (∀ x ∈ l, x.dot ≠ e.dot) → ByDot (insEv e l)
 | [], _, _ => List.pairwise_singleton _ _
 | y :: l, h, hne => by
  have hp := List.pairwise_cons.1 h
  unfold insEv
  split
  ·rename_i hb
   refine List.pairwise_cons.2 ⟨fun z hz => ?_, byDot_ins hp.2 fun x hx => hne x (by simp [hx])⟩
   rcases mem_insEv.1 hz with rfl | hz
   ·exact hb
   ·exact hp.1 z hz
  ·rename_i hb
   have hye : Before e.dot y.dot := by
    have h1 := hne y (by simp)
    unfold Before at hb ⊢
    have h2 : ¬ (y.dot.node = e.dot.node ∧ y.dot.seq = e.dot.seq) := fun ⟨h3, h4⟩ => h1 (by cases hy : y.dot; cases he : e.dot; rw [hy, he] at h3 h4; simp only at h3 h4; rw [h3, h4])
    omega
   refine List.pairwise_cons.2 ⟨fun z hz => ?_, h⟩
   rcases List.mem_cons.1 hz with rfl | hz
   ·exact hye
   ·exact hye.trans (hp.1 z hz)
theorem byDot_filter {l : List Ev} (h : ByDot l) (p : Ev → Bool) : ByDot (l.filter p) := List.Pairwise.sublist List.filter_sublist h
theorem may_inj {a b : Dot} (ha : May a) (hb : May b) (h1 : a.node.toNat = b.node.toNat) (h2 : a.seq.toNat = b.seq.toNat) : a = b := by
 unfold May at *
 cases a; cases b
 simp only at *
 rw [Dot.mk.injEq]
 omega
theorem sees_put {g : Grid} {d x : Dot} (hd : May d) (hx : May x) : g.put d.node.toNat d.seq.toNat x.node.toNat x.seq.toNat = (g x.node.toNat x.seq.toNat || decide (x = d)) := by
 unfold Grid.put
 congr 1
 by_cases e : x = d
 ·subst e; simp
 ·rw [decide_eq_false e]
  rw [Bool.and_eq_false_iff, decide_eq_false_iff_not, decide_eq_false_iff_not]
  by_cases e1 : x.node.toNat = d.node.toNat
  ·exact .inr fun e2 => e (may_inj hx hd e1 e2)
  ·exact .inl e1
structure BookS.Fine (S : BookS) : Prop where
 ok : S.saw.Ok
 by' : ByDot S.holds
 seen : ∀ e ∈ S.holds, S.sees e.dot = true
 rems : ∀ e ∈ S.holds, ∀ d ∈ e.rem, S.sees d = true
 right : ∀ e ∈ S.holds, RightEv e
 t0 : 0 ≤ S.time
 t1 : S.time ≤ 1099511627776
theorem fine_new : BookS.new.Fine := ⟨Grid.none_ok, List.Pairwise.nil, (fun _ h => nomatch h), (fun _ h => nomatch h), (fun _ h => nomatch h), Int.le_refl 0, by show (0 : Int) ≤ _; decide⟩
theorem seeAll (l : List Dot) : ∀ (S : BookS), (∀ d ∈ l, May d) → (∀ x, May x → ((l.foldl seeB S).sees x = true ↔ S.sees x = true ∨ x ∈ l)) ∧ (∀ e, e ∈ (l.foldl seeB S).holds ↔ e ∈ S.holds ∧ e.dot ∉ l) ∧ (l.foldl seeB S).time = S.time ∧ (S.saw.Ok → (l.foldl seeB S).saw.Ok) ∧ (ByDot S.holds → ByDot (l.foldl seeB S).holds) := by
 induction l with
 | nil => intro S _; exact ⟨fun x _ => by simp, fun e => by simp, rfl, id, id⟩
 | cons d l ih =>
  intro S hm
  have hd := hm d (by simp)
  obtain ⟨h1, h2, h3, h4, h5⟩ := ih (seeB S d) fun x hx => hm x (by simp [hx])
  rw [List.foldl_cons]
  refine ⟨fun x hx => ?_, fun e => ?_, h3, fun ho => h4 ?_, fun hb => h5 (byDot_filter hb _)⟩
  ·rw [h1 x hx]
   have : (seeB S d).sees x = (S.sees x || decide (x = d)) := sees_put hd hx
   rw [this, Bool.or_eq_true, decide_eq_true_eq, List.mem_cons, or_assoc]
  ·rw [h2 e]
   show e ∈ S.holds.filter _ ∧ _ ↔ _
   rw [List.mem_filter, decide_eq_true_eq, List.mem_cons]
   constructor
   ·rintro ⟨⟨h6, h7⟩, h8⟩; exact ⟨h6, fun h => h.elim h7 h8⟩
   ·rintro ⟨h6, h7⟩; exact ⟨⟨h6, fun h => h7 (.inl h)⟩, fun h => h7 (.inr h)⟩
  ·unfold May at hd
   exact ho.put (by omega) (by omega) (by omega)
theorem takeB_is {S : BookS} {e : Ev} (h : S.Fine) (hr : RightEv e) (hn : S.sees e.dot = false) :
  (∀ x, May x → ((takeB S e).sees x = true ↔ S.sees x = true ∨ x = e.dot ∨ x ∈ e.rem)) ∧ (∀ x, x ∈ (takeB S e).holds ↔ x = e ∨ (x ∈ S.holds ∧ x.dot ∉ e.rem)) ∧ (takeB S e).Fine := by
 have hm : ∀ d ∈ e.dot :: e.rem, May d := fun d hd => by
  rcases List.mem_cons.1 hd with rfl | hd
  ·exact hr.1
  ·exact (hr.2.2.2.2.1.1 d hd).1
 obtain ⟨h1, h2, h3, h4, h5⟩ := seeAll (e.dot :: e.rem) S hm
 have hT : takeB S e = ⟨((e.dot :: e.rem).foldl seeB S).saw, insEv e ((e.dot :: e.rem).foldl seeB S).holds, maxI ((e.dot :: e.rem).foldl seeB S).time e.time⟩ := rfl
 generalize (e.dot :: e.rem).foldl seeB S = T at *
 have hsees : ∀ x, (takeB S e).sees x = T.sees x := fun x => by rw [hT]; rfl
 have hholds : (takeB S e).holds = insEv e T.holds := by rw [hT]
 have hs : ∀ x, May x → ((takeB S e).sees x = true ↔ S.sees x = true ∨ x = e.dot ∨ x ∈ e.rem) := fun x hx => by rw [hsees, h1 x hx, List.mem_cons]
 have hh : ∀ x, x ∈ (takeB S e).holds ↔ x = e ∨ (x ∈ S.holds ∧ x.dot ∉ e.rem) := fun x => by
  rw [hholds, mem_insEv, h2 x, List.mem_cons]
  constructor
  ·rintro (h6 | ⟨h6, h7⟩)
   ·exact .inl h6
   ·exact .inr ⟨h6, fun h => h7 (.inr h)⟩
  ·rintro (h6 | ⟨h6, h7⟩)
   ·exact .inl h6
   ·refine .inr ⟨h6, fun h8 => h8.elim (fun h9 => ?_) h7⟩
    have := h.seen x h6
    rw [h9, hn] at this
    cases this
 refine ⟨hs, hh, ?_, ?_, fun x hx => ?_, fun x hx d hd => ?_, fun x hx => ?_, ?_, ?_⟩
 ·rw [hT]; exact h4 h.ok
 ·rw [hholds]
  exact byDot_ins (h5 h.by') fun x hx => ((h2 x).1 hx).2 |> fun hne e2 => hne (by simp [e2])
 ·rcases (hh x).1 hx with rfl | ⟨hx, _⟩
  ·exact (hs _ hr.1).2 (.inr (.inl rfl))
  ·exact (hs _ (h.right x hx).1).2 (.inl (h.seen x hx))
 ·rcases (hh x).1 hx with rfl | ⟨hx, _⟩
  ·exact (hs _ (hm d (by simp [hd]))).2 (.inr (.inr hd))
  ·exact (hs _ ((h.right x hx).2.2.2.2.1.1 d hd).1).2 (.inl (h.rems x hx d hd))
 ·rcases (hh x).1 hx with rfl | ⟨hx, _⟩
  ·exact hr
  ·exact h.right x hx
 ·rw [hT]; show 0 ≤ maxI _ _; have := h.t0; have := hr.2.1; unfold maxI; rw [h3]; split <;> omega
 ·rw [hT]; show maxI _ _ ≤ _; have := h.t1; have := hr.2.1; unfold maxI; rw [h3]; split <;> omega
theorem addB_fine {S : BookS} (h : S.Fine) (e : Ev) : (addB S e).2.Fine := by
 unfold addB
 split
 ·split
  ·exact h
  ·rename_i h1 h2
   exact (takeB_is h h1 (by simpa using h2)).2.2
 ·exact h
def newerB (S : BookS) (g : Grid) (most : Int) : List Ev := (S.holds.filter fun e => !g e.dot.node.toNat e.dot.seq.toNat).take most.toNat
end Go.Proofs.YtenkfnhcdfmkaaaGreat
