/-
  A book in memory: what its blocks hold; see walked, and each.
-/
import Derived.Test.YtidiapgdgoeplaaDotMapW
import Derived.Test.YtidiapgdgoeplaaEvRight2
import Derived.Test.YtidiapgdgoeplaaBookQ
namespace Go.Proofs.Ytidiapgdgoeplaa
open Go.Shelf Go.RowKit Go.Lib Go.Sort
set_option linter.unusedVariables false
def evVal (p : PEv) : Value := .agg (pcells p).toArray
/-- nothing has turned but three blocks and what is new -/
structure Turns3 (a b c : Nat) (w w' : World) : Prop where
  os : w'.os = w.os
  tape : w'.tape = w.tape
  output : w'.output = w.output
  size : w.heap.size ≤ w'.heap.size
  block : ∀ i, i < w.heap.size → i ≠ a → i ≠ b → i ≠ c → w'.heap[i]? = w.heap[i]?
theorem Turns3.refl (a b c : Nat) (w : World) : Turns3 a b c w w := ⟨rfl, rfl, rfl, Nat.le_refl _, fun _ _ _ _ _ => rfl⟩
theorem Turns3.trans {a b c : Nat} {w w1 w2 : World} (h : Turns3 a b c w w1) (k : Turns3 a b c w1 w2) : Turns3 a b c w w2 :=
  ⟨k.os.trans h.os, k.tape.trans h.tape, k.output.trans h.output, Nat.le_trans h.size k.size, fun i hi h1 h2 h3 => (k.block i (Nat.lt_of_lt_of_le hi h.size) h1 h2 h3).trans (h.block i hi h1 h2 h3)⟩
theorem Turns3.of_below {a b c : Nat} {w w' : World} (h : Below w.heap.size w w') : Turns3 a b c w w' := ⟨h.os, h.tape, h.output, h.size, fun i hi _ _ _ => h.block i hi⟩
theorem Turns3.of_grown {a b c r : Nat} {w w' : World} (h : w.grownBy w' (some r)) (hr : r = a ∨ r = b ∨ r = c) : Turns3 a b c w w' :=
  ⟨h.os, h.tape, h.output, h.size, fun i hi h1 h2 h3 => h.block i hi (fun e => by have := Option.some.inj e; omega)⟩
theorem Turns3.below {a b c C : Nat} {w w' : World} (h : Turns3 a b c w w') (ha : C ≤ a) (hb : C ≤ b) (hc : C ≤ c) (hC : C ≤ w.heap.size) : Below C w w' :=
  ⟨h.os, h.tape, h.output, h.size, fun i hi => h.block i (by omega) (by omega) (by omega) (by omega)⟩
/-- a book's blocks: itself, what was seen, what holds; all that it owns besides lies from B on -/
structure BookAt (W : World) (bb ms mh B : Nat) (S : BookS) : Prop where
  ltb : bb < B
  lts : ms < B
  lth : mh < B
  nbs : bb ≠ ms
  nbh : bb ≠ mh
  nsh : ms ≠ mh
  size : B ≤ W.heap.size
  obj : W.heap[bb]? = some (.cells #[.map (some ms), .map (some mh), .int .i64 S.time] 59)
  seen : ∃ (Es : List (Dot × Value)), DotMapAt W ms Es ∧ ∀ d v, (d, v) ∈ Es ↔ v = .bool true ∧ May d ∧ S.sees d = true
  holds : ∃ (Eh : List (Dot × Value)) (hs : List PEv), DotMapAt W mh Eh ∧ hs.map (·.2) = S.holds ∧ (∀ d v, (d, v) ∈ Eh ↔ ∃ p, p ∈ hs ∧ d = p.2.dot ∧ v = evVal p) ∧ ∀ p, p ∈ hs → Owns Dot.cells 2 B 28 W p.1.val p.2.rem
  may : ∀ e, e ∈ S.holds → May e.dot
def fullGrid : Grid := fun n q => decide (n < 8 ∧ 1 ≤ q ∧ q ≤ 96)
theorem fullGrid_ok : fullGrid.Ok := fun n q h => by unfold fullGrid at h; simpa using h
theorem may_len {l : List Dot} (hn : l.Nodup) (hm : ∀ d ∈ l, May d) : l.length ≤ 768 := by
  refine Nat.le_trans (hn.length_le_of_subset (l₂ := dotsOf fullGrid) fun d hd => (mem_dotsOf fullGrid_ok).2 ⟨hm d hd, ?_⟩) (dotsOf_len fullGrid_ok)
  have := hm d hd
  unfold May at this
  unfold fullGrid
  rw [decide_eq_true_eq]
  omega
theorem DotMapAt.nodup {w : World} {b : Nat} {E : List (Dot × Value)} (h : DotMapAt w b E) : (E.map (·.1)).Nodup := by obtain ⟨_, _, h⟩ := h; exact h.nodup
theorem entries_len {w : World} {b : Nat} {E : List (Dot × Value)} (h : DotMapAt w b E) (hm : ∀ p ∈ E, May p.1) : E.length ≤ 768 := by
  have := may_len h.nodup fun d hd => by obtain ⟨p, hp, rfl⟩ := List.mem_map.1 hd; exact hm p hp
  simpa using this
/-- the book stays while nothing of its own turns -/
theorem BookAt.keep {W W' : World} {bb ms mh B : Nat} {S : BookS} (h : BookAt W bb ms mh B S) (hsz : W.heap.size ≤ W'.heap.size) (hb : ∀ i, i < W.heap.size → W'.heap[i]? = W.heap[i]?) : BookAt W' bb ms mh B S := by
  have h0 := h.size
  refine ⟨h.ltb, h.lts, h.lth, h.nbs, h.nbh, h.nsh, Nat.le_trans h.size hsz, (hb _ (by have := h.ltb; omega)).trans h.obj, ?_, ?_, h.may⟩
  · obtain ⟨Es, h1, h2⟩ := h.seen
    exact ⟨Es, h1.keep (hb _ (by have := h.lts; omega)), h2⟩
  · obtain ⟨Eh, hs, h1, h2, h3, h4⟩ := h.holds
    exact ⟨Eh, hs, h1.keep (hb _ (by have := h.lth; omega)), h2, h3, fun p hp => (h4 p hp).keep fun g hg => hb g ((h4 p hp).lt g hg).2⟩
theorem BookAt.below {W W' : World} {bb ms mh B C : Nat} {S : BookS} (h : BookAt W bb ms mh B S) (hb : Below C W W') (hC : W.heap.size ≤ C) : BookAt W' bb ms mh B S := h.keep hb.size fun i hi => hb.block i (by omega)
/-- .. while other rows turn -/
theorem BookAt.seenE {W : World} {bb ms mh B : Nat} {S : BookS} (h : BookAt W bb ms mh B S) {d : Dot} (hd : May d) (mt : TypeId) (ht : (Try.prog).underlying mt = some (.map 28 4)) :
    (Instr.lookup mt (.map (some ms)) (dotVal d) false).run Try.prog W = .ok (.bool (S.sees d)) W := by
  obtain ⟨Es, h1, h2⟩ := h.seen
  rw [h1.look ht (Try.zeroValue4 W) (may_fits hd)]
  refine congrArg (fun v => Result.ok v W) ?_
  cases hs : S.sees d with
  | true =>
    rw [(lookE_mem h1.nodup).2 ((h2 d (.bool true)).2 ⟨rfl, hd, hs⟩)]; rfl
  | false =>
    have : lookE Es d = none := lookE_none.2 fun hm => by
      obtain ⟨p, hp, e⟩ := List.mem_map.1 hm
      have := (h2 p.1 p.2).1 hp
      rw [e, hs] at this
      exact absurd this.2.2 (by simp)
    rw [this]; rfl
theorem see_mem {S : BookS} {d : Dot} (hd : May d) {x : Dot} (hx : May x) : (seeB S d).sees x = true ↔ S.sees x = true ∨ x = d := by
  have : (seeB S d).sees x = (S.sees x || decide (x = d)) := sees_put hd hx
  rw [this, Bool.or_eq_true, decide_eq_true_eq]
theorem mem_putE {E : List (Dot × Value)} {d x : Dot} {v u : Value} : (x, u) ∈ putE E d v ↔ (x = d ∧ u = v) ∨ ((x, u) ∈ E ∧ x ≠ d) := by
  unfold putE
  rw [List.mem_cons, List.mem_filter, Prod.mk.injEq]
  simp
theorem mem_delE {E : List (Dot × Value)} {d x : Dot} {u : Value} : (x, u) ∈ delE E d ↔ (x, u) ∈ E ∧ x ≠ d := by
  unfold delE
  rw [List.mem_filter]
  simp
/-- behind the store of see -/
theorem BookAt.marked {W W' : World} {bb ms mh B : Nat} {S : BookS} (h : BookAt W bb ms mh B S) {d : Dot} (hd : May d) {Es : List (Dot × Value)} (h2 : ∀ d v, (d, v) ∈ Es ↔ v = .bool true ∧ May d ∧ S.sees d = true)
    (hm : DotMapAt W' ms (putE Es d (.bool true))) (hg : W.grownBy W' (some ms)) : BookAt W' bb ms mh B ⟨(seeB S d).saw, S.holds, S.time⟩ := by
  have hk : ∀ i, i < W.heap.size → i ≠ ms → W'.heap[i]? = W.heap[i]? := fun i hi hne => hg.block i hi (fun e => hne (Option.some.inj e))
  have h0 := h.size
  refine ⟨h.ltb, h.lts, h.lth, h.nbs, h.nbh, h.nsh, Nat.le_trans h.size hg.size, (hk _ (by have := h.ltb; omega) h.nbs).trans h.obj, ⟨_, hm, fun x v => ?_⟩, ?_, h.may⟩
  · rw [mem_putE, h2]
    constructor
    · rintro (⟨rfl, rfl⟩ | ⟨⟨h3, h4, h5⟩, h6⟩)
      · exact ⟨rfl, hd, (see_mem hd hd).2 (.inr rfl)⟩
      · exact ⟨h3, h4, (see_mem hd h4).2 (.inl h5)⟩
    · rintro ⟨h3, h4, h5⟩
      by_cases e : x = d
      · exact .inl ⟨e, h3⟩
      · exact .inr ⟨⟨h3, h4, ((see_mem hd h4).1 h5).resolve_right e⟩, e⟩
  · obtain ⟨Eh, hs, h1, h2, h3, h4⟩ := h.holds
    exact ⟨Eh, hs, h1.keep (hk _ (by have := h.lth; omega) (fun e => h.nsh e.symm)), h2, h3, fun p hp => (h4 p hp).keep fun g hg => hk g ((h4 p hp).lt g hg).2 (by have := ((h4 p hp).lt g hg).1; have := h.lts; omega)⟩
/-- behind the delete of see -/
theorem BookAt.dropped {W W' : World} {bb ms mh B : Nat} {S : BookS} (h : BookAt W bb ms mh B S) {d : Dot} {Eh : List (Dot × Value)} {hs : List PEv} (h2 : hs.map (·.2) = S.holds) (h3 : ∀ d v, (d, v) ∈ Eh ↔ ∃ p, p ∈ hs ∧ d = p.2.dot ∧ v = evVal p) (h4 : ∀ p, p ∈ hs → Owns Dot.cells 2 B 28 W p.1.val p.2.rem)
    (hm : DotMapAt W' mh (delE Eh d)) (hg : W.grownBy W' (some mh)) : BookAt W' bb ms mh B ⟨S.saw, S.holds.filter fun e => decide (e.dot ≠ d), S.time⟩ := by
  have hk : ∀ i, i < W.heap.size → i ≠ mh → W'.heap[i]? = W.heap[i]? := fun i hi hne => hg.block i hi (fun e => hne (Option.some.inj e))
  have h0 := h.size
  refine ⟨h.ltb, h.lts, h.lth, h.nbs, h.nbh, h.nsh, Nat.le_trans h.size hg.size, (hk _ (by have := h.ltb; omega) h.nbh).trans h.obj, ?_, ⟨_, hs.filter fun p => decide (p.2.dot ≠ d), hm, ?_, fun x v => ?_, fun p hp => ?_⟩, fun e he => h.may e (List.mem_filter.1 he).1⟩
  · obtain ⟨Es, h5, h6⟩ := h.seen
    exact ⟨Es, h5.keep (hk _ (by have := h.lts; omega) h.nsh), h6⟩
  · rw [← h2, List.filter_map]; rfl
  · rw [mem_delE, h3]
    constructor
    · rintro ⟨⟨p, hp, rfl, rfl⟩, hne⟩
      exact ⟨p, List.mem_filter.2 ⟨hp, by simpa using hne⟩, rfl, rfl⟩
    · rintro ⟨p, hp, rfl, rfl⟩
      obtain ⟨h5, h6⟩ := List.mem_filter.1 hp
      exact ⟨⟨p, h5, rfl, rfl⟩, by simpa using h6⟩
  · have hp' := (List.mem_filter.1 hp).1
    exact (h4 p hp').keep fun g hg => hk g ((h4 p hp').lt g hg).2 (by have := ((h4 p hp').lt g hg).1; have := h.lth; omega)
set_option maxHeartbeats 4000000 in
theorem see_any (bb ms mh B : Nat) (S : BookS) (d : Dot) (hd : May d) (w : World) (h : BookAt w bb ms mh B S) :
    Calls Try.prog 24 #[.pointer (some ⟨bb, 0, none⟩), .agg #[.int .i64 d.node, .int .i64 d.seq]] w fun e w' => e = .returned (.tuple #[]) ∧ BookAt w' bb ms mh B (seeB S d) ∧ Turns3 bb ms mh w w' := by
  have hb1 := (Below.refl w.heap.size w).alloc (Nat.le_refl _) (.cells #[.int .i64 d.node, .int .i64 d.seq] 28)
  have h1 : BookAt (w.alloc (.cells #[.int .i64 d.node, .int .i64 d.seq] 28)).drew bb ms mh B S := h.below (below_drew hb1) (Nat.le_refl _)
  have hnew : (w.alloc (.cells #[.int .i64 d.node, .int .i64 d.seq] 28)).heap[w.heap.size]? = some (.cells #[.int .i64 d.node, .int .i64 d.seq] 28) := heap_alloc_new w _
  obtain ⟨Es, h2, h3⟩ := h1.seen
  have hlen := entries_len h2 fun p hp => ((h3 p.1 p.2).1 hp).2.1
  obtain ⟨w2, hrun, hm2, hg2⟩ := h2.store Try.underlying53 (by omega) (may_fits hd) (.bool true)
  have h4 := h1.marked hd h3 hm2 hg2
  have h5 : BookAt w2.drew bb ms mh B ⟨(seeB S d).saw, S.holds, S.time⟩ := h4.below (below_drew (Below.refl w2.heap.size w2)) (Nat.le_refl _)
  obtain ⟨Eh, hs, k1, k2, k3, k4⟩ := h5.holds
  obtain ⟨w3, hrun3, hm3, hg3⟩ := k1.drop Try.underlying57 (may_fits hd) 0
  have h6 := h5.dropped k2 k3 k4 hm3 hg3
  have hbw : bb < w.heap.size := by have := h.size; have := h.ltb; omega
  have ht : Turns3 bb ms mh w w3 := (Turns3.of_below (below_drew hb1)).trans ((Turns3.of_grown hg2 (.inr (.inl rfl))).trans ((Turns3.of_below (below_drew (Below.refl _ _))).trans (Turns3.of_grown hg3 (.inr (.inr rfl)))))
  have c0 : (w.alloc (.cells #[.int .i64 d.node, .int .i64 d.seq] 28)).drew.cell? ⟨bb, 0, none⟩ = some (.map (some ms)) := cell_of_row _ bb 0 _ _ _ h1.obj
  have c1 : w2.drew.cell? ⟨bb, 1, none⟩ = some (.map (some mh)) := cell_of_row _ bb 1 _ _ _ h5.obj
  have hmsn : w.heap.size ≠ ms := by have := h.size; have := h.lts; omega
  have hnew2 : w2.drew.heap[w.heap.size]? = some (.cells #[.int .i64 d.node, .int .i64 d.seq] 28) := (hg2.block w.heap.size (by show _ < (w.alloc _).heap.size; simp) (fun e => hmsn (Option.some.inj e))).trans hnew
  have d0 : (w.alloc (.cells #[.int .i64 d.node, .int .i64 d.seq] 28)).drew.cell? ⟨w.heap.size, 0, none⟩ = some (.int .i64 d.node) := cell_of_row _ w.heap.size 0 _ _ _ hnew
  have d1 : (w.alloc (.cells #[.int .i64 d.node, .int .i64 d.seq] 28)).drew.cell? ⟨w.heap.size, 1, none⟩ = some (.int .i64 d.seq) := cell_of_row _ w.heap.size 1 _ _ _ hnew
  have k0 : w2.drew.cell? ⟨w.heap.size, 0, none⟩ = some (.int .i64 d.node) := cell_of_row _ w.heap.size 0 _ _ _ hnew2
  have k1' : w2.drew.cell? ⟨w.heap.size, 1, none⟩ = some (.int .i64 d.seq) := cell_of_row _ w.heap.size 1 _ _ _ hnew2
  unfold dotVal at hrun hrun3
  have H6 := Lib.hid h6
  have HT := Lib.hid ht
  clear h h1 h2 h3 h4 h5 h6 k1 k2 k3 k4 hm2 hm3 hg2 hg3 hb1 ht hnew hnew2
  go_enter Try.func24, Try.ntmps24
  go_wp2_with fail
  generalize w.alloc (.cells #[.int .i64 d.node, .int .i64 d.seq] 28) = w1 at *
  go_region_law (fail)
  all_goals
    go_wp2_with fail
    go_region_law (fail)
  all_goals
    go_wp2_with fail
    go_end0
    exact ⟨rfl, H6.out, HT.out⟩
end Go.Proofs.Ytidiapgdgoeplaa
