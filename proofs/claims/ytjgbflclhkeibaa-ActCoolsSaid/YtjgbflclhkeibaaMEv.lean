/-
  Dots and events as data, how they lie in cells, and slices.Clone at a slice of dots: a reading of the same dots in new memory.
  A slice of events that a function gathers in new memory, each with a clone of its own slice: how the whole lives on (Acc), and how one more is pushed.
  The merging of two sorted neighbours by rotations (symMerge), in plain Lean: what its binary searches find, and what it leaves. No program in sight.
-/
import Derived.Test.YtjgbflclhkeibaaMRd
import Derived.Test.YtjgbflclhkeibaaMSat
import Derived.WalkSpells
import Derived.Lib.SliceRun
import Derived.Test.YtjgbflclhkeibaaSortPure
import Derived.Deep.LoopGhost
namespace Go.Proofs.Ytjgbflclhkeibaa
open Go.RowKit
set_option linter.unusedVariables false

structure Dot where
  node : Int
  seq : Int
deriving DecidableEq, Inhabited
def Dot.cells (d : Dot) : List Value := [.int .i64 d.node, .int .i64 d.seq]
theorem Dot.cells_len (d : Dot) : d.cells.length = 2 := rfl
theorem Dot.cells_one (d : Dot) : ∀ v ∈ d.cells, v.oneCell' = true := by intro v hv; simp [Dot.cells] at hv; rcases hv with rfl | rfl <;> rfl

/-- a slice's header -/
structure Hdr where
  a : Option Addr
  n : Nat
  c : Nat
deriving Inhabited
def Hdr.val (h : Hdr) : Value := .slice h.a h.n h.c
theorem hdr_of_slAt {α : Type} {enc : α → List Value} {w : World} {v : Value} {l : List α} (h : SlAt enc w v l) : ∃ hd : Hdr, v = hd.val := by
  obtain ⟨oa, cap, rfl, _⟩ := h.slice_of
  exact ⟨⟨oa, l.length, cap⟩, rfl⟩

instance : Inhabited Pol := ⟨⟨0, 0, 0, 0, 0, 0, 0⟩⟩
structure Ev where
  dot : Dot
  time : Int
  kind : Int
  work : Int
  value : Int
  pol : Pol
  rem : List Dot
deriving DecidableEq, Inhabited

/-- an event with its slice's header -/
abbrev PEv := Hdr × Ev
def evCells (e : Ev) (r : Value) : List Value := [.int .i64 e.dot.node, .int .i64 e.dot.seq, .int .i64 e.time, .int .i64 e.kind, .int .i64 e.work, .int .i64 e.value, .int .i64 e.pol.mn, .int .i64 e.pol.mx, .int .i64 e.pol.goal, .int .i64 e.pol.slack, .int .i64 e.pol.up, .int .i64 e.pol.down, .int .i64 e.pol.cool, r]
def pcells (p : PEv) : List Value := evCells p.2 p.1.val
theorem pcells_len (p : PEv) : (pcells p).length = 14 := rfl
theorem pcells_one (p : PEv) : ∀ v ∈ pcells p, v.oneCell' = true := by
  intro v hv
  simp only [pcells, evCells, List.mem_cons, List.not_mem_nil, or_false] at hv
  rcases hv with rfl | rfl | rfl | rfl | rfl | rfl | rfl | rfl | rfl | rfl | rfl | rfl | rfl | rfl <;> rfl

/-- the events' own slices read as their dots -/
def RemsAt (w : World) (ps : List PEv) : Prop := ∀ p ∈ ps, SlAt Dot.cells w p.1.val p.2.rem
/-- v reads as the events l in w -/
def EvsAt (w : World) (v : Value) (ps : List PEv) : Prop := SlAt pcells w v ps ∧ RemsAt w ps

theorem RemsAt.below {w w' : World} {ps : List PEv} {B : Nat} (h : RemsAt w ps) (hb : Below B w w') (hB : w.heap.size ≤ B) : RemsAt w' ps := fun p hp => (h p hp).below Dot.cells_len (by decide) hb hB
theorem EvsAt.below {w w' : World} {v : Value} {ps : List PEv} {B : Nat} (h : EvsAt w v ps) (hb : Below B w w') (hB : w.heap.size ≤ B) : EvsAt w' v ps := ⟨h.1.below pcells_len (by decide) hb hB, h.2.below hb hB⟩

/-- the cells of event i -/
theorem SlAt.ev {w : World} {b off n cap : Nat} {ps : List PEv} (h : SlAt pcells w (.slice (some ⟨b, off, none⟩) n cap) ps) (i : Nat) (hi : i < ps.length) : ∃ ra rn rc ev, ps[i]? = some (⟨ra, rn, rc⟩, ev) ∧ w.cell? ⟨b, off + i * 14, none⟩ = some (.int .i64 ev.dot.node) ∧ w.cell? ⟨b, off + i * 14 + 1, none⟩ = some (.int .i64 ev.dot.seq) ∧ w.cell? ⟨b, off + i * 14 + 2, none⟩ = some (.int .i64 ev.time) ∧ w.cell? ⟨b, off + i * 14 + 3, none⟩ = some (.int .i64 ev.kind) ∧ w.cell? ⟨b, off + i * 14 + 4, none⟩ = some (.int .i64 ev.work) ∧ w.cell? ⟨b, off + i * 14 + 5, none⟩ = some (.int .i64 ev.value) ∧ w.cell? ⟨b, off + i * 14 + 6, none⟩ = some (.int .i64 ev.pol.mn) ∧ w.cell? ⟨b, off + i * 14 + 7, none⟩ = some (.int .i64 ev.pol.mx) ∧ w.cell? ⟨b, off + i * 14 + 8, none⟩ = some (.int .i64 ev.pol.goal) ∧ w.cell? ⟨b, off + i * 14 + 9, none⟩ = some (.int .i64 ev.pol.slack) ∧ w.cell? ⟨b, off + i * 14 + 10, none⟩ = some (.int .i64 ev.pol.up) ∧ w.cell? ⟨b, off + i * 14 + 11, none⟩ = some (.int .i64 ev.pol.down) ∧ w.cell? ⟨b, off + i * 14 + 12, none⟩ = some (.int .i64 ev.pol.cool) ∧ w.cell? ⟨b, off + i * 14 + 13, none⟩ = some (.slice ra rn rc) := by
  have e : ∀ c, off + (i * 14 + c) = off + i * 14 + c := fun c => by omega
  have g : ∀ c, c < 14 → w.cell? ⟨b, off + i * 14 + c, none⟩ = (pcells ps[i])[c]? := fun c hc => by rw [← e]; exact h.cell pcells_len hi hc
  obtain ⟨⟨⟨ra, rn, rc⟩, ev⟩, hp⟩ : ∃ p, ps[i] = p := ⟨_, rfl⟩
  rw [hp] at g
  exact ⟨ra, rn, rc, ev, by rw [List.getElem?_eq_getElem hi, hp], g 0 (by decide), g 1 (by decide), g 2 (by decide), g 3 (by decide), g 4 (by decide), g 5 (by decide), g 6 (by decide), g 7 (by decide), g 8 (by decide), g 9 (by decide), g 10 (by decide), g 11 (by decide), g 12 (by decide), g 13 (by decide)⟩

/-- what Clone leaves -/
def Cloned (w : World) (ds : List Dot) (e : Ending) (w' : World) : Prop :=
  ∃ h : Hdr, e = .returned h.val ∧ Owns Dot.cells 2 w.heap.size 33 w' h.val ds ∧ Below w.heap.size w w'
theorem infoDot : (Try.prog.info? 33).map (fun i => (i.zero, i.size, i.bytes)) = some (some (.agg #[.int .i64 0, .int .i64 0]), 2, 16) := by kernel_rfl
set_option maxHeartbeats 1000000 in
theorem cloneDot_any (v : Value) (ds : List Dot) (w : World) (h : SlAt Dot.cells w v ds) (hl : ds.length ≤ 1000000) :
    Calls Try.prog 45 #[v] w (Cloned w ds) := by
  have q44 : ∀ (w : World) (a : Option Addr) (n c n' c' : Nat), (binOp .eql 34 (.slice a n c) (.slice none n' c')).run Try.prog w = .ok (.bool a.isNone) w := fun w a n c n' c' => Lib.run_eql_slice_nil w _ _ a n c n' c' Try.underlying34
  obtain ⟨oa, cap, rfl, hcap, hn, hc⟩ := h
  cases oa with
  | none =>
    obtain rfl := hn rfl
    obtain rfl : ds = [] := List.eq_nil_of_length_eq_zero (by omega)
    go_enter Try.func45, Try.ntmps45
    go_wp2
    go_ret
    exact ⟨⟨none, 0, 0⟩, rfl, Owns.nil _ _ _ _ _, Below.refl _ _⟩
  | some aa =>
    have HS : Hid (SlAt Dot.cells w (.slice (some aa) ds.length cap) ds) := ⟨some aa, cap, rfl, hcap, hn, hc⟩
    clear hc hn
    go_enter Try.func45, Try.ntmps45
    go_wp2_with (at_builtin; go_loud (refine wpList_app Dot.cells 2 Dot.cells_len (by decide) Dot.cells_one _ rfl _ _ 34 rfl w.heap.size 33 _ 16 Try.underlying34 infoDot rfl _ [] rfl ?h1 _ ds rfl ?h2 ?h3 ?h4 ?h5 ?_))
    case h1 => exact World.ownsRow_made w #[] 0 (Nat.le_refl _) (by decide) rfl
    case h2 => exact HS.out.below Dot.cells_len (by decide) ((Below.refl _ _).alloc (Nat.le_refl _) _) (Nat.le_refl _)
    case h3 => simp only [List.length_nil]; omega
    case h4 => simp only [List.length_nil]; omega
    case h5 => simp
    intro v' w' hown hg hv
    have hex : ∃ h : Hdr, v' = h.val := hdr_of_slAt hown.at
    obtain ⟨h, hh⟩ := hex
    rw [hh]
    rw [hh] at hown
    have HG := Lib.hid hg
    have HO := Lib.hid hown
    clear hg hown hv
    go_wp2
    go_ret
    exact ⟨h, rfl, HO.out, ((Below.refl _ _).alloc (Nat.le_refl _) _).trans (Below.grown (Below.refl _ _) HG.out (by simp) (fun k hk => by simp [Value.ownBlock] at hk; omega))⟩
end Go.Proofs.Ytjgbflclhkeibaa
namespace Go.Proofs.Ytjgbflclhkeibaa
open Go.RowKit Go.Sort
set_option linter.unusedVariables false

structure Acc (B e ed : Nat) (w : World) (v : Value) (qs : List PEv) : Prop where
  row : Owns pcells 14 B e w v qs
  rem : ∀ q ∈ qs, Owns Dot.cells 2 B ed w q.1.val q.2.rem ∧ (q.1.val.ownBlock = none ∨ q.1.val.ownBlock ≠ v.ownBlock)

theorem Acc.nil (B e ed : Nat) (w : World) : Acc B e ed w (.slice none 0 0) [] := ⟨Owns.nil _ _ _ _ _, fun q hq => by cases hq⟩

theorem Acc.below {B e ed : Nat} {w w' : World} {v : Value} {qs : List PEv} {C : Nat} (h : Acc B e ed w v qs) (hb : Below C w w') (hC : w.heap.size ≤ C) : Acc B e ed w' v qs :=
  ⟨h.row.below hb hC, fun q hq => ⟨(h.rem q hq).1.below hb hC, (h.rem q hq).2⟩⟩

theorem Acc.lower {B B' e ed : Nat} {w : World} {v : Value} {qs : List PEv} (h : Acc B e ed w v qs) (hb : B' ≤ B) : Acc B' e ed w v qs := ⟨h.row.lower hb, fun q hq => ⟨(h.rem q hq).1.lower hb, (h.rem q hq).2⟩⟩

/-- one more, behind an append -/
theorem Acc.push {B e ed : Nat} {W w' : World} {v v' : Value} {qs ms : List PEv} (h : Acc B e ed W v qs)
    (hr : ∀ q ∈ ms, Owns Dot.cells 2 B ed W q.1.val q.2.rem ∧ (q.1.val.ownBlock = none ∨ q.1.val.ownBlock ≠ v.ownBlock))
    (ho : Owns pcells 14 B e w' v' (qs ++ ms)) (hg : W.grownBy w' v.ownBlock) (hv : v'.ownBlock = v.ownBlock ∨ ∀ g, v'.ownBlock = some g → W.heap.size ≤ g) : Acc B e ed w' v' (qs ++ ms) := by
  refine ⟨ho, fun q hq => ?_⟩
  have hq' : Owns Dot.cells 2 B ed W q.1.val q.2.rem ∧ (q.1.val.ownBlock = none ∨ q.1.val.ownBlock ≠ v.ownBlock) := by
    rcases List.mem_append.1 hq with hq | hq
    · exact h.rem q hq
    · exact hr q hq
  refine ⟨hq'.1.kept hg hq'.2, ?_⟩
  rcases hv with hv | hv
  · rw [hv]; exact hq'.2
  · cases hb : q.1.val.ownBlock with
    | none => exact .inl rfl
    | some g =>
      refine .inr fun e2 => ?_
      have h1 := (hq'.1.lt g hb).2
      have h2 := hv g e2.symm
      omega

/-- the row is rewritten with the same events in another order -/
theorem Acc.perm {B e ed : Nat} {W w' : World} {v : Value} {qs qs' : List PEv} (h : Acc B e ed W v qs) (ho : Owns pcells 14 B e w' v qs') (hg : W.grownBy w' v.ownBlock) (hm : ∀ q ∈ qs', q ∈ qs) : Acc B e ed w' v qs' :=
  ⟨ho, fun q hq => ⟨(h.rem q (hm q hq)).1.kept hg (h.rem q (hm q hq)).2, (h.rem q (hm q hq)).2⟩⟩

theorem Acc.evs {B e ed : Nat} {w : World} {v : Value} {qs : List PEv} (h : Acc B e ed w v qs) : EvsAt w v qs := ⟨h.row.at, fun q hq => (h.rem q hq).1.at⟩

theorem stab_mem {α : Type} {lt : α → α → Bool} (hO : SWO lt) {l l' : List α} (h : StabL lt l l') : ∀ x ∈ l', x ∈ l := fun x hx => by
  have : x ∈ l'.filter (eqv lt x) := List.mem_filter.2 ⟨hx, eqv_refl hO x⟩
  rw [h x] at this
  exact (List.mem_filter.1 this).1

/-- told of the events alone -/
theorem stable_map {lt : PEv → PEv → Bool} {lt2 : Ev → Ev → Bool} (hlt : ∀ x y, lt x y = lt2 x.2 y.2) {l l' : List PEv} (h : stableOf lt l l') : stableOf lt2 (l.map (·.2)) (l'.map (·.2)) := by
  refine ⟨?_, fun y => ?_⟩
  · have := h.1
    unfold SortedL at *
    rw [List.pairwise_map]
    exact this.imp fun {a b} hab => by rw [← hlt]; exact hab
  · have e : ∀ (x : PEv), (fun a : PEv => eqv lt2 x.2 a.2) = eqv lt x := fun x => by funext a; simp [eqv, hlt]
    have k := h.2 (default, y)
    rw [List.filter_map, List.filter_map]
    have e2 : (eqv lt2 y ∘ fun x : PEv => x.2) = eqv lt (default, y) := by rw [← e (default, y)]; rfl
    rw [e2, k]

/-- the worlds of one round: the event boxed, its dots cloned, the clone stored, the event laid for the append -/
theorem round_below {wr w1 : World} {o lit : Obj} {p : Addr} {u : Value} (hp : p.block = wr.heap.size) (hb : Below (wr.alloc o).heap.size (wr.alloc o) w1) : Below wr.heap.size wr ((w1.setCell p u).alloc lit) := by
  have h1 : Below wr.heap.size wr w1 := ((Below.refl _ _).alloc (Nat.le_refl _) o).trans (hb.mono (by simp))
  have h2 := h1.size
  exact (h1.setCell (by omega) u).alloc (by simp [World.setCell]; omega) lit

theorem acc_round {B e ed : Nat} {wr w1 w' : World} {o lit : Obj} {v v' : Value} {qs : List PEv} {hd : Hdr} {ev : Ev} {p : Addr} {u : Value} (hp : p.block = wr.heap.size) (hB : B ≤ wr.heap.size)
    (h : Acc B e ed wr v qs) (hb : Below (wr.alloc o).heap.size (wr.alloc o) w1) (hc : Owns Dot.cells 2 (wr.alloc o).heap.size ed w1 hd.val ev.rem)
    (ho : Owns pcells 14 B e w' v' (qs ++ [(hd, ev)])) (hg : ((w1.setCell p u).alloc lit).grownBy w' v.ownBlock) (hv : v'.ownBlock = v.ownBlock ∨ ∀ g, v'.ownBlock = some g → w1.heap.size + 1 ≤ g) :
    Acc B e ed w' v' (qs ++ [(hd, ev)]) ∧ Below B wr w' := by
  have h3 := round_below (lit := lit) (u := u) hp hb
  have hs : (wr.alloc o).heap.size = wr.heap.size + 1 := by simp
  refine ⟨(h.below h3 (Nat.le_refl _)).push (fun q hq => ?_) ho hg (by simpa [World.setCell] using hv), (h3.mono hB).grown hg (Nat.le_trans hB h3.size) fun k hk => (h.row.lt k hk).1⟩
  obtain rfl : q = (hd, ev) := by simpa using hq
  refine ⟨(hc.lower (by omega)).keep fun g hg2 => ?_, ?_⟩
  · have hl := hc.lt g hg2
    rw [Below.heap_alloc _ _ _ (by simp [World.setCell]; exact hl.2), Below.heap_setCell _ _ _ _ (by omega)]
  · cases hx : hd.val.ownBlock with
    | none => exact .inl rfl
    | some g =>
      refine .inr fun e2 => ?_
      have h1 := (hc.lt g hx).1
      have h2 := (h.row.lt g e2.symm).2
      omega
end Go.Proofs.Ytjgbflclhkeibaa
namespace Go.Proofs.Ytjgbflclhkeibaa
open Go.Sort
set_option linter.unusedVariables false
variable {α : Type} [Inhabited α]

/-- what a merge of [a, b) leaves -/
structure SymPost (lt : α → α → Bool) (a b : Nat) (d d' : Array α) : Prop where
  size : d'.size = d.size
  out : ∀ t, t < a ∨ b ≤ t → d'[t]! = d[t]!
  stab : Stab lt d d'
  sorted : SortedIn lt a b d'
  mem : ∀ t, a ≤ t → t < b → ∃ u, a ≤ u ∧ u < b ∧ d'[t]! = d[u]!

theorem sorted_le {lt : α → α → Bool} (hO : SWO lt) {a b : Nat} {d : Array α} (h : SortedIn lt a b d) {i j : Nat} (h1 : a ≤ i) (h2 : i ≤ j) (h3 : j < b) : lt d[j]! d[i]! = false := by
  rcases Nat.lt_or_ge i j with h4 | h4
  · exact h i j h1 h4 h3
  · obtain rfl : i = j := by omega
    exact hO.irrefl _

theorem rotA_triv (d : Array α) (s m e : Nat) (h1 : s ≤ m) (h2 : m ≤ e) (h3 : e ≤ d.size) (h : s = m ∨ m = e) : rotA d s m e = d := by
  refine arr_ext (size_rotA _ _ _ _ h1 h2 h3) fun t ht => ?_
  rw [rotA_get _ _ _ _ h1 h2 h3]
  rcases h with rfl | rfl
  · split
    · rfl
    · split
      · congr 1; omega
      · split
        · omega
        · rfl
  · split
    · rfl
    · split
      · omega
      · split
        · congr 1; omega
        · rfl

/-! ### one element on the left -/
theorem sym_left {lt : α → α → Bool} (hO : SWO lt) (d : Array α) (a b i : Nat) (hb : b ≤ d.size) (h1 : a + 1 ≤ i) (h2 : i ≤ b) (hs : SortedIn lt (a + 1) b d)
    (hl : ∀ t, a + 1 ≤ t → t < i → lt d[t]! d[a]! = true) (hr : ∀ t, i ≤ t → t < b → lt d[t]! d[a]! = false) : SymPost lt a b d (rotA d a (a + 1) i) := by
  have g := rotA_get d a (a + 1) i (by omega) (by omega) (by omega)
  refine ⟨size_rotA _ _ _ _ (by omega) (by omega) (by omega), fun t ht => ?_, ?_, fun p q hp hpq hq => ?_, fun t h3 h4 => ?_⟩
  · rw [g]
    rcases ht with ht | ht
    · rw [if_pos ht]
    · rw [if_neg (by omega), if_neg (by omega), if_neg (by omega)]
  · refine rotA_stab hO _ _ _ _ (by omega) (by omega) (by omega) fun x y h3 h4 h5 h6 => ?_
    obtain rfl : x = a := by omega
    exact hl y h5 h6
  · rw [g, g, if_neg (show ¬ p < a by omega), if_neg (show ¬ q < a by omega)]
    by_cases c1 : q < a + (i - (a + 1))
    · rw [if_pos c1, if_pos (show p < a + (i - (a + 1)) by omega)]
      exact hs _ _ (by omega) (by omega) (by omega)
    · rw [if_neg c1]
      by_cases c2 : q < i
      · rw [if_pos c2, if_pos (show p < a + (i - (a + 1)) by omega)]
        have := hl (p - a + (a + 1)) (by omega) (by omega)
        have e : q - (i - (a + 1)) = a := by omega
        rw [e]
        cases hh : lt d[a]! d[p - a + (a + 1)]!
        · rfl
        · have := hO.trans _ _ _ this hh
          rw [hO.irrefl] at this; cases this
      · rw [if_neg c2]
        by_cases c3 : p < a + (i - (a + 1))
        · rw [if_pos c3]
          exact hs _ _ (by omega) (by omega) (by omega)
        · rw [if_neg c3]
          by_cases c4 : p < i
          · rw [if_pos c4]
            have e : p - (i - (a + 1)) = a := by omega
            rw [e]
            exact hr q (by omega) hq
          · rw [if_neg c4]
            exact hs _ _ (by omega) (by omega) (by omega)
  · rw [g, if_neg (by omega)]
    by_cases c1 : t < a + (i - (a + 1))
    · rw [if_pos c1]; exact ⟨_, by omega, by omega, rfl⟩
    · rw [if_neg c1]
      by_cases c2 : t < i
      · rw [if_pos c2]; exact ⟨_, by omega, by omega, rfl⟩
      · rw [if_neg c2]; exact ⟨_, by omega, by omega, rfl⟩

/-- the search: one step -/
theorem left_step {lt : α → α → Bool} (hO : SWO lt) (d : Array α) (a b i j h : Nat) (hs : SortedIn lt (a + 1) b d) (h0 : a + 1 ≤ i) (h1 : i ≤ h) (h2 : h < j) (h3 : j ≤ b) :
    (lt d[h]! d[a]! = true → ∀ t, i ≤ t → t < h + 1 → lt d[t]! d[a]! = true) ∧ (lt d[h]! d[a]! = false → ∀ t, h ≤ t → t < j → lt d[t]! d[a]! = false) := by
  refine ⟨fun e t h4 h5 => ?_, fun e t h4 h5 => ?_⟩
  · have k := sorted_le hO hs (i := t) (j := h) (by omega) (by omega) (by omega)
    cases hh : lt d[t]! d[a]!
    · have := hO.ntrans _ _ _ k hh; rw [e] at this; cases this
    · rfl
  · exact hO.ntrans _ _ _ (sorted_le hO hs (i := h) (j := t) (by omega) (by omega) (by omega)) e

/-! ### one element on the right -/
theorem sym_right {lt : α → α → Bool} (hO : SWO lt) (d : Array α) (a m i : Nat) (hb : m + 1 ≤ d.size) (h1 : a ≤ i) (h2 : i ≤ m) (hs : SortedIn lt a m d)
    (hl : ∀ t, a ≤ t → t < i → lt d[m]! d[t]! = false) (hr : ∀ t, i ≤ t → t < m → lt d[m]! d[t]! = true) : SymPost lt a (m + 1) d (rotA d i m (m + 1)) := by
  have g := rotA_get d i m (m + 1) (by omega) (by omega) (by omega)
  refine ⟨size_rotA _ _ _ _ (by omega) (by omega) (by omega), fun t ht => ?_, ?_, fun p q hp hpq hq => ?_, fun t h3 h4 => ?_⟩
  · rw [g]
    rcases ht with ht | ht
    · rw [if_pos (by omega)]
    · rw [if_neg (by omega), if_neg (by omega), if_neg (by omega)]
  · refine rotA_stab hO _ _ _ _ (by omega) (by omega) (by omega) fun x y h3 h4 h5 h6 => ?_
    obtain rfl : y = m := by omega
    exact hr x h3 h4
  · rw [g, g]
    by_cases c0 : p < i
    · rw [if_pos c0]
      by_cases c1 : q < i
      · rw [if_pos c1]; exact hs _ _ hp hpq (by omega)
      · rw [if_neg c1]
        by_cases c2 : q < i + (m + 1 - m)
        · rw [if_pos c2]
          have e : q - i + m = m := by omega
          rw [e]; exact hl p hp c0
        · rw [if_neg c2, if_pos hq]; exact hs _ _ hp (by omega) (by omega)
    · rw [if_neg c0, if_neg (show ¬ q < i by omega)]
      by_cases c1 : p < i + (m + 1 - m)
      · rw [if_pos c1, if_neg (show ¬ q < i + (m + 1 - m) by omega), if_pos hq]
        have e : p - i + m = m := by omega
        rw [e]
        have := hr (q - (m + 1 - m)) (by omega) (by omega)
        cases hh : lt d[q - (m + 1 - m)]! d[m]!
        · rfl
        · have := hO.trans _ _ _ this hh
          rw [hO.irrefl] at this; cases this
      · rw [if_neg c1, if_pos (show p < m + 1 by omega), if_neg (show ¬ q < i + (m + 1 - m) by omega), if_pos hq]
        exact hs _ _ (by omega) (by omega) (by omega)
  · rw [g]
    by_cases c0 : t < i
    · rw [if_pos c0]; exact ⟨_, h3, h4, rfl⟩
    · rw [if_neg c0]
      by_cases c1 : t < i + (m + 1 - m)
      · rw [if_pos c1]; exact ⟨_, by omega, by omega, rfl⟩
      · rw [if_neg c1, if_pos h4]; exact ⟨_, by omega, by omega, rfl⟩

theorem right_step {lt : α → α → Bool} (hO : SWO lt) (d : Array α) (a m i j h : Nat) (hs : SortedIn lt a m d) (h0 : a ≤ i) (h1 : i ≤ h) (h2 : h < j) (h3 : j ≤ m) :
    (lt d[m]! d[h]! = false → ∀ t, i ≤ t → t < h + 1 → lt d[m]! d[t]! = false) ∧ (lt d[m]! d[h]! = true → ∀ t, h ≤ t → t < j → lt d[m]! d[t]! = true) := by
  refine ⟨fun e t h4 h5 => ?_, fun e t h4 h5 => ?_⟩
  · exact hO.ntrans _ _ _ e (sorted_le hO hs (i := t) (j := h) (by omega) (by omega) (by omega))
  · have k := sorted_le hO hs (i := h) (j := t) (by omega) (by omega) (by omega)
    cases hh : lt d[m]! d[t]!
    · have := hO.ntrans _ _ _ hh k; rw [e] at this; cases this
    · rfl

/-! ### the halves -/
theorem mid_step {lt : α → α → Bool} (hO : SWO lt) (d : Array α) (a m b p s c r : Nat) (hA : SortedIn lt a m d) (hB : SortedIn lt m b d) (h0 : a ≤ s) (h1 : s ≤ c) (h2 : c < r) (h3 : r ≤ m) (h4 : m + r ≤ p + 1) (h5 : p < b + s) :
    (lt d[p - c]! d[c]! = false → ∀ t, s ≤ t → t < c + 1 → lt d[p - t]! d[t]! = false) ∧ (lt d[p - c]! d[c]! = true → ∀ t, c ≤ t → t < r → lt d[p - t]! d[t]! = true) := by
  refine ⟨fun e t h6 h7 => ?_, fun e t h6 h7 => ?_⟩
  · have k1 := sorted_le hO hB (i := p - c) (j := p - t) (by omega) (by omega) (by omega)
    have k2 := sorted_le hO hA (i := t) (j := c) (by omega) (by omega) (by omega)
    exact hO.ntrans _ _ _ k1 (hO.ntrans _ _ _ e k2)
  · have k1 := sorted_le hO hB (i := p - t) (j := p - c) (by omega) (by omega) (by omega)
    have k2 := sorted_le hO hA (i := c) (j := t) (by omega) (by omega) (by omega)
    cases hh : lt d[p - t]! d[t]!
    · have := hO.ntrans _ _ _ k1 (hO.ntrans _ _ _ hh k2); rw [e] at this; cases this
    · rfl

/-- s: where the search ended; e: its mirror. (c0, r0: between which it ran.) -/
structure SymCut (lt : α → α → Bool) (a m b md s e c0 r0 : Nat) (d : Array α) : Prop where
  hb : b ≤ d.size
  am : a ≤ m
  mb : m ≤ b
  amd : a ≤ md
  mdb : md ≤ b
  hes : e + s = md + m
  ase : a ≤ s
  sm : s ≤ m
  me : m ≤ e
  eb : e ≤ b
  smd : s ≤ md
  low : c0 ≤ s
  high : s ≤ r0
  ends : c0 = a ∨ c0 + b = md + m
  tops : s < m → m < e → s < r0
  no : ∀ t, c0 ≤ t → t < s → lt d[md + m - 1 - t]! d[t]! = false
  yes : ∀ t, s ≤ t → t < r0 → lt d[md + m - 1 - t]! d[t]! = true
  sA : SortedIn lt a m d
  sB : SortedIn lt m b d

theorem SymCut.cross {lt : α → α → Bool} (hO : SWO lt) {a m b md s e c0 r0 : Nat} {d : Array α} (h : SymCut lt a m b md s e c0 r0 d) : ∀ i j, s ≤ i → i < m → m ≤ j → j < e → lt d[j]! d[i]! = true := by
  intro i j h1 h2 h3 h4
  obtain ⟨hb, am, mb, amd, mdb, he, ase, sm, me, eb, smd, low, high, ends, tops, no, yes, sA, sB⟩ := h
  have k := yes s (Nat.le_refl _) (tops (by omega) (by omega))
  have e1 : md + m - 1 - s = e - 1 := by omega
  rw [e1] at k
  have k1 := sorted_le hO sB (i := j) (j := e - 1) (by omega) (by omega) (by omega)
  have k2 := sorted_le hO sA (i := s) (j := i) (by omega) (by omega) (by omega)
  cases hh : lt d[j]! d[i]!
  · have := hO.ntrans _ _ _ k1 (hO.ntrans _ _ _ hh k2); rw [k] at this; cases this
  · rfl

theorem SymCut.far {lt : α → α → Bool} (hO : SWO lt) {a m b md s e c0 r0 : Nat} {d : Array α} (h : SymCut lt a m b md s e c0 r0 d) : ∀ i j, a ≤ i → i < s → e ≤ j → j < b → lt d[j]! d[i]! = false := by
  intro i j h1 h2 h3 h4
  obtain ⟨hb, am, mb, amd, mdb, he, ase, sm, me, eb, smd, low, high, ends, tops, no, yes, sA, sB⟩ := h
  have hc : c0 < s := by omega
  have k := no (s - 1) (by omega) (by omega)
  have e1 : md + m - 1 - (s - 1) = e := by omega
  rw [e1] at k
  have k1 := sorted_le hO sB (i := e) (j := j) (by omega) (by omega) (by omega)
  have k2 := sorted_le hO sA (i := i) (j := s - 1) (by omega) (by omega) (by omega)
  exact hO.ntrans _ _ _ k1 (hO.ntrans _ _ _ k k2)

theorem SymCut.get {lt : α → α → Bool} {a m b md s e c0 r0 : Nat} {d : Array α} (h : SymCut lt a m b md s e c0 r0 d) (t : Nat) : (rotA d s m e)[t]! = if t < s then d[t]! else if t < md then d[t - s + m]! else if t < e then d[t - (md - s)]! else d[t]! := by
  obtain ⟨hb, am, mb, amd, mdb, he, ase, sm, me, eb, smd, low, high, ends, tops, no, yes, sA, sB⟩ := h
  rw [rotA_get _ _ _ _ sm me (by omega)]
  have e1 : s + (e - m) = md := by omega
  have e2 : e - m = md - s := by omega
  rw [e1, e2]

theorem SymCut.s1 {lt : α → α → Bool} {a m b md s e c0 r0 : Nat} {d : Array α} (h : SymCut lt a m b md s e c0 r0 d) : SortedIn lt a s (rotA d s m e) := fun i j h1 h2 h3 => by
  have sm := h.sm
  rw [h.get, h.get, if_pos (show j < s by omega), if_pos (show i < s by omega)]; exact h.sA _ _ h1 h2 (by omega)
theorem SymCut.s2 {lt : α → α → Bool} {a m b md s e c0 r0 : Nat} {d : Array α} (h : SymCut lt a m b md s e c0 r0 d) : SortedIn lt s md (rotA d s m e) := fun i j h1 h2 h3 => by
  have he := h.hes
  have eb := h.eb
  rw [h.get, h.get, if_neg (show ¬ j < s by omega), if_pos h3, if_neg (show ¬ i < s by omega), if_pos (show i < md by omega)]; exact h.sB _ _ (by omega) (by omega) (by omega)
theorem SymCut.s3 {lt : α → α → Bool} {a m b md s e c0 r0 : Nat} {d : Array α} (h : SymCut lt a m b md s e c0 r0 d) : SortedIn lt md e (rotA d s m e) := fun i j h1 h2 h3 => by
  have he := h.hes
  have smd := h.smd
  have ase := h.ase
  rw [h.get, h.get, if_neg (show ¬ j < s by omega), if_neg (show ¬ j < md by omega), if_pos h3, if_neg (show ¬ i < s by omega), if_neg (show ¬ i < md by omega), if_pos (show i < e by omega)]; exact h.sA _ _ (by omega) (by omega) (by omega)
theorem SymCut.s4 {lt : α → α → Bool} {a m b md s e c0 r0 : Nat} {d : Array α} (h : SymCut lt a m b md s e c0 r0 d) : SortedIn lt e b (rotA d s m e) := fun i j h1 h2 h3 => by
  have he := h.hes
  have smd := h.smd
  have me := h.me
  have sm := h.sm
  rw [h.get, h.get, if_neg (show ¬ j < s by omega), if_neg (show ¬ j < md by omega), if_neg (show ¬ j < e by omega), if_neg (show ¬ i < s by omega), if_neg (show ¬ i < md by omega), if_neg (show ¬ i < e by omega)]; exact h.sB _ _ (by omega) (by omega) (by omega)

theorem SymCut.both {lt : α → α → Bool} (hO : SWO lt) {a m b md s e c0 r0 : Nat} {d : Array α} (h : SymCut lt a m b md s e c0 r0 d) : ∀ u v, a ≤ u → u < md → md ≤ v → v < b → lt (rotA d s m e)[v]! (rotA d s m e)[u]! = false := by
  intro u v h1 h2 h3 h4
  have he := h.hes
  have smd := h.smd
  have me := h.me
  have sm := h.sm
  have ase := h.ase
  rw [h.get, h.get, if_neg (show ¬ v < s by omega), if_neg (show ¬ v < md by omega)]
  by_cases c1 : u < s
  · rw [if_pos c1]
    by_cases c2 : v < e
    · rw [if_pos c2]; exact h.sA _ _ (by omega) (by omega) (by omega)
    · rw [if_neg c2]; exact h.far hO _ _ h1 c1 (by omega) h4
  · rw [if_neg c1, if_pos h2]
    by_cases c2 : v < e
    · rw [if_pos c2]
      have k := h.cross hO (v - (md - s)) (u - s + m) (by omega) (by omega) (by omega) (by omega)
      cases hh : lt d[v - (md - s)]! d[u - s + m]!
      · rfl
      · have := hO.trans _ _ _ k hh; rw [hO.irrefl] at this; cases this
    · rw [if_neg c2]; exact h.sB _ _ (by omega) (by omega) (by omega)

theorem SymPost.same {lt : α → α → Bool} {a b : Nat} {d : Array α} (h : SortedIn lt a b d) : SymPost lt a b d d := ⟨rfl, fun _ _ => rfl, Stab.refl _ _, h, fun t h1 h2 => ⟨t, h1, h2, rfl⟩⟩

/-- one half is empty: it is sorted as it is -/
theorem sorted_of_empty {lt : α → α → Bool} {a s b : Nat} {d : Array α} (h1 : SortedIn lt a s d) (h2 : SortedIn lt s b d) (h : ¬ (a < s ∧ s < b)) (h3 : a ≤ s) (h4 : s ≤ b) : SortedIn lt a b d := by
  rcases Nat.eq_or_lt_of_le h3 with e | e
  · rw [e]; exact h2
  · obtain rfl : s = b := by omega
    exact h1

theorem sortedIn_keep {lt : α → α → Bool} {a b : Nat} {d d' : Array α} (h : SortedIn lt a b d) (e : ∀ t, a ≤ t → t < b → d'[t]! = d[t]!) : SortedIn lt a b d' := fun i j h1 h2 h3 => by
  rw [e i (by omega) (by omega), e j (by omega) (by omega)]; exact h i j h1 h2 h3

/-- the halves, each merged, are merged -/
theorem SymCut.glue {lt : α → α → Bool} (hO : SWO lt) {a m b md s e c0 r0 : Nat} {d d2 d3 : Array α} (h : SymCut lt a m b md s e c0 r0 d) (h2 : SymPost lt a md (rotA d s m e) d2) (h3 : SymPost lt md b d2 d3) : SymPost lt a b d d3 := by
  have amd := h.amd
  have mdb := h.mdb
  have smd := h.smd
  have he := h.hes
  have ase := h.ase
  have sm := h.sm
  have me := h.me
  have eb := h.eb
  have hb := h.hb
  refine ⟨by rw [h3.size, h2.size, size_rotA _ _ _ _ sm me (by omega)], fun t ht => ?_, ?_, fun i j h4 h5 h6 => ?_, fun t h4 h5 => ?_⟩
  · rw [h3.out t (by omega), h2.out t (by omega), h.get]
    rcases ht with ht | ht
    · rw [if_pos (by omega)]
    · rw [if_neg (by omega), if_neg (by omega), if_neg (by omega)]
  · exact ((rotA_stab hO d s m e sm me (by omega) (h.cross hO)).trans h2.stab).trans h3.stab
  · by_cases c1 : j < md
    · rw [h3.out i (by omega), h3.out j (by omega)]; exact h2.sorted i j h4 h5 c1
    · by_cases c2 : i < md
      · rw [h3.out i (by omega)]
        obtain ⟨u, hu1, hu2, hu⟩ := h2.mem i h4 c2
        obtain ⟨v, hv1, hv2, hv⟩ := h3.mem j (by omega) h6
        rw [hu, hv, h2.out v (by omega)]
        exact h.both hO u v hu1 hu2 hv1 hv2
      · exact h3.sorted i j (by omega) h5 h6
  · have key : ∀ u, a ≤ u → u < b → ∃ v, a ≤ v ∧ v < b ∧ (rotA d s m e)[u]! = d[v]! := by
      intro u hu1 hu2
      rw [h.get]
      by_cases c1 : u < s
      · rw [if_pos c1]; exact ⟨_, hu1, hu2, rfl⟩
      · rw [if_neg c1]
        by_cases c2 : u < md
        · rw [if_pos c2]; exact ⟨_, by omega, by omega, rfl⟩
        · rw [if_neg c2]
          by_cases c3 : u < e
          · rw [if_pos c3]; exact ⟨_, by omega, by omega, rfl⟩
          · rw [if_neg c3]; exact ⟨_, hu1, hu2, rfl⟩
    by_cases c1 : t < md
    · rw [h3.out t (by omega)]
      obtain ⟨u, hu1, hu2, hu⟩ := h2.mem t h4 c1
      rw [hu]; exact key u hu1 (by omega)
    · obtain ⟨v, hv1, hv2, hv⟩ := h3.mem t (by omega) h5
      rw [hv, h2.out v (by omega)]; exact key v (by omega) hv2

/-! ### blocks -/
/-- each block of bs places (c * bs on), from lo on and ahead of hi, is sorted -/
def Blk (lt : α → α → Bool) (bs lo hi : Nat) (d : Array α) : Prop := ∀ c, lo ≤ c * bs → ∀ i j, c * bs ≤ i → i < j → j < c * bs + bs → j < hi → lt d[j]! d[i]! = false

theorem Blk.none (lt : α → α → Bool) (bs lo : Nat) (d : Array α) : Blk lt bs lo 0 d := fun c h i j h1 h2 h3 h4 => by omega

theorem Blk.keep {lt : α → α → Bool} {bs lo hi : Nat} {d d' : Array α} (h : Blk lt bs lo hi d) (e : ∀ t, lo ≤ t → t < hi → d'[t]! = d[t]!) : Blk lt bs lo hi d' := fun c hc i j h1 h2 h3 h4 => by
  rw [e i (by omega) (by omega), e j (by omega) (by omega)]; exact h c hc i j h1 h2 h3 h4

/-- one block more -/
theorem Blk.more {lt : α → α → Bool} {bs c0 hi : Nat} {d d' : Array α} (hh : hi ≤ (c0 + 1) * bs) (h : Blk lt bs 0 (c0 * bs) d) (e : ∀ t, t < c0 * bs → d'[t]! = d[t]!) (hs : SortedIn lt (c0 * bs) hi d') : Blk lt bs 0 hi d' := fun c _ i j h1 h2 h3 h4 => by
  have e1 : (c0 + 1) * bs = c0 * bs + bs := by rw [Nat.add_mul, Nat.one_mul]
  rcases Nat.lt_trichotomy c c0 with hc | rfl | hc
  · have : (c + 1) * bs ≤ c0 * bs := Nat.mul_le_mul_right _ hc
    rw [Nat.add_mul, Nat.one_mul] at this
    rw [e i (by omega), e j (by omega)]
    exact h c (Nat.zero_le _) i j h1 h2 h3 (by omega)
  · exact hs i j h1 h2 (by omega)
  · have : (c0 + 1) * bs ≤ c * bs := Nat.mul_le_mul_right _ hc
    omega

theorem Blk.at {lt : α → α → Bool} {bs lo hi : Nat} {d : Array α} (h : Blk lt bs lo hi d) (c a b : Nat) (ha : a = c * bs) (hlo : lo ≤ a) (hb1 : b ≤ a + bs) (hb2 : b ≤ hi) : SortedIn lt a b d := fun i j h1 h2 h3 => by
  subst ha; exact h c hlo i j h1 h2 (by omega) (by omega)

theorem Blk.from {lt : α → α → Bool} {bs lo lo' hi : Nat} {d : Array α} (h : Blk lt bs lo hi d) (hl : lo ≤ lo') : Blk lt bs lo' hi d := fun c hc => h c (by omega)

theorem insertion_out {lt : α → α → Bool} (hO : SWO lt) (d : Array α) (a b : Nat) (hab : a ≤ b) (hb : b ≤ d.size) : (insertionSort lt d a b).size = d.size ∧ (∀ t, t < a ∨ b ≤ t → (insertionSort lt d a b)[t]! = d[t]!) ∧ SortedIn lt a b (insertionSort lt d a b) := by
  have h := insertionSort_holds (lt := lt) hO d a b hab hb
  exact ⟨h.1.1, h.1.2.1, h.2⟩
end Go.Proofs.Ytjgbflclhkeibaa
