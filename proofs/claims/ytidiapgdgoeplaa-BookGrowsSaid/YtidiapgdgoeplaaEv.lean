/-
  Dots and events as data, how they lie in cells, and slices.Clone at a slice of dots: a reading of the same dots in new memory.
-/
import Derived.Test.YtidiapgdgoeplaaRd
import Derived.Test.YtidiapgdgoeplaaPol
import Derived.WalkSpells
import Derived.Lib.SliceRun
namespace Go.Proofs.Ytidiapgdgoeplaa
open Go.RowKit
set_option linter.unusedVariables false

structure Dot where
  node : Int
  seq : Int
deriving DecidableEq, Inhabited
def Dot.cells (d : Dot) : List Value := [.int .i64 d.node, .int .i64 d.seq]
theorem Dot.cells_len (d : Dot) : d.cells.length = 2 := rfl
theorem Dot.cells_one (d : Dot) : ∀ v ∈ d.cells, v.oneCell' = true := by intro v hv; simp [Dot.cells] at hv; rcases hv with rfl | rfl <;> rfl

/-- a slice's header -/
structure Hdr where
  a : Option Addr
  n : Nat
  c : Nat
deriving Inhabited
def Hdr.val (h : Hdr) : Value := .slice h.a h.n h.c
theorem hdr_of_slAt {α : Type} {enc : α → List Value} {w : World} {v : Value} {l : List α} (h : SlAt enc w v l) : ∃ hd : Hdr, v = hd.val := by
  obtain ⟨oa, cap, rfl, _⟩ := h.slice_of
  exact ⟨⟨oa, l.length, cap⟩, rfl⟩

instance : Inhabited Pol := ⟨⟨0, 0, 0, 0, 0, 0, 0⟩⟩
structure Ev where
  dot : Dot
  time : Int
  kind : Int
  work : Int
  value : Int
  pol : Pol
  rem : List Dot
deriving DecidableEq, Inhabited

/-- an event with its slice's header -/
abbrev PEv := Hdr × Ev
def evCells (e : Ev) (r : Value) : List Value := [.int .i64 e.dot.node, .int .i64 e.dot.seq, .int .i64 e.time, .int .i64 e.kind, .int .i64 e.work, .int .i64 e.value, .int .i64 e.pol.mn, .int .i64 e.pol.mx, .int .i64 e.pol.goal, .int .i64 e.pol.slack, .int .i64 e.pol.up, .int .i64 e.pol.down, .int .i64 e.pol.cool, r]
def pcells (p : PEv) : List Value := evCells p.2 p.1.val
theorem pcells_len (p : PEv) : (pcells p).length = 14 := rfl
theorem pcells_one (p : PEv) : ∀ v ∈ pcells p, v.oneCell' = true := by
  intro v hv
  simp only [pcells, evCells, List.mem_cons, List.not_mem_nil, or_false] at hv
  rcases hv with rfl | rfl | rfl | rfl | rfl | rfl | rfl | rfl | rfl | rfl | rfl | rfl | rfl | rfl <;> rfl

/-- the events' own slices read as their dots -/
def RemsAt (w : World) (ps : List PEv) : Prop := ∀ p ∈ ps, SlAt Dot.cells w p.1.val p.2.rem
/-- v reads as the events l in w -/
def EvsAt (w : World) (v : Value) (ps : List PEv) : Prop := SlAt pcells w v ps ∧ RemsAt w ps

theorem RemsAt.below {w w' : World} {ps : List PEv} {B : Nat} (h : RemsAt w ps) (hb : Below B w w') (hB : w.heap.size ≤ B) : RemsAt w' ps := fun p hp => (h p hp).below Dot.cells_len (by decide) hb hB
theorem EvsAt.below {w w' : World} {v : Value} {ps : List PEv} {B : Nat} (h : EvsAt w v ps) (hb : Below B w w') (hB : w.heap.size ≤ B) : EvsAt w' v ps := ⟨h.1.below pcells_len (by decide) hb hB, h.2.below hb hB⟩

/-- the cells of event i -/
theorem SlAt.ev {w : World} {b off n cap : Nat} {ps : List PEv} (h : SlAt pcells w (.slice (some ⟨b, off, none⟩) n cap) ps) (i : Nat) (hi : i < ps.length) : ∃ ra rn rc ev, ps[i]? = some (⟨ra, rn, rc⟩, ev) ∧ w.cell? ⟨b, off + i * 14, none⟩ = some (.int .i64 ev.dot.node) ∧ w.cell? ⟨b, off + i * 14 + 1, none⟩ = some (.int .i64 ev.dot.seq) ∧ w.cell? ⟨b, off + i * 14 + 2, none⟩ = some (.int .i64 ev.time) ∧ w.cell? ⟨b, off + i * 14 + 3, none⟩ = some (.int .i64 ev.kind) ∧ w.cell? ⟨b, off + i * 14 + 4, none⟩ = some (.int .i64 ev.work) ∧ w.cell? ⟨b, off + i * 14 + 5, none⟩ = some (.int .i64 ev.value) ∧ w.cell? ⟨b, off + i * 14 + 6, none⟩ = some (.int .i64 ev.pol.mn) ∧ w.cell? ⟨b, off + i * 14 + 7, none⟩ = some (.int .i64 ev.pol.mx) ∧ w.cell? ⟨b, off + i * 14 + 8, none⟩ = some (.int .i64 ev.pol.goal) ∧ w.cell? ⟨b, off + i * 14 + 9, none⟩ = some (.int .i64 ev.pol.slack) ∧ w.cell? ⟨b, off + i * 14 + 10, none⟩ = some (.int .i64 ev.pol.up) ∧ w.cell? ⟨b, off + i * 14 + 11, none⟩ = some (.int .i64 ev.pol.down) ∧ w.cell? ⟨b, off + i * 14 + 12, none⟩ = some (.int .i64 ev.pol.cool) ∧ w.cell? ⟨b, off + i * 14 + 13, none⟩ = some (.slice ra rn rc) := by
  have e : ∀ c, off + (i * 14 + c) = off + i * 14 + c := fun c => by omega
  have g : ∀ c, c < 14 → w.cell? ⟨b, off + i * 14 + c, none⟩ = (pcells ps[i])[c]? := fun c hc => by rw [← e]; exact h.cell pcells_len hi hc
  obtain ⟨⟨⟨ra, rn, rc⟩, ev⟩, hp⟩ : ∃ p, ps[i] = p := ⟨_, rfl⟩
  rw [hp] at g
  exact ⟨ra, rn, rc, ev, by rw [List.getElem?_eq_getElem hi, hp], g 0 (by decide), g 1 (by decide), g 2 (by decide), g 3 (by decide), g 4 (by decide), g 5 (by decide), g 6 (by decide), g 7 (by decide), g 8 (by decide), g 9 (by decide), g 10 (by decide), g 11 (by decide), g 12 (by decide), g 13 (by decide)⟩

/-- what Clone leaves -/
def Cloned (w : World) (ds : List Dot) (e : Ending) (w' : World) : Prop :=
  ∃ h : Hdr, e = .returned h.val ∧ Owns Dot.cells 2 w.heap.size 28 w' h.val ds ∧ Below w.heap.size w w'
theorem infoDot : (Try.prog.info? 28).map (fun i => (i.zero, i.size, i.bytes)) = some (some (.agg #[.int .i64 0, .int .i64 0]), 2, 16) := by kernel_rfl
set_option maxHeartbeats 1000000 in
theorem cloneDot_any (v : Value) (ds : List Dot) (w : World) (h : SlAt Dot.cells w v ds) (hl : ds.length ≤ 1000000) :
    Calls Try.prog 46 #[v] w (Cloned w ds) := by
  have q44 : ∀ (w : World) (a : Option Addr) (n c n' c' : Nat), (binOp .eql 31 (.slice a n c) (.slice none n' c')).run Try.prog w = .ok (.bool a.isNone) w := fun w a n c n' c' => Lib.run_eql_slice_nil w _ _ a n c n' c' Try.underlying31
  obtain ⟨oa, cap, rfl, hcap, hn, hc⟩ := h
  cases oa with
  | none =>
    obtain rfl := hn rfl
    obtain rfl : ds = [] := List.eq_nil_of_length_eq_zero (by omega)
    go_enter Try.func46, Try.ntmps46
    go_wp2
    go_ret
    exact ⟨⟨none, 0, 0⟩, rfl, Owns.nil _ _ _ _ _, Below.refl _ _⟩
  | some aa =>
    have HS : Hid (SlAt Dot.cells w (.slice (some aa) ds.length cap) ds) := ⟨some aa, cap, rfl, hcap, hn, hc⟩
    clear hc hn
    go_enter Try.func46, Try.ntmps46
    go_wp2_with (at_builtin; go_loud (refine wpList_app Dot.cells 2 Dot.cells_len (by decide) Dot.cells_one _ rfl _ _ 31 rfl w.heap.size 28 _ 16 Try.underlying31 infoDot rfl _ [] rfl ?h1 _ ds rfl ?h2 ?h3 ?h4 ?h5 ?_))
    case h1 => exact World.ownsRow_made w #[] 0 (Nat.le_refl _) (by decide) rfl
    case h2 => exact HS.out.below Dot.cells_len (by decide) ((Below.refl _ _).alloc (Nat.le_refl _) _) (Nat.le_refl _)
    case h3 => simp only [List.length_nil]; omega
    case h4 => simp only [List.length_nil]; omega
    case h5 => simp
    intro v' w' hown hg hv
    have hex : ∃ h : Hdr, v' = h.val := hdr_of_slAt hown.at
    obtain ⟨h, hh⟩ := hex
    rw [hh]
    rw [hh] at hown
    have HG := Lib.hid hg
    have HO := Lib.hid hown
    clear hg hown hv
    go_wp2
    go_ret
    exact ⟨h, rfl, HO.out, ((Below.refl _ _).alloc (Nat.le_refl _) _).trans (Below.grown (Below.refl _ _) HG.out (by simp) (fun k hk => by simp [Value.ownBlock] at hk; omega))⟩
end Go.Proofs.Ytidiapgdgoeplaa
