/-
  Dots and events as data, how they lie in cells, and slices.Clone at a slice of dots: a reading of the same dots in new memory.
-/
import Derived.Test.YtkdjfoehpioghaaRd
import Derived.Test.YtkdjfoehpioghaaPol
import Derived.WalkSpells
import Derived.Lib.SliceRun
namespace Go.Proofs.Ytkdjfoehpioghaa
open Go.RowKit
set_option linter.unusedVariables false

structure Dot where
  node : Int
  seq : Int
deriving DecidableEq, Inhabited
def Dot.cells (d : Dot) : List Value := [.int .i64 d.node, .int .i64 d.seq]
theorem Dot.cells_len (d : Dot) : d.cells.length = 2 := rfl
theorem Dot.cells_one (d : Dot) : ∀ v ∈ d.cells, v.oneCell' = true := by intro v hv; simp [Dot.cells] at hv; rcases hv with rfl | rfl <;> rfl

/-- a slice's header -/
structure Hdr where
  a : Option Addr
  n : Nat
  c : Nat
deriving Inhabited
def Hdr.val (h : Hdr) : Value := .slice h.a h.n h.c
theorem hdr_of_slAt {α : Type} {enc : α → List Value} {w : World} {v : Value} {l : List α} (h : SlAt enc w v l) : ∃ hd : Hdr, v = hd.val := by
  obtain ⟨oa, cap, rfl, _⟩ := h.slice_of
  exact ⟨⟨oa, l.length, cap⟩, rfl⟩

instance : Inhabited Pol := ⟨⟨0, 0, 0, 0, 0, 0, 0⟩⟩
structure Ev where
  dot : Dot
  time : Int
  kind : Int
  work : Int
  value : Int
  pol : Pol
  rem : List Dot
deriving DecidableEq, Inhabited

/-- an event with its slice's header -/
abbrev PEv := Hdr × Ev
def evCells (e : Ev) (r : Value) : List Value := [.int .i64 e.dot.node, .int .i64 e.dot.seq, .int .i64 e.time, .int .i64 e.kind, .int .i64 e.work, .int .i64 e.value, .int .i64 e.pol.mn, .int .i64 e.pol.mx, .int .i64 e.pol.goal, .int .i64 e.pol.slack, .int .i64 e.pol.up, .int .i64 e.pol.down, .int .i64 e.pol.cool, r]
def pcells (p : PEv) : List Value := evCells p.2 p.1.val
theorem pcells_len (p : PEv) : (pcells p).length = 14 := rfl
theorem pcells_one (p : PEv) : ∀ v ∈ pcells p, v.oneCell' = true := by
  intro v hv
  simp only [pcells, evCells, List.mem_cons, List.not_mem_nil, or_false] at hv
  rcases hv with rfl | rfl | rfl | rfl | rfl | rfl | rfl | rfl | rfl | rfl | rfl | rfl | rfl | rfl <;> rfl

/-- the events' own slices read as their dots -/
def RemsAt (w : World) (ps : List PEv) : Prop := ∀ p ∈ ps, SlAt Dot.cells w p.1.val p.2.rem
/-- v reads as the events l in w -/
def EvsAt (w : World) (v : Value) (ps : List PEv) : Prop := SlAt pcells w v ps ∧ RemsAt w ps

theorem RemsAt.below {w w' : World} {ps : List PEv} {B : Nat} (h : RemsAt w ps) (hb : Below B w w') (hB : w.heap.size ≤ B) : RemsAt w' ps := fun p hp => (h p hp).below Dot.cells_len (by decide) hb hB
theorem EvsAt.below {w w' : World} {v : Value} {ps : List PEv} {B : Nat} (h : EvsAt w v ps) (hb : Below B w w') (hB : w.heap.size ≤ B) : EvsAt w' v ps := ⟨h.1.below pcells_len (by decide) hb hB, h.2.below hb hB⟩

/-- the cells of event i -/
theorem SlAt.ev {w : World} {b off n cap : Nat} {ps : List PEv} (h : SlAt pcells w (.slice (some ⟨b, off, none⟩) n cap) ps) (i : Nat) (hi : i < ps.length) : ∃ ra rn rc ev, ps[i]? = some (⟨ra, rn, rc⟩, ev) ∧ w.cell? ⟨b, off + i * 14, none⟩ = some (.int .i64 ev.dot.node) ∧ w.cell? ⟨b, off + i * 14 + 1, none⟩ = some (.int .i64 ev.dot.seq) ∧ w.cell? ⟨b, off + i * 14 + 2, none⟩ = some (.int .i64 ev.time) ∧ w.cell? ⟨b, off + i * 14 + 3, none⟩ = some (.int .i64 ev.kind) ∧ w.cell? ⟨b, off + i * 14 + 4, none⟩ = some (.int .i64 ev.work) ∧ w.cell? ⟨b, off + i * 14 + 5, none⟩ = some (.int .i64 ev.value) ∧ w.cell? ⟨b, off + i * 14 + 6, none⟩ = some (.int .i64 ev.pol.mn) ∧ w.cell? ⟨b, off + i * 14 + 7, none⟩ = some (.int .i64 ev.pol.mx) ∧ w.cell? ⟨b, off + i * 14 + 8, none⟩ = some (.int .i64 ev.pol.goal) ∧ w.cell? ⟨b, off + i * 14 + 9, none⟩ = some (.int .i64 ev.pol.slack) ∧ w.cell? ⟨b, off + i * 14 + 10, none⟩ = some (.int .i64 ev.pol.up) ∧ w.cell? ⟨b, off + i * 14 + 11, none⟩ = some (.int .i64 ev.pol.down) ∧ w.cell? ⟨b, off + i * 14 + 12, none⟩ = some (.int .i64 ev.pol.cool) ∧ w.cell? ⟨b, off + i * 14 + 13, none⟩ = some (.slice ra rn rc) := by
  have e : ∀ c, off + (i * 14 + c) = off + i * 14 + c := fun c => by omega
  have g : ∀ c, c < 14 → w.cell? ⟨b, off + i * 14 + c, none⟩ = (pcells ps[i])[c]? := fun c hc => by rw [← e]; exact h.cell pcells_len hi hc
  obtain ⟨⟨⟨ra, rn, rc⟩, ev⟩, hp⟩ : ∃ p, ps[i] = p := ⟨_, rfl⟩
  rw [hp] at g
  exact ⟨ra, rn, rc, ev, by rw [List.getElem?_eq_getElem hi, hp], g 0 (by decide), g 1 (by decide), g 2 (by decide), g 3 (by decide), g 4 (by decide), g 5 (by decide), g 6 (by decide), g 7 (by decide), g 8 (by decide), g 9 (by decide), g 10 (by decide), g 11 (by decide), g 12 (by decide), g 13 (by decide)⟩

theorem infoDot : (Try.prog.info? 77).map (fun i => (i.zero, i.size, i.bytes)) = some (some (.agg #[.int .i64 0, .int .i64 0]), 2, 16) := by kernel_rfl
end Go.Proofs.Ytkdjfoehpioghaa
