/-
  The numbers of layer 1 (sat) and of its reference: what Within, Clamp and CeilDiv return, for all integers. No memory is touched.
  Policies: which ones may be (RightPolicy), and how many replicas a load asks for (Asked), of the program and of the reference. One new block, nothing old is turned.
  Dots and events as data, how they lie in cells, and slices.Clone at a slice of dots: a reading of the same dots in new memory.
-/
import Derived.Test.YtenkfnhcdfmkaaaGreatProg
import Derived.WalkKit
import Derived.Handy
import Derived.Lib.Hide
import Derived.Test.YtenkfnhcdfmkaaaGreatMRd
import Derived.WalkSpells
import Derived.Lib.SliceRun
namespace Go.Proofs.YtenkfnhcdfmkaaaGreat
open Go.RowKit
set_option linter.unusedVariables false
def within (n lo hi : Int) : Int := if hi < n then hi else if n < lo then lo else n
theorem within_any (n lo hi : Int) (w : World) :
  Calls Tryz.prog 32 #[.int .i64 n, .int .i64 lo, .int .i64 hi] w fun e w' => e = .returned (.int .i64 (within n lo hi)) ∧ w = w' := by
 go_enter Tryz.func32, Tryz.ntmps32
 go_wp2
 all_goals (go_ret; refine ⟨?_, rfl⟩; unfold within; (repeat' split) <;> first | rfl | omega)
end Go.Proofs.YtenkfnhcdfmkaaaGreat
namespace Go.Proofs.YtenkfnhcdfmkaaaGreat
open Go.RowKit
set_option linter.unusedVariables false
structure Pol where
 mn : Int
 mx : Int
 goal : Int
 slack : Int
 up : Int
 down : Int
 cool : Int
deriving DecidableEq
def Pol.cells (p : Pol) : List Value := [.int .i64 p.mn, .int .i64 p.mx, .int .i64 p.goal, .int .i64 p.slack, .int .i64 p.up, .int .i64 p.down, .int .i64 p.cool]
def Pol.right (p : Pol) : Prop := 0 ≤ p.mn ∧ p.mn ≤ p.mx ∧ p.mx ≤ 1000 ∧ 1 ≤ p.goal ∧ p.goal ≤ 1073741824 ∧ 0 ≤ p.slack ∧ p.slack ≤ 100 ∧ 1 ≤ p.up ∧ p.up ≤ 1000 ∧ 1 ≤ p.down ∧ p.down ≤ 1000 ∧ 0 ≤ p.cool ∧ p.cool ≤ 1000
instance (p : Pol) : Decidable p.right := by unfold Pol.right; infer_instance
def Pol.rightB (p : Pol) : Bool := decide p.right
theorem Pol.rightB_true {p : Pol} (h : p.right) : p.rightB = true := decide_eq_true h
theorem Pol.rightB_false {p : Pol} (h : ¬ p.right) : p.rightB = false := decide_eq_false h
theorem Pol.rightB_iff {p : Pol} : p.rightB = true ↔ p.right := by unfold Pol.rightB; exact decide_eq_true_iff
def inB (n lo hi : Int) : Bool := decide (lo ≤ n ∧ n ≤ hi)
theorem inB_true {n lo hi : Int} (h : inB n lo hi = true) : lo ≤ n ∧ n ≤ hi := of_decide_eq_true h
theorem inB_yes {n lo hi : Int} (h : lo ≤ n ∧ n ≤ hi) : inB n lo hi = true := decide_eq_true h
theorem inB_no {n lo hi : Int} (h : ¬ (lo ≤ n ∧ n ≤ hi)) : inB n lo hi = false := decide_eq_false h
theorem retB {a b : Bool} (h : a = b) : Ending.returned (.bool a) = .returned (.bool b) := by rw [h]
theorem within_eq (n lo hi : Int) (hl : lo ≤ hi) : within n lo hi = n ↔ (lo ≤ n ∧ n ≤ hi) := by
 unfold within; split
 ·omega
 ·split <;> omega
theorem evWithin_any (n lo hi : Int) (w : World) :
  Calls Tryz.prog 87 #[.int .i64 n, .int .i64 lo, .int .i64 hi] w fun e w' => e = .returned (.bool (within n lo hi == n)) ∧ w = w' := by
 go_enter Tryz.func87, Tryz.ntmps87
 go_wp2_with (go_at_call 32; refine (within_any _ _ _ _).mono ?_; rintro e w' ⟨rfl, rfl⟩)
 go_ret
 exact ⟨rfl, rfl⟩
theorem evWithin_inB (n lo hi : Int) (hl : lo ≤ hi) (w : World) :
  Calls Tryz.prog 87 #[.int .i64 n, .int .i64 lo, .int .i64 hi] w fun e w' => e = .returned (.bool (inB n lo hi)) ∧ w = w' :=
 (evWithin_any n lo hi w).mono fun e w' ⟨he, hw⟩ => ⟨by rw [he]; exact retB (by rw [Bool.eq_iff_iff]; unfold inB; rw [beq_iff_eq, decide_eq_true_iff]; exact within_eq n lo hi hl), hw⟩
set_option maxHeartbeats 1000000 in
theorem rightPolicy_yes (p : Pol) (h : p.right) (w : World) :
  Calls Tryz.prog 89 #[.agg #[.int .i64 p.mn, .int .i64 p.mx, .int .i64 p.goal, .int .i64 p.slack, .int .i64 p.up, .int .i64 p.down, .int .i64 p.cool]] w fun e w' => e = .returned (.bool true) ∧ Below w.heap.size w w' := by
 obtain ⟨h1, h2, h3, h4, h5, h6, h7, h8, h9, h10, h11, h12, h13⟩ := h
 have e1 := inB_yes (n := p.mx) (lo := 0) (hi := 1000) ⟨by omega, by omega⟩
 have e2 := inB_yes (n := p.mn) (lo := 0) (hi := p.mx) ⟨by omega, by omega⟩
 have e3 := inB_yes (n := p.goal) (lo := 1) (hi := 1073741824) ⟨by omega, by omega⟩
 have e4 := inB_yes (n := p.slack) (lo := 0) (hi := 100) ⟨by omega, by omega⟩
 have e5 := inB_yes (n := p.up) (lo := 1) (hi := 1000) ⟨by omega, by omega⟩
 have e6 := inB_yes (n := p.down) (lo := 1) (hi := 1000) ⟨by omega, by omega⟩
 have e7 := inB_yes (n := p.cool) (lo := 0) (hi := 1000) ⟨by omega, by omega⟩
 go_enter Tryz.func89, Tryz.ntmps89
 go_wp2_with (go_at_call 87; refine (evWithin_inB _ _ _ (by omega) _).mono ?_; rintro e w' ⟨rfl, rfl⟩)
 go_ret
 exact ⟨rfl, (Below.refl _ _).alloc (Nat.le_refl _) _⟩
set_option maxHeartbeats 2000000 in
theorem rightPolicy_any (p : Pol) (w : World) :
  Calls Tryz.prog 89 #[.agg #[.int .i64 p.mn, .int .i64 p.mx, .int .i64 p.goal, .int .i64 p.slack, .int .i64 p.up, .int .i64 p.down, .int .i64 p.cool]] w fun e w' => e = .returned (.bool p.rightB) ∧ Below w.heap.size w w' := by
 by_cases hr : p.right
 ·rw [Pol.rightB_true hr]; exact rightPolicy_yes p hr w
 rw [Pol.rightB_false hr]
 have HR := Lib.hid hr
 clear hr
 by_cases h1 : 0 ≤ p.mx ∧ p.mx ≤ 1000
 case neg =>
  have e1 := inB_no h1
  clear h1 HR
  go_enter Tryz.func89, Tryz.ntmps89
  go_wp2_with (go_at_call 87; refine (evWithin_inB _ _ _ (by omega) _).mono ?_; rintro e w' ⟨rfl, rfl⟩)
  go_ret
  exact ⟨rfl, (Below.refl _ _).alloc (Nat.le_refl _) _⟩
 case pos =>
  have e1 := inB_yes h1
  obtain ⟨h1a, h1b⟩ := h1
  go_enter Tryz.func89, Tryz.ntmps89
  go_wp2_with (go_at_call 87; refine (evWithin_inB _ _ _ (by omega) _).mono ?_; rintro e w' ⟨rfl, rfl⟩)
  all_goals go_ret
  all_goals refine ⟨?_, (Below.refl _ _).alloc (Nat.le_refl _) _⟩
  all_goals first | rfl | skip
  all_goals
   refine retB (Bool.eq_false_iff.2 fun hc => ?_)
   refine absurd ?_ HR.out
   have a2 := inB_true (n := p.mn) (by assumption)
   have a3 := inB_true (n := p.goal) (by assumption)
   have a4 := inB_true (n := p.slack) (by assumption)
   have a5 := inB_true (n := p.up) (by assumption)
   have a6 := inB_true (n := p.down) (by assumption)
   have a7 := inB_true hc
   exact ⟨by omega, by omega, by omega, by omega, by omega, by omega, by omega, by omega, by omega, by omega, by omega, by omega, by omega⟩
end Go.Proofs.YtenkfnhcdfmkaaaGreat
namespace Go.Proofs.YtenkfnhcdfmkaaaGreat
open Go.RowKit
set_option linter.unusedVariables false
structure Dot where
 node : Int
 seq : Int
deriving DecidableEq, Inhabited
def Dot.cells (d : Dot) : List Value := [.int .i64 d.node, .int .i64 d.seq]
theorem Dot.cells_len (d : Dot) : d.cells.length = 2 := rfl
theorem Dot.cells_one (d : Dot) : ∀ v ∈ d.cells, v.oneCell' = true := by intro v hv; simp [Dot.cells] at hv; rcases hv with rfl | rfl <;> rfl
structure Hdr where
 a : Option Addr
 n : Nat
 c : Nat
deriving Inhabited
def Hdr.val (h : Hdr) : Value := .slice h.a h.n h.c
theorem hdr_of_slAt {α : Type} {enc : α → List Value} {w : World} {v : Value} {l : List α} (h : SlAt enc w v l) : ∃ hd : Hdr, v = hd.val := by
 obtain ⟨oa, cap, rfl, _⟩ := h.slice_of
 exact ⟨⟨oa, l.length, cap⟩, rfl⟩
instance : Inhabited Pol := ⟨⟨0, 0, 0, 0, 0, 0, 0⟩⟩
structure Ev where
 dot : Dot
 time : Int
 kind : Int
 work : Int
 value : Int
 pol : Pol
 rem : List Dot
deriving DecidableEq, Inhabited
abbrev PEv := Hdr × Ev
def evCells (e : Ev) (r : Value) : List Value := [.int .i64 e.dot.node, .int .i64 e.dot.seq, .int .i64 e.time, .int .i64 e.kind, .int .i64 e.work, .int .i64 e.value, .int .i64 e.pol.mn, .int .i64 e.pol.mx, .int .i64 e.pol.goal, .int .i64 e.pol.slack, .int .i64 e.pol.up, .int .i64 e.pol.down, .int .i64 e.pol.cool, r]
def pcells (p : PEv) : List Value := evCells p.2 p.1.val
theorem pcells_len (p : PEv) : (pcells p).length = 14 := rfl
theorem pcells_one (p : PEv) : ∀ v ∈ pcells p, v.oneCell' = true := by
 intro v hv
 simp only [pcells, evCells, List.mem_cons, List.not_mem_nil, or_false] at hv
 rcases hv with rfl | rfl | rfl | rfl | rfl | rfl | rfl | rfl | rfl | rfl | rfl | rfl | rfl | rfl <;> rfl
def RemsAt (w : World) (ps : List PEv) : Prop := ∀ p ∈ ps, SlAt Dot.cells w p.1.val p.2.rem
def EvsAt (w : World) (v : Value) (ps : List PEv) : Prop := SlAt pcells w v ps ∧ RemsAt w ps
theorem RemsAt.below {w w' : World} {ps : List PEv} {B : Nat} (h : RemsAt w ps) (hb : Below B w w') (hB : w.heap.size ≤ B) : RemsAt w' ps := fun p hp => (h p hp).below Dot.cells_len (by decide) hb hB
theorem EvsAt.below {w w' : World} {v : Value} {ps : List PEv} {B : Nat} (h : EvsAt w v ps) (hb : Below B w w') (hB : w.heap.size ≤ B) : EvsAt w' v ps := ⟨h.1.below pcells_len (by decide) hb hB, h.2.below hb hB⟩
theorem SlAt.ev {w : World} {b off n cap : Nat} {ps : List PEv} (h : SlAt pcells w (.slice (some ⟨b, off, none⟩) n cap) ps) (i : Nat) (hi : i < ps.length) : ∃ ra rn rc ev, ps[i]? = some (⟨ra, rn, rc⟩, ev) ∧ w.cell? ⟨b, off + i * 14, none⟩ = some (.int .i64 ev.dot.node) ∧ w.cell? ⟨b, off + i * 14 + 1, none⟩ = some (.int .i64 ev.dot.seq) ∧ w.cell? ⟨b, off + i * 14 + 2, none⟩ = some (.int .i64 ev.time) ∧ w.cell? ⟨b, off + i * 14 + 3, none⟩ = some (.int .i64 ev.kind) ∧ w.cell? ⟨b, off + i * 14 + 4, none⟩ = some (.int .i64 ev.work) ∧ w.cell? ⟨b, off + i * 14 + 5, none⟩ = some (.int .i64 ev.value) ∧ w.cell? ⟨b, off + i * 14 + 6, none⟩ = some (.int .i64 ev.pol.mn) ∧ w.cell? ⟨b, off + i * 14 + 7, none⟩ = some (.int .i64 ev.pol.mx) ∧ w.cell? ⟨b, off + i * 14 + 8, none⟩ = some (.int .i64 ev.pol.goal) ∧ w.cell? ⟨b, off + i * 14 + 9, none⟩ = some (.int .i64 ev.pol.slack) ∧ w.cell? ⟨b, off + i * 14 + 10, none⟩ = some (.int .i64 ev.pol.up) ∧ w.cell? ⟨b, off + i * 14 + 11, none⟩ = some (.int .i64 ev.pol.down) ∧ w.cell? ⟨b, off + i * 14 + 12, none⟩ = some (.int .i64 ev.pol.cool) ∧ w.cell? ⟨b, off + i * 14 + 13, none⟩ = some (.slice ra rn rc) := by
 have e : ∀ c, off + (i * 14 + c) = off + i * 14 + c := fun c => by omega
 have g : ∀ c, c < 14 → w.cell? ⟨b, off + i * 14 + c, none⟩ = (pcells ps[i])[c]? := fun c hc => by rw [← e]; exact h.cell pcells_len hi hc
 obtain ⟨⟨⟨ra, rn, rc⟩, ev⟩, hp⟩ : ∃ p, ps[i] = p := ⟨_, rfl⟩
 rw [hp] at g
 exact ⟨ra, rn, rc, ev, by rw [List.getElem?_eq_getElem hi, hp], g 0 (by decide), g 1 (by decide), g 2 (by decide), g 3 (by decide), g 4 (by decide), g 5 (by decide), g 6 (by decide), g 7 (by decide), g 8 (by decide), g 9 (by decide), g 10 (by decide), g 11 (by decide), g 12 (by decide), g 13 (by decide)⟩
theorem infoDot : (Tryz.prog.info? 40).map (fun i => (i.zero, i.size, i.bytes)) = some (some (.agg #[.int .i64 0, .int .i64 0]), 2, 16) := by kernel_rfl
def Cloned (w : World) (ds : List Dot) (e : Ending) (w' : World) : Prop :=
 ∃ h : Hdr, e = .returned h.val ∧ Owns Dot.cells 2 w.heap.size 40 w' h.val ds ∧ Below w.heap.size w w'
set_option maxHeartbeats 1000000 in
theorem cloneDot_any (v : Value) (ds : List Dot) (w : World) (h : SlAt Dot.cells w v ds) (hl : ds.length ≤ 1000000) :
  Calls Tryz.prog 85 #[v] w (Cloned w ds) := by
 have q44 : ∀ (w : World) (a : Option Addr) (n c n' c' : Nat), (binOp .eql 34 (.slice a n c) (.slice none n' c')).run Tryz.prog w = .ok (.bool a.isNone) w := fun w a n c n' c' => Lib.run_eql_slice_nil w _ _ a n c n' c' Tryz.underlying34
 obtain ⟨oa, cap, rfl, hcap, hn, hc⟩ := h
 cases oa with
 | none =>
  obtain rfl := hn rfl
  obtain rfl : ds = [] := List.eq_nil_of_length_eq_zero (by omega)
  go_enter Tryz.func85, Tryz.ntmps85
  go_wp2
  go_ret
  exact ⟨⟨none, 0, 0⟩, rfl, Owns.nil _ _ _ _ _, Below.refl _ _⟩
 | some aa =>
  have HS : Hid (SlAt Dot.cells w (.slice (some aa) ds.length cap) ds) := ⟨some aa, cap, rfl, hcap, hn, hc⟩
  clear hc hn
  go_enter Tryz.func85, Tryz.ntmps85
  go_wp2_with (at_builtin; go_loud (refine wpList_app Dot.cells 2 Dot.cells_len (by decide) Dot.cells_one _ rfl _ _ 34 rfl w.heap.size 40 _ 16 Tryz.underlying34 infoDot rfl _ [] rfl ?h1 _ ds rfl ?h2 ?h3 ?h4 ?h5 ?_))
  case h1 => exact World.ownsRow_made w #[] 0 (Nat.le_refl _) (by decide) rfl
  case h2 => exact HS.out.below Dot.cells_len (by decide) ((Below.refl _ _).alloc (Nat.le_refl _) _) (Nat.le_refl _)
  case h3 => simp only [List.length_nil]; omega
  case h4 => simp only [List.length_nil]; omega
  case h5 => simp
  intro v' w' hown hg hv
  have hex : ∃ h : Hdr, v' = h.val := hdr_of_slAt hown.at
  obtain ⟨h, hh⟩ := hex
  rw [hh]
  rw [hh] at hown
  have HG := Lib.hid hg
  have HO := Lib.hid hown
  clear hg hown hv
  go_wp2
  go_ret
  exact ⟨h, rfl, HO.out, ((Below.refl _ _).alloc (Nat.le_refl _) _).trans (Below.grown (Below.refl _ _) HG.out (by simp) (fun k hk => by simp [Value.ownBlock] at hk; omega))⟩
end Go.Proofs.YtenkfnhcdfmkaaaGreat
