/-
  The numbers of layer 1 (sat) and of its reference: what Within, Clamp and CeilDiv return, for all integers. No memory is touched.
  Policies: which ones may be (RightPolicy), and how many replicas a load asks for (Asked), of the program and of the reference. One new block, nothing old is turned.
  Dots and events as data, how they lie in cells, and slices.Clone at a slice of dots: a reading of the same dots in new memory.
-/
import Derived.Test.YtejihgfigclppaaGreatProg
import Derived.WalkKit
import Derived.Handy
import Derived.Lib.Hide
import Derived.Test.YtejihgfigclppaaGreatMRd
import Derived.WalkSpells
import Derived.Lib.SliceRun
namespace Go.Proofs.YtejihgfigclppaaGreat
open Go.RowKit
set_option linter.unusedVariables false

def within (n lo hi : Int) : Int := if hi < n then hi else if n < lo then lo else n
def clamp (n : Int) : Int := within n (-1099511627776) 1099511627776
theorem clamp_bd (n : Int) : -1099511627776 ≤ clamp n ∧ clamp n ≤ 1099511627776 := by
  unfold clamp within; split <;> try split
  all_goals omega
theorem clamp_id {n : Int} (h1 : -1099511627776 ≤ n) (h2 : n ≤ 1099511627776) : clamp n = n := by
  unfold clamp within; rw [if_neg (by omega), if_neg (by omega)]
/-- of clamped numbers -/
def ceilQ (a b : Int) : Int := if 0 < a ∧ a.tmod b ≠ 0 then a.tdiv b + 1 else a.tdiv b
def ceilDiv (a b : Int) : Int × Int := if clamp b ≤ 0 then (0, 2) else (ceilQ (clamp a) (clamp b), 0)

theorem tdiv_bd (x y : Int) (h1 : -1099511627776 ≤ x) (h2 : x ≤ 1099511627776) (h3 : 1 ≤ y) : -1099511627776 ≤ x.tdiv y ∧ x.tdiv y ≤ 1099511627776 := by
  by_cases h : 0 ≤ x
  · rw [Int.tdiv_eq_ediv_of_nonneg h]
    have a := Int.ediv_nonneg h (show 0 ≤ y by omega)
    have b := Int.ediv_le_self y h
    omega
  · have e : x = -(-x) := by omega
    rw [e, Int.neg_tdiv, Int.tdiv_eq_ediv_of_nonneg (by omega)]
    have a := Int.ediv_nonneg (show 0 ≤ -x by omega) (show 0 ≤ y by omega)
    have b := Int.ediv_le_self y (show 0 ≤ -x by omega)
    omega
theorem ceilQ_bd (x y : Int) (h1 : -1099511627776 ≤ x) (h2 : x ≤ 1099511627776) (h3 : 1 ≤ y) : -1099511627776 ≤ ceilQ x y ∧ ceilQ x y ≤ 1099511627777 := by
  have := tdiv_bd x y h1 h2 h3
  unfold ceilQ; split <;> omega
/-- the reference's test -/
theorem ceilQ_ref (x y : Int) (h3 : 1 ≤ y) : (x.tdiv y * y < x) ↔ (0 < x ∧ x.tmod y ≠ 0) := by
  have e := Int.tmod_add_mul_tdiv x y
  rw [Int.mul_comm] at e
  constructor
  · intro h
    have h0 : 0 < x.tmod y := by omega
    refine ⟨?_, by omega⟩
    by_cases hx : 0 < x
    · exact hx
    · have e2 : x.tmod y = -((-x).tmod y) := by rw [Int.neg_tmod]; omega
      have := Int.tmod_nonneg y (show 0 ≤ -x by omega); omega
  · rintro ⟨h1, h2⟩
    have := Int.tmod_nonneg y (show 0 ≤ x by omega)
    omega

theorem within_any (n lo hi : Int) (w : World) :
    Calls Tryz.prog 62 #[.int .i64 n, .int .i64 lo, .int .i64 hi] w fun e w' => e = .returned (.int .i64 (within n lo hi)) ∧ w = w' := by
  go_enter Tryz.func62, Tryz.ntmps62
  go_wp2
  all_goals (go_ret; refine ⟨?_, rfl⟩; unfold within; (repeat' split) <;> first | rfl | omega)
end Go.Proofs.YtejihgfigclppaaGreat
namespace Go.Proofs.YtejihgfigclppaaGreat
open Go.RowKit
set_option linter.unusedVariables false

structure Pol where
  mn : Int
  mx : Int
  goal : Int
  slack : Int
  up : Int
  down : Int
  cool : Int
deriving DecidableEq

def Pol.cells (p : Pol) : List Value := [.int .i64 p.mn, .int .i64 p.mx, .int .i64 p.goal, .int .i64 p.slack, .int .i64 p.up, .int .i64 p.down, .int .i64 p.cool]
def Pol.right (p : Pol) : Prop := 0 ≤ p.mn ∧ p.mn ≤ p.mx ∧ p.mx ≤ 1000 ∧ 1 ≤ p.goal ∧ p.goal ≤ 1073741824 ∧ 0 ≤ p.slack ∧ p.slack ≤ 100 ∧ 1 ≤ p.up ∧ p.up ≤ 1000 ∧ 1 ≤ p.down ∧ p.down ≤ 1000 ∧ 0 ≤ p.cool ∧ p.cool ≤ 1000
instance (p : Pol) : Decidable p.right := by unfold Pol.right; infer_instance
def Pol.rightB (p : Pol) : Bool := decide p.right
theorem Pol.rightB_true {p : Pol} (h : p.right) : p.rightB = true := decide_eq_true h
theorem Pol.rightB_false {p : Pol} (h : ¬ p.right) : p.rightB = false := decide_eq_false h
theorem Pol.rightB_iff {p : Pol} : p.rightB = true ↔ p.right := by unfold Pol.rightB; exact decide_eq_true_iff

def inB (n lo hi : Int) : Bool := decide (lo ≤ n ∧ n ≤ hi)
theorem inB_true {n lo hi : Int} (h : inB n lo hi = true) : lo ≤ n ∧ n ≤ hi := of_decide_eq_true h
theorem inB_false {n lo hi : Int} (h : inB n lo hi = false) : ¬ (lo ≤ n ∧ n ≤ hi) := of_decide_eq_false h
theorem inB_yes {n lo hi : Int} (h : lo ≤ n ∧ n ≤ hi) : inB n lo hi = true := decide_eq_true h
theorem inB_no {n lo hi : Int} (h : ¬ (lo ≤ n ∧ n ≤ hi)) : inB n lo hi = false := decide_eq_false h
theorem retB {a b : Bool} (h : a = b) : Ending.returned (.bool a) = .returned (.bool b) := by rw [h]
theorem within_eq (n lo hi : Int) (hl : lo ≤ hi) : within n lo hi = n ↔ (lo ≤ n ∧ n ≤ hi) := by
  unfold within; split
  · omega
  · split <;> omega

theorem evWithin_any (n lo hi : Int) (w : World) :
    Calls Tryz.prog 122 #[.int .i64 n, .int .i64 lo, .int .i64 hi] w fun e w' => e = .returned (.bool (within n lo hi == n)) ∧ w = w' := by
  go_enter Tryz.func122, Tryz.ntmps122
  go_wp2_with (go_at_call 62; refine (within_any _ _ _ _).mono ?_; rintro e w' ⟨rfl, rfl⟩)
  go_ret
  exact ⟨rfl, rfl⟩
/-- where the bounds are bounds -/
theorem evWithin_inB (n lo hi : Int) (hl : lo ≤ hi) (w : World) :
    Calls Tryz.prog 122 #[.int .i64 n, .int .i64 lo, .int .i64 hi] w fun e w' => e = .returned (.bool (inB n lo hi)) ∧ w = w' :=
  (evWithin_any n lo hi w).mono fun e w' ⟨he, hw⟩ => ⟨by rw [he]; exact retB (by rw [Bool.eq_iff_iff]; unfold inB; rw [beq_iff_eq, decide_eq_true_iff]; exact within_eq n lo hi hl), hw⟩

set_option maxHeartbeats 1000000 in
theorem rightPolicy_yes (p : Pol) (h : p.right) (w : World) :
    Calls Tryz.prog 124 #[.agg #[.int .i64 p.mn, .int .i64 p.mx, .int .i64 p.goal, .int .i64 p.slack, .int .i64 p.up, .int .i64 p.down, .int .i64 p.cool]] w fun e w' => e = .returned (.bool true) ∧ Below w.heap.size w w' := by
  obtain ⟨h1, h2, h3, h4, h5, h6, h7, h8, h9, h10, h11, h12, h13⟩ := h
  have e1 := inB_yes (n := p.mx) (lo := 0) (hi := 1000) ⟨by omega, by omega⟩
  have e2 := inB_yes (n := p.mn) (lo := 0) (hi := p.mx) ⟨by omega, by omega⟩
  have e3 := inB_yes (n := p.goal) (lo := 1) (hi := 1073741824) ⟨by omega, by omega⟩
  have e4 := inB_yes (n := p.slack) (lo := 0) (hi := 100) ⟨by omega, by omega⟩
  have e5 := inB_yes (n := p.up) (lo := 1) (hi := 1000) ⟨by omega, by omega⟩
  have e6 := inB_yes (n := p.down) (lo := 1) (hi := 1000) ⟨by omega, by omega⟩
  have e7 := inB_yes (n := p.cool) (lo := 0) (hi := 1000) ⟨by omega, by omega⟩
  go_enter Tryz.func124, Tryz.ntmps124
  go_wp2_with (go_at_call 122; refine (evWithin_inB _ _ _ (by omega) _).mono ?_; rintro e w' ⟨rfl, rfl⟩)
  go_ret
  exact ⟨rfl, (Below.refl _ _).alloc (Nat.le_refl _) _⟩

set_option maxHeartbeats 2000000 in
theorem rightPolicy_any (p : Pol) (w : World) :
    Calls Tryz.prog 124 #[.agg #[.int .i64 p.mn, .int .i64 p.mx, .int .i64 p.goal, .int .i64 p.slack, .int .i64 p.up, .int .i64 p.down, .int .i64 p.cool]] w fun e w' => e = .returned (.bool p.rightB) ∧ Below w.heap.size w w' := by
  by_cases hr : p.right
  · rw [Pol.rightB_true hr]; exact rightPolicy_yes p hr w
  rw [Pol.rightB_false hr]
  have HR := Lib.hid hr
  clear hr
  by_cases h1 : 0 ≤ p.mx ∧ p.mx ≤ 1000
  case neg =>
    have e1 := inB_no h1
    clear h1 HR
    go_enter Tryz.func124, Tryz.ntmps124
    go_wp2_with (go_at_call 122; refine (evWithin_inB _ _ _ (by omega) _).mono ?_; rintro e w' ⟨rfl, rfl⟩)
    go_ret
    exact ⟨rfl, (Below.refl _ _).alloc (Nat.le_refl _) _⟩
  case pos =>
    have e1 := inB_yes h1
    obtain ⟨h1a, h1b⟩ := h1
    go_enter Tryz.func124, Tryz.ntmps124
    go_wp2_with (go_at_call 122; refine (evWithin_inB _ _ _ (by omega) _).mono ?_; rintro e w' ⟨rfl, rfl⟩)
    all_goals go_ret
    all_goals refine ⟨?_, (Below.refl _ _).alloc (Nat.le_refl _) _⟩
    all_goals first | rfl | skip
    all_goals
      refine retB (Bool.eq_false_iff.2 fun hc => ?_)
      refine absurd ?_ HR.out
      have a2 := inB_true (n := p.mn) (by assumption)
      have a3 := inB_true (n := p.goal) (by assumption)
      have a4 := inB_true (n := p.slack) (by assumption)
      have a5 := inB_true (n := p.up) (by assumption)
      have a6 := inB_true (n := p.down) (by assumption)
      have a7 := inB_true hc
      exact ⟨by omega, by omega, by omega, by omega, by omega, by omega, by omega, by omega, by omega, by omega, by omega, by omega, by omega⟩

set_option maxHeartbeats 2000000 in
theorem refRightPolicy_any (p : Pol) (w : World) :
    Calls Tryz.prog 93 #[.agg #[.int .i64 p.mn, .int .i64 p.mx, .int .i64 p.goal, .int .i64 p.slack, .int .i64 p.up, .int .i64 p.down, .int .i64 p.cool]] w fun e w' => e = .returned (.bool p.rightB) ∧ Below w.heap.size w w' := by
  have hr : Hid (p.rightB = true ↔ p.right) := Pol.rightB_iff
  by_cases h : p.right
  · have hb : Hid (p.rightB = true) := hr.out.2 h
    obtain ⟨h1, h2, h3, h4, h5, h6, h7, h8, h9, h10, h11, h12, h13⟩ := h
    go_enter Tryz.func93, Tryz.ntmps93
    go_wp2
    go_ret
    exact ⟨retB (by rw [hb.out]), (Below.refl _ _).alloc (Nat.le_refl _) _⟩
  · have hb : Hid (p.rightB = false) := by show _ = _; rw [← Bool.not_eq_true, hr.out]; exact h
    have HH := Lib.hid h
    clear h
    go_enter Tryz.func93, Tryz.ntmps93
    go_wp2
    all_goals go_ret
    all_goals refine ⟨retB ?_, (Below.refl _ _).alloc (Nat.le_refl _) _⟩
    all_goals rw [hb.out]
    all_goals first | rfl | exact decide_eq_false fun hc => HH.out ⟨by assumption, by assumption, by assumption, by assumption, by assumption, by assumption, by assumption, by assumption, by assumption, by assumption, by assumption, by assumption, hc⟩

/-- how many replicas are asked for; an error's number -/
def asked (p : Pol) (load : Int) : Int × Int := if p.right then (within (ceilQ (clamp (max load 0)) (clamp p.goal)) p.mn p.mx, 0) else (0, 2)
theorem asked_right {p : Pol} (h : p.right) (load : Int) : ceilDiv (max load 0) p.goal = (ceilQ (clamp (max load 0)) (clamp p.goal), 0) := by
  unfold Pol.right at h
  unfold ceilDiv
  rw [if_neg (by rw [clamp_id (n := p.goal) (by omega) (by omega)]; omega)]

end Go.Proofs.YtejihgfigclppaaGreat
namespace Go.Proofs.YtejihgfigclppaaGreat
open Go.RowKit
set_option linter.unusedVariables false

structure Dot where
  node : Int
  seq : Int
deriving DecidableEq, Inhabited
def Dot.cells (d : Dot) : List Value := [.int .i64 d.node, .int .i64 d.seq]
theorem Dot.cells_len (d : Dot) : d.cells.length = 2 := rfl
theorem Dot.cells_one (d : Dot) : ∀ v ∈ d.cells, v.oneCell' = true := by intro v hv; simp [Dot.cells] at hv; rcases hv with rfl | rfl <;> rfl

/-- a slice's header -/
structure Hdr where
  a : Option Addr
  n : Nat
  c : Nat
deriving Inhabited
def Hdr.val (h : Hdr) : Value := .slice h.a h.n h.c
theorem hdr_of_slAt {α : Type} {enc : α → List Value} {w : World} {v : Value} {l : List α} (h : SlAt enc w v l) : ∃ hd : Hdr, v = hd.val := by
  obtain ⟨oa, cap, rfl, _⟩ := h.slice_of
  exact ⟨⟨oa, l.length, cap⟩, rfl⟩

instance : Inhabited Pol := ⟨⟨0, 0, 0, 0, 0, 0, 0⟩⟩
structure Ev where
  dot : Dot
  time : Int
  kind : Int
  work : Int
  value : Int
  pol : Pol
  rem : List Dot
deriving DecidableEq, Inhabited

/-- an event with its slice's header -/
abbrev PEv := Hdr × Ev
def evCells (e : Ev) (r : Value) : List Value := [.int .i64 e.dot.node, .int .i64 e.dot.seq, .int .i64 e.time, .int .i64 e.kind, .int .i64 e.work, .int .i64 e.value, .int .i64 e.pol.mn, .int .i64 e.pol.mx, .int .i64 e.pol.goal, .int .i64 e.pol.slack, .int .i64 e.pol.up, .int .i64 e.pol.down, .int .i64 e.pol.cool, r]
def pcells (p : PEv) : List Value := evCells p.2 p.1.val
theorem pcells_len (p : PEv) : (pcells p).length = 14 := rfl
theorem pcells_one (p : PEv) : ∀ v ∈ pcells p, v.oneCell' = true := by
  intro v hv
  simp only [pcells, evCells, List.mem_cons, List.not_mem_nil, or_false] at hv
  rcases hv with rfl | rfl | rfl | rfl | rfl | rfl | rfl | rfl | rfl | rfl | rfl | rfl | rfl | rfl <;> rfl

/-- the events' own slices read as their dots -/
def RemsAt (w : World) (ps : List PEv) : Prop := ∀ p ∈ ps, SlAt Dot.cells w p.1.val p.2.rem
/-- v reads as the events l in w -/
def EvsAt (w : World) (v : Value) (ps : List PEv) : Prop := SlAt pcells w v ps ∧ RemsAt w ps

theorem RemsAt.below {w w' : World} {ps : List PEv} {B : Nat} (h : RemsAt w ps) (hb : Below B w w') (hB : w.heap.size ≤ B) : RemsAt w' ps := fun p hp => (h p hp).below Dot.cells_len (by decide) hb hB
theorem EvsAt.below {w w' : World} {v : Value} {ps : List PEv} {B : Nat} (h : EvsAt w v ps) (hb : Below B w w') (hB : w.heap.size ≤ B) : EvsAt w' v ps := ⟨h.1.below pcells_len (by decide) hb hB, h.2.below hb hB⟩

/-- the cells of event i -/
theorem SlAt.ev {w : World} {b off n cap : Nat} {ps : List PEv} (h : SlAt pcells w (.slice (some ⟨b, off, none⟩) n cap) ps) (i : Nat) (hi : i < ps.length) : ∃ ra rn rc ev, ps[i]? = some (⟨ra, rn, rc⟩, ev) ∧ w.cell? ⟨b, off + i * 14, none⟩ = some (.int .i64 ev.dot.node) ∧ w.cell? ⟨b, off + i * 14 + 1, none⟩ = some (.int .i64 ev.dot.seq) ∧ w.cell? ⟨b, off + i * 14 + 2, none⟩ = some (.int .i64 ev.time) ∧ w.cell? ⟨b, off + i * 14 + 3, none⟩ = some (.int .i64 ev.kind) ∧ w.cell? ⟨b, off + i * 14 + 4, none⟩ = some (.int .i64 ev.work) ∧ w.cell? ⟨b, off + i * 14 + 5, none⟩ = some (.int .i64 ev.value) ∧ w.cell? ⟨b, off + i * 14 + 6, none⟩ = some (.int .i64 ev.pol.mn) ∧ w.cell? ⟨b, off + i * 14 + 7, none⟩ = some (.int .i64 ev.pol.mx) ∧ w.cell? ⟨b, off + i * 14 + 8, none⟩ = some (.int .i64 ev.pol.goal) ∧ w.cell? ⟨b, off + i * 14 + 9, none⟩ = some (.int .i64 ev.pol.slack) ∧ w.cell? ⟨b, off + i * 14 + 10, none⟩ = some (.int .i64 ev.pol.up) ∧ w.cell? ⟨b, off + i * 14 + 11, none⟩ = some (.int .i64 ev.pol.down) ∧ w.cell? ⟨b, off + i * 14 + 12, none⟩ = some (.int .i64 ev.pol.cool) ∧ w.cell? ⟨b, off + i * 14 + 13, none⟩ = some (.slice ra rn rc) := by
  have e : ∀ c, off + (i * 14 + c) = off + i * 14 + c := fun c => by omega
  have g : ∀ c, c < 14 → w.cell? ⟨b, off + i * 14 + c, none⟩ = (pcells ps[i])[c]? := fun c hc => by rw [← e]; exact h.cell pcells_len hi hc
  obtain ⟨⟨⟨ra, rn, rc⟩, ev⟩, hp⟩ : ∃ p, ps[i] = p := ⟨_, rfl⟩
  rw [hp] at g
  exact ⟨ra, rn, rc, ev, by rw [List.getElem?_eq_getElem hi, hp], g 0 (by decide), g 1 (by decide), g 2 (by decide), g 3 (by decide), g 4 (by decide), g 5 (by decide), g 6 (by decide), g 7 (by decide), g 8 (by decide), g 9 (by decide), g 10 (by decide), g 11 (by decide), g 12 (by decide), g 13 (by decide)⟩

theorem infoDot : (Tryz.prog.info? 108).map (fun i => (i.zero, i.size, i.bytes)) = some (some (.agg #[.int .i64 0, .int .i64 0]), 2, 16) := by kernel_rfl
end Go.Proofs.YtejihgfigclppaaGreat
