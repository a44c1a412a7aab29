/-
  The numbers of layer 1 (sat) and of its reference: what Within, Clamp and CeilDiv return, for all integers. No memory is touched.
  Policies: which ones may be (RightPolicy), and how many replicas a load asks for (Asked), of the program and of the reference. One new block, nothing old is turned.
  Dots and events as data, how they lie in cells, and slices.Clone at a slice of dots: a reading of the same dots in new memory.
  Which of two dots, of two events comes first: event.before, event.Later, policy.later.compare, and window.Of's own order. Each boxes its parameters in new blocks and turns nothing.
  A slice of events that a function gathers in new memory, each with a clone of its own slice: how the whole lives on (Acc), and how one more is pushed.
  Two blocks laid side by side; a row made anew.
-/
import Derived.Test.YtejihgfigclppaaGreatProg
import Derived.WalkKit
import Derived.Handy
import Derived.Lib.Hide
import Derived.Test.YtejihgfigclppaaGreatMRd
import Derived.WalkSpells
import Derived.Lib.SliceRun
import Derived.Test.YtejihgfigclppaaGreatMSortPure
import Derived.Sort.Grow
import Derived.Shelf.SlSortCmp.KitK
import Derived.Deep.LoopGhost
namespace Go.Proofs.YtejihgfigclppaaGreat
open Go.RowKit
set_option linter.unusedVariables false
def within (n lo hi : Int) : Int := if hi < n then hi else if n < lo then lo else n
theorem within_any (n lo hi : Int) (w : World) :
  Calls Tryz.prog 62 #[.int .i64 n, .int .i64 lo, .int .i64 hi] w fun e w' => e = .returned (.int .i64 (within n lo hi)) ∧ w = w' := by
 go_enter Tryz.func62, Tryz.ntmps62
 go_wp2
 all_goals (go_ret; refine ⟨?_, rfl⟩; unfold within; (repeat' split) <;> first | rfl | omega)
end Go.Proofs.YtejihgfigclppaaGreat
namespace Go.Proofs.YtejihgfigclppaaGreat
open Go.RowKit
set_option linter.unusedVariables false
structure Pol where
 mn : Int
 mx : Int
 goal : Int
 slack : Int
 up : Int
 down : Int
 cool : Int
deriving DecidableEq
def Pol.cells (p : Pol) : List Value := [.int .i64 p.mn, .int .i64 p.mx, .int .i64 p.goal, .int .i64 p.slack, .int .i64 p.up, .int .i64 p.down, .int .i64 p.cool]
def Pol.right (p : Pol) : Prop := 0 ≤ p.mn ∧ p.mn ≤ p.mx ∧ p.mx ≤ 1000 ∧ 1 ≤ p.goal ∧ p.goal ≤ 1073741824 ∧ 0 ≤ p.slack ∧ p.slack ≤ 100 ∧ 1 ≤ p.up ∧ p.up ≤ 1000 ∧ 1 ≤ p.down ∧ p.down ≤ 1000 ∧ 0 ≤ p.cool ∧ p.cool ≤ 1000
instance (p : Pol) : Decidable p.right := by unfold Pol.right; infer_instance
def Pol.rightB (p : Pol) : Bool := decide p.right
theorem Pol.rightB_true {p : Pol} (h : p.right) : p.rightB = true := decide_eq_true h
theorem Pol.rightB_false {p : Pol} (h : ¬ p.right) : p.rightB = false := decide_eq_false h
theorem Pol.rightB_iff {p : Pol} : p.rightB = true ↔ p.right := by unfold Pol.rightB; exact decide_eq_true_iff
def inB (n lo hi : Int) : Bool := decide (lo ≤ n ∧ n ≤ hi)
theorem inB_true {n lo hi : Int} (h : inB n lo hi = true) : lo ≤ n ∧ n ≤ hi := of_decide_eq_true h
theorem inB_yes {n lo hi : Int} (h : lo ≤ n ∧ n ≤ hi) : inB n lo hi = true := decide_eq_true h
theorem inB_no {n lo hi : Int} (h : ¬ (lo ≤ n ∧ n ≤ hi)) : inB n lo hi = false := decide_eq_false h
theorem retB {a b : Bool} (h : a = b) : Ending.returned (.bool a) = .returned (.bool b) := by rw [h]
theorem within_eq (n lo hi : Int) (hl : lo ≤ hi) : within n lo hi = n ↔ (lo ≤ n ∧ n ≤ hi) := by
 unfold within; split
 ·omega
 ·split <;> omega
theorem evWithin_any (n lo hi : Int) (w : World) :
  Calls Tryz.prog 122 #[.int .i64 n, .int .i64 lo, .int .i64 hi] w fun e w' => e = .returned (.bool (within n lo hi == n)) ∧ w = w' := by
 go_enter Tryz.func122, Tryz.ntmps122
 go_wp2_with (go_at_call 62; refine (within_any _ _ _ _).mono ?_; rintro e w' ⟨rfl, rfl⟩)
 go_ret
 exact ⟨rfl, rfl⟩
theorem evWithin_inB (n lo hi : Int) (hl : lo ≤ hi) (w : World) :
  Calls Tryz.prog 122 #[.int .i64 n, .int .i64 lo, .int .i64 hi] w fun e w' => e = .returned (.bool (inB n lo hi)) ∧ w = w' :=
 (evWithin_any n lo hi w).mono fun e w' ⟨he, hw⟩ => ⟨by rw [he]; exact retB (by rw [Bool.eq_iff_iff]; unfold inB; rw [beq_iff_eq, decide_eq_true_iff]; exact within_eq n lo hi hl), hw⟩
set_option maxHeartbeats 1000000 in
theorem rightPolicy_yes (p : Pol) (h : p.right) (w : World) :
  Calls Tryz.prog 124 #[.agg #[.int .i64 p.mn, .int .i64 p.mx, .int .i64 p.goal, .int .i64 p.slack, .int .i64 p.up, .int .i64 p.down, .int .i64 p.cool]] w fun e w' => e = .returned (.bool true) ∧ Below w.heap.size w w' := by
 obtain ⟨h1, h2, h3, h4, h5, h6, h7, h8, h9, h10, h11, h12, h13⟩ := h
 have e1 := inB_yes (n := p.mx) (lo := 0) (hi := 1000) ⟨by omega, by omega⟩
 have e2 := inB_yes (n := p.mn) (lo := 0) (hi := p.mx) ⟨by omega, by omega⟩
 have e3 := inB_yes (n := p.goal) (lo := 1) (hi := 1073741824) ⟨by omega, by omega⟩
 have e4 := inB_yes (n := p.slack) (lo := 0) (hi := 100) ⟨by omega, by omega⟩
 have e5 := inB_yes (n := p.up) (lo := 1) (hi := 1000) ⟨by omega, by omega⟩
 have e6 := inB_yes (n := p.down) (lo := 1) (hi := 1000) ⟨by omega, by omega⟩
 have e7 := inB_yes (n := p.cool) (lo := 0) (hi := 1000) ⟨by omega, by omega⟩
 go_enter Tryz.func124, Tryz.ntmps124
 go_wp2_with (go_at_call 122; refine (evWithin_inB _ _ _ (by omega) _).mono ?_; rintro e w' ⟨rfl, rfl⟩)
 go_ret
 exact ⟨rfl, (Below.refl _ _).alloc (Nat.le_refl _) _⟩
set_option maxHeartbeats 2000000 in
theorem rightPolicy_any (p : Pol) (w : World) :
  Calls Tryz.prog 124 #[.agg #[.int .i64 p.mn, .int .i64 p.mx, .int .i64 p.goal, .int .i64 p.slack, .int .i64 p.up, .int .i64 p.down, .int .i64 p.cool]] w fun e w' => e = .returned (.bool p.rightB) ∧ Below w.heap.size w w' := by
 by_cases hr : p.right
 ·rw [Pol.rightB_true hr]; exact rightPolicy_yes p hr w
 rw [Pol.rightB_false hr]
 have HR := Lib.hid hr
 clear hr
 by_cases h1 : 0 ≤ p.mx ∧ p.mx ≤ 1000
 case neg =>
  have e1 := inB_no h1
  clear h1 HR
  go_enter Tryz.func124, Tryz.ntmps124
  go_wp2_with (go_at_call 122; refine (evWithin_inB _ _ _ (by omega) _).mono ?_; rintro e w' ⟨rfl, rfl⟩)
  go_ret
  exact ⟨rfl, (Below.refl _ _).alloc (Nat.le_refl _) _⟩
 case pos =>
  have e1 := inB_yes h1
  obtain ⟨h1a, h1b⟩ := h1
  go_enter Tryz.func124, Tryz.ntmps124
  go_wp2_with (go_at_call 122; refine (evWithin_inB _ _ _ (by omega) _).mono ?_; rintro e w' ⟨rfl, rfl⟩)
  all_goals go_ret
  all_goals refine ⟨?_, (Below.refl _ _).alloc (Nat.le_refl _) _⟩
  all_goals first | rfl | skip
  all_goals
   refine retB (Bool.eq_false_iff.2 fun hc => ?_)
   refine absurd ?_ HR.out
   have a2 := inB_true (n := p.mn) (by assumption)
   have a3 := inB_true (n := p.goal) (by assumption)
   have a4 := inB_true (n := p.slack) (by assumption)
   have a5 := inB_true (n := p.up) (by assumption)
   have a6 := inB_true (n := p.down) (by assumption)
   have a7 := inB_true hc
   exact ⟨by omega, by omega, by omega, by omega, by omega, by omega, by omega, by omega, by omega, by omega, by omega, by omega, by omega⟩
set_option maxHeartbeats 2000000 in
theorem refRightPolicy_any (p : Pol) (w : World) :
  Calls Tryz.prog 93 #[.agg #[.int .i64 p.mn, .int .i64 p.mx, .int .i64 p.goal, .int .i64 p.slack, .int .i64 p.up, .int .i64 p.down, .int .i64 p.cool]] w fun e w' => e = .returned (.bool p.rightB) ∧ Below w.heap.size w w' := by
 have hr : Hid (p.rightB = true ↔ p.right) := Pol.rightB_iff
 by_cases h : p.right
 ·have hb : Hid (p.rightB = true) := hr.out.2 h
  obtain ⟨h1, h2, h3, h4, h5, h6, h7, h8, h9, h10, h11, h12, h13⟩ := h
  go_enter Tryz.func93, Tryz.ntmps93
  go_wp2
  go_ret
  exact ⟨retB (by rw [hb.out]), (Below.refl _ _).alloc (Nat.le_refl _) _⟩
 ·have hb : Hid (p.rightB = false) := by show _ = _; rw [← Bool.not_eq_true, hr.out]; exact h
  have HH := Lib.hid h
  clear h
  go_enter Tryz.func93, Tryz.ntmps93
  go_wp2
  all_goals go_ret
  all_goals refine ⟨retB ?_, (Below.refl _ _).alloc (Nat.le_refl _) _⟩
  all_goals rw [hb.out]
  all_goals first | rfl | exact decide_eq_false fun hc => HH.out ⟨by assumption, by assumption, by assumption, by assumption, by assumption, by assumption, by assumption, by assumption, by assumption, by assumption, by assumption, by assumption, hc⟩
end Go.Proofs.YtejihgfigclppaaGreat
namespace Go.Proofs.YtejihgfigclppaaGreat
open Go.RowKit
set_option linter.unusedVariables false
structure Dot where
 node : Int
 seq : Int
deriving DecidableEq, Inhabited
def Dot.cells (d : Dot) : List Value := [.int .i64 d.node, .int .i64 d.seq]
theorem Dot.cells_len (d : Dot) : d.cells.length = 2 := rfl
theorem Dot.cells_one (d : Dot) : ∀ v ∈ d.cells, v.oneCell' = true := by intro v hv; simp [Dot.cells] at hv; rcases hv with rfl | rfl <;> rfl
structure Hdr where
 a : Option Addr
 n : Nat
 c : Nat
deriving Inhabited
def Hdr.val (h : Hdr) : Value := .slice h.a h.n h.c
theorem hdr_of_slAt {α : Type} {enc : α → List Value} {w : World} {v : Value} {l : List α} (h : SlAt enc w v l) : ∃ hd : Hdr, v = hd.val := by
 obtain ⟨oa, cap, rfl, _⟩ := h.slice_of
 exact ⟨⟨oa, l.length, cap⟩, rfl⟩
instance : Inhabited Pol := ⟨⟨0, 0, 0, 0, 0, 0, 0⟩⟩
structure Ev where
 dot : Dot
 time : Int
 kind : Int
 work : Int
 value : Int
 pol : Pol
 rem : List Dot
deriving DecidableEq, Inhabited
abbrev PEv := Hdr × Ev
def evCells (e : Ev) (r : Value) : List Value := [.int .i64 e.dot.node, .int .i64 e.dot.seq, .int .i64 e.time, .int .i64 e.kind, .int .i64 e.work, .int .i64 e.value, .int .i64 e.pol.mn, .int .i64 e.pol.mx, .int .i64 e.pol.goal, .int .i64 e.pol.slack, .int .i64 e.pol.up, .int .i64 e.pol.down, .int .i64 e.pol.cool, r]
def pcells (p : PEv) : List Value := evCells p.2 p.1.val
theorem pcells_len (p : PEv) : (pcells p).length = 14 := rfl
theorem pcells_one (p : PEv) : ∀ v ∈ pcells p, v.oneCell' = true := by
 intro v hv
 simp only [pcells, evCells, List.mem_cons, List.not_mem_nil, or_false] at hv
 rcases hv with rfl | rfl | rfl | rfl | rfl | rfl | rfl | rfl | rfl | rfl | rfl | rfl | rfl | rfl <;> rfl
def RemsAt (w : World) (ps : List PEv) : Prop := ∀ p ∈ ps, SlAt Dot.cells w p.1.val p.2.rem
def EvsAt (w : World) (v : Value) (ps : List PEv) : Prop := SlAt pcells w v ps ∧ RemsAt w ps
theorem RemsAt.below {w w' : World} {ps : List PEv} {B : Nat} (h : RemsAt w ps) (hb : Below B w w') (hB : w.heap.size ≤ B) : RemsAt w' ps := fun p hp => (h p hp).below Dot.cells_len (by decide) hb hB
theorem EvsAt.below {w w' : World} {v : Value} {ps : List PEv} {B : Nat} (h : EvsAt w v ps) (hb : Below B w w') (hB : w.heap.size ≤ B) : EvsAt w' v ps := ⟨h.1.below pcells_len (by decide) hb hB, h.2.below hb hB⟩
theorem SlAt.ev {w : World} {b off n cap : Nat} {ps : List PEv} (h : SlAt pcells w (.slice (some ⟨b, off, none⟩) n cap) ps) (i : Nat) (hi : i < ps.length) : ∃ ra rn rc ev, ps[i]? = some (⟨ra, rn, rc⟩, ev) ∧ w.cell? ⟨b, off + i * 14, none⟩ = some (.int .i64 ev.dot.node) ∧ w.cell? ⟨b, off + i * 14 + 1, none⟩ = some (.int .i64 ev.dot.seq) ∧ w.cell? ⟨b, off + i * 14 + 2, none⟩ = some (.int .i64 ev.time) ∧ w.cell? ⟨b, off + i * 14 + 3, none⟩ = some (.int .i64 ev.kind) ∧ w.cell? ⟨b, off + i * 14 + 4, none⟩ = some (.int .i64 ev.work) ∧ w.cell? ⟨b, off + i * 14 + 5, none⟩ = some (.int .i64 ev.value) ∧ w.cell? ⟨b, off + i * 14 + 6, none⟩ = some (.int .i64 ev.pol.mn) ∧ w.cell? ⟨b, off + i * 14 + 7, none⟩ = some (.int .i64 ev.pol.mx) ∧ w.cell? ⟨b, off + i * 14 + 8, none⟩ = some (.int .i64 ev.pol.goal) ∧ w.cell? ⟨b, off + i * 14 + 9, none⟩ = some (.int .i64 ev.pol.slack) ∧ w.cell? ⟨b, off + i * 14 + 10, none⟩ = some (.int .i64 ev.pol.up) ∧ w.cell? ⟨b, off + i * 14 + 11, none⟩ = some (.int .i64 ev.pol.down) ∧ w.cell? ⟨b, off + i * 14 + 12, none⟩ = some (.int .i64 ev.pol.cool) ∧ w.cell? ⟨b, off + i * 14 + 13, none⟩ = some (.slice ra rn rc) := by
 have e : ∀ c, off + (i * 14 + c) = off + i * 14 + c := fun c => by omega
 have g : ∀ c, c < 14 → w.cell? ⟨b, off + i * 14 + c, none⟩ = (pcells ps[i])[c]? := fun c hc => by rw [← e]; exact h.cell pcells_len hi hc
 obtain ⟨⟨⟨ra, rn, rc⟩, ev⟩, hp⟩ : ∃ p, ps[i] = p := ⟨_, rfl⟩
 rw [hp] at g
 exact ⟨ra, rn, rc, ev, by rw [List.getElem?_eq_getElem hi, hp], g 0 (by decide), g 1 (by decide), g 2 (by decide), g 3 (by decide), g 4 (by decide), g 5 (by decide), g 6 (by decide), g 7 (by decide), g 8 (by decide), g 9 (by decide), g 10 (by decide), g 11 (by decide), g 12 (by decide), g 13 (by decide)⟩
theorem infoDot : (Tryz.prog.info? 108).map (fun i => (i.zero, i.size, i.bytes)) = some (some (.agg #[.int .i64 0, .int .i64 0]), 2, 16) := by kernel_rfl
end Go.Proofs.YtejihgfigclppaaGreat
namespace Go.Proofs.YtejihgfigclppaaGreat
open Go.RowKit Go.Sort
set_option linter.unusedVariables false
def Grew (w w' : World) : Prop := ∃ (q : Nat) (os : Array Obj), w' = grow (w.drewN q) os
theorem Grew.refl (w : World) : Grew w w := ⟨0, #[], by rw [grow_empty]; rfl⟩
theorem Grew.alloc {w w1 : World} (h : Grew w w1) (o : Obj) : Grew w (w1.alloc o) := by
 obtain ⟨q, os, rfl⟩ := h
 exact ⟨q, os ++ #[o], by rw [alloc_eq_grow, grow_grow]⟩
theorem Grew.trans {a b c : World} (h : Grew a b) (k : Grew b c) : Grew a c := by
 obtain ⟨q, os, rfl⟩ := h
 obtain ⟨q', os', rfl⟩ := k
 exact ⟨q + q', os ++ os', by rw [← World.drewN_drewN, ← grow_grow]; rfl⟩
theorem Grew.below {w w' : World} (h : Grew w w') : Below w.heap.size w w' := by
 obtain ⟨q, os, rfl⟩ := h
 exact ⟨rfl, rfl, rfl, by simp [World.drewN], fun k hk => heap_grow_old _ _ (by simpa [World.drewN] using hk)⟩
theorem cell_grown {W : World} {b o : Nat} {v : Value} (hlt : b < W.heap.size) (hc : W.cell? ⟨b, o, none⟩ = some v) : ∀ n os, (grow (W.drewN n) os).cell? ⟨b, o, none⟩ = some v := fun n os =>
 (World.cell?_of_block (a := ⟨b, o, none⟩) (heap_grow_old (W.drewN n) os hlt)).trans hc
def dotLt (a b : Dot) : Bool := decide (a.node < b.node ∨ (a.node = b.node ∧ a.seq < b.seq))
theorem dotLt_iff (a b : Dot) : dotLt a b = true ↔ (a.node < b.node ∨ (a.node = b.node ∧ a.seq < b.seq)) := decide_eq_true_iff
theorem before_any (a b : Dot) (w : World) :
  Calls Tryz.prog 133 #[.agg #[.int .i64 a.node, .int .i64 a.seq], .agg #[.int .i64 b.node, .int .i64 b.seq]] w fun e w' => e = .returned (.bool (dotLt a b)) ∧ Grew w w' := by
 have hx : Hid (dotLt a b = decide (a.node < b.node ∨ (a.node = b.node ∧ a.seq < b.seq))) := rfl
 by_cases h1 : a.node < b.node
 ·have hb : Hid (dotLt a b = true) := by show _ = _; rw [hx.out]; exact decide_eq_true (.inl h1)
  go_enter Tryz.func133, Tryz.ntmps133
  go_wp2
  go_ret
  exact ⟨retB hb.out.symm, ((Grew.refl _).alloc _).alloc _⟩
 ·by_cases h2 : a.node = b.node
  ·have hb : Hid (dotLt a b = decide (a.seq < b.seq)) := by show _ = _; rw [hx.out]; exact decide_eq_decide.2 ⟨fun h => by omega, fun h => .inr ⟨h2, h⟩⟩
   have h3 : (a.node == b.node) = true := beq_iff_eq.2 h2
   have H2 := Lib.hid h2
   have h4 : a.node ≤ b.node := by omega
   have h5 : b.node ≤ a.node := by omega
   clear h2
   go_enter Tryz.func133, Tryz.ntmps133
   go_wp2
   all_goals go_ret
   all_goals exact ⟨retB (by rw [hb.out]; try rfl), ((Grew.refl _).alloc _).alloc _⟩
  ·have hb : Hid (dotLt a b = false) := by show _ = _; rw [hx.out]; exact decide_eq_false (fun h => by omega)
   have h3 : (a.node == b.node) = false := beq_eq_false_iff_ne.2 h2
   go_enter Tryz.func133, Tryz.ntmps133
   go_wp2
   go_ret
   exact ⟨retB hb.out.symm, ((Grew.refl _).alloc _).alloc _⟩
end Go.Proofs.YtejihgfigclppaaGreat
namespace Go.Proofs.YtejihgfigclppaaGreat
open Go.RowKit Go.Sort
set_option linter.unusedVariables false
theorem infoEv : (Tryz.prog.info? 112).map (fun i => (i.zero, i.size, i.bytes)) = some (some (.agg #[.int .i64 0, .int .i64 0, .int .i64 0, .int .i64 0, .int .i64 0, .int .i64 0, .int .i64 0, .int .i64 0, .int .i64 0, .int .i64 0, .int .i64 0, .int .i64 0, .int .i64 0, .slice none 0 0]), 14, 128) := by kernel_rfl
theorem slAt_some {w : World} {oa : Option Addr} {n cap : Nat} {l : List PEv} (h : SlAt pcells w (.slice oa n cap) l) (i : Nat) (hi : i < l.length) : ∃ b off, oa = some ⟨b, off, none⟩ :=
 h.plain pcells_len (by decide) (by intro e; rw [e] at hi; exact absurd hi (by simp))
structure Acc (B e ed : Nat) (w : World) (v : Value) (qs : List PEv) : Prop where
 row : Owns pcells 14 B e w v qs
 rem : ∀ q ∈ qs, Owns Dot.cells 2 B ed w q.1.val q.2.rem ∧ (q.1.val.ownBlock = none ∨ q.1.val.ownBlock ≠ v.ownBlock)
theorem Acc.nil (B e ed : Nat) (w : World) : Acc B e ed w (.slice none 0 0) [] := ⟨Owns.nil _ _ _ _ _, fun q hq => by cases hq⟩
theorem Acc.below {B e ed : Nat} {w w' : World} {v : Value} {qs : List PEv} {C : Nat} (h : Acc B e ed w v qs) (hb : Below C w w') (hC : w.heap.size ≤ C) : Acc B e ed w' v qs :=
 ⟨h.row.below hb hC, fun q hq => ⟨(h.rem q hq).1.below hb hC, (h.rem q hq).2⟩⟩
theorem Acc.lower {B B' e ed : Nat} {w : World} {v : Value} {qs : List PEv} (h : Acc B e ed w v qs) (hb : B' ≤ B) : Acc B' e ed w v qs := ⟨h.row.lower hb, fun q hq => ⟨(h.rem q hq).1.lower hb, (h.rem q hq).2⟩⟩
theorem Acc.push {B e ed : Nat} {W w' : World} {v v' : Value} {qs ms : List PEv} (h : Acc B e ed W v qs)
  (hr : ∀ q ∈ ms, Owns Dot.cells 2 B ed W q.1.val q.2.rem ∧ (q.1.val.ownBlock = none ∨ q.1.val.ownBlock ≠ v.ownBlock))
  (ho : Owns pcells 14 B e w' v' (qs ++ ms)) (hg : W.grownBy w' v.ownBlock) (hv : v'.ownBlock = v.ownBlock ∨ ∀ g, v'.ownBlock = some g → W.heap.size ≤ g) : Acc B e ed w' v' (qs ++ ms) := by
 refine ⟨ho, fun q hq => ?_⟩
 have hq' : Owns Dot.cells 2 B ed W q.1.val q.2.rem ∧ (q.1.val.ownBlock = none ∨ q.1.val.ownBlock ≠ v.ownBlock) := by
  rcases List.mem_append.1 hq with hq | hq
  ·exact h.rem q hq
  ·exact hr q hq
 refine ⟨hq'.1.kept hg hq'.2, ?_⟩
 rcases hv with hv | hv
 ·rw [hv]; exact hq'.2
 ·cases hb : q.1.val.ownBlock with
  | none => exact .inl rfl
  | some g =>
   refine .inr fun e2 => ?_
   have h1 := (hq'.1.lt g hb).2
   have h2 := hv g e2.symm
   omega
theorem Acc.evs {B e ed : Nat} {w : World} {v : Value} {qs : List PEv} (h : Acc B e ed w v qs) : EvsAt w v qs := ⟨h.row.at, fun q hq => (h.rem q hq).1.at⟩
end Go.Proofs.YtejihgfigclppaaGreat
namespace Go.Proofs.YtejihgfigclppaaGreat
open Go.RowKit Go.Lib
set_option linter.unusedVariables false
theorem alloc2 (w : World) (o0 o1 : Obj) : ((w.alloc o0).alloc o1).heap[w.heap.size]? = some o0 ∧ ((w.alloc o0).alloc o1).heap[w.heap.size + 1]? = some o1 ∧ Below w.heap.size w ((w.alloc o0).alloc o1) ∧ ((w.alloc o0).alloc o1).heap.size = w.heap.size + 2 := by
 have s1 : (w.alloc o0).heap.size = w.heap.size + 1 := World.size_alloc _ _
 refine ⟨?_, ?_, ((Below.refl _ _).alloc (Nat.le_refl _) _).alloc (by omega) _, by rw [World.size_alloc, s1]⟩
 ·rw [Below.heap_alloc _ _ _ (by omega), heap_alloc_new]
 ·rw [← s1, heap_alloc_new]
theorem owns_made {e : Nat} (W : World) (n : Nat) (hn : W.heap.size = n) : Owns Dot.cells 2 n e (W.alloc (.cells #[] e)) (.slice (some ⟨n, 0, none⟩) 0 0) [] := by
 subst hn
 exact World.ownsRow_made W #[] 0 (Nat.le_refl _) (by decide) rfl
theorem SlAt.dot {w : World} {b off n cap : Nat} {ds : List Dot} (h : SlAt Dot.cells w (.slice (some ⟨b, off, none⟩) n cap) ds) (i : Nat) (hi : i < ds.length) : ∃ d, ds[i]? = some d ∧ w.cell? ⟨b, off + i * 2, none⟩ = some (.int .i64 d.node) ∧ w.cell? ⟨b, off + i * 2 + 1, none⟩ = some (.int .i64 d.seq) := by
 have e : ∀ c, off + (i * 2 + c) = off + i * 2 + c := fun c => by omega
 have g : ∀ c, c < 2 → w.cell? ⟨b, off + i * 2 + c, none⟩ = (Dot.cells ds[i])[c]? := fun c hc => by rw [← e]; exact h.cell Dot.cells_len hi hc
 exact ⟨ds[i], List.getElem?_eq_getElem hi, g 0 (by decide), g 1 (by decide)⟩
end Go.Proofs.YtejihgfigclppaaGreat
