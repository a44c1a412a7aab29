/-
  Messages, plainly: which may be; what detectors send as messages. No program in sight.
-/
import Derived.Test.YtenkfnhcdfmkaaaGreatMSwimP
import Derived.Test.YtenkfnhcdfmkaaaGreatMDotP
namespace Go.Proofs.YtenkfnhcdfmkaaaGreat
open Go.RowKit Go.Lib
set_option linter.unusedVariables false
structure Msg where
 kind : Int
 frm : Int
 to_ : Int
 seq : Int
 node : Int
 u : Nat → Int
 more : List Dot
 evs : List PEv
 ms : List Mb
 hm : Hdr
 he : Hdr
 hs : Hdr
def Msg.cells (m : Msg) : List Value := [.int .i64 m.kind, .int .i64 m.frm, .int .i64 m.to_, .int .i64 m.seq, .int .i64 m.node, .int .i64 (m.u 0), .int .i64 (m.u 1), .int .i64 (m.u 2), .int .i64 (m.u 3), .int .i64 (m.u 4), .int .i64 (m.u 5), .int .i64 (m.u 6), .int .i64 (m.u 7), m.hm.val, m.he.val, m.hs.val]
theorem Msg.cells_len (m : Msg) : m.cells.length = 16 := rfl
def Msg.val (m : Msg) : Value := .agg m.cells.toArray
def Msg.set (m : Msg) : DSet := ⟨m.u, m.more⟩
structure MsgIn (w : World) (m : Msg) : Prop where
 more : SlAt Dot.cells w m.hm.val m.more
 evs : EvsAt w m.he.val m.evs
 ms : SlAt Mb.cells w m.hs.val m.ms
theorem MsgIn.below {w w' : World} {m : Msg} {B : Nat} (h : MsgIn w m) (hb : Below B w w') (hB : w.heap.size ≤ B) : MsgIn w' m :=
 ⟨h.more.below Dot.cells_len (by decide) hb hB, h.evs.below hb hB, h.ms.below Mb.cells_len (by decide) hb hB⟩
structure Msg.small (m : Msg) : Prop where
 more : m.more.length ≤ 1000
 ms : m.ms.length ≤ 1000
 evs : m.evs.length ≤ 3000
 rems : ∀ p ∈ m.evs, p.2.rem.length ≤ 3000
def MsOk (l : List Mb) : Prop := (∀ m ∈ l, m.may) ∧ l.Pairwise fun a b => a.node < b.node
instance (l : List Mb) : Decidable (MsOk l) := by unfold MsOk; infer_instance
def noUpto (u : Nat → Int) : Prop := u 0 = 0 ∧ u 1 = 0 ∧ u 2 = 0 ∧ u 3 = 0 ∧ u 4 = 0 ∧ u 5 = 0 ∧ u 6 = 0 ∧ u 7 = 0
instance (u : Nat → Int) : Decidable (noUpto u) := by unfold noUpto; infer_instance
def seqMost (kind : Int) : Int := if kind = 1 ∨ kind = 2 ∨ kind = 3 then 1099511627776 else if kind = 4 then 1 else 0
def Msg.seqOk (m : Msg) : Prop := 0 ≤ m.seq ∧ m.seq ≤ seqMost m.kind
def Msg.nodeOk (m : Msg) : Prop := ((m.kind = 2 ∨ m.kind = 3) ∧ 0 ≤ m.node ∧ m.node ≤ 7) ∨ m.node = 0
def Msg.seenOk (m : Msg) : Prop := if m.kind = 4 then m.set.Right else noUpto m.u ∧ m.more.length = 0
def Msg.evsOk (m : Msg) : Prop := if m.kind = 5 then (∀ p ∈ m.evs, RightEv p.2) ∧ m.evs.length ≤ 768 else m.evs.length = 0
structure Msg.right (m : Msg) : Prop where
 kind : 1 ≤ m.kind ∧ m.kind ≤ 5
 frm : 0 ≤ m.frm ∧ m.frm ≤ 7
 to_ : 0 ≤ m.to_ ∧ m.to_ ≤ 7
 ne : m.frm ≠ m.to_
 ms : MsOk m.ms
 seq : m.seqOk
 node : m.nodeOk
 seen : m.seenOk
 evs : m.evsOk
open Classical in
noncomputable def Msg.rightB (m : Msg) : Bool := decide m.right
theorem Msg.rightB_true {m : Msg} (h : m.right) : m.rightB = true := @decide_eq_true _ (Classical.propDecidable _) h
theorem Msg.rightB_false {m : Msg} (h : ¬ m.right) : m.rightB = false := @decide_eq_false _ (Classical.propDecidable _) h
theorem noUpto_zero : noUpto fun _ => 0 := ⟨rfl, rfl, rfl, rfl, rfl, rfl, rfl, rfl⟩
def MsTo (l : List Mb) (i : Nat) : Prop := MsOk (l.take i)
theorem msTo_zero (l : List Mb) : MsTo l 0 := ⟨fun m hm => by simp at hm, by simp⟩
def lastNode (l : List Mb) (i : Nat) : Int := if i = 0 then -1 else (l.getD (i - 1) ⟨0, 0, 0⟩).node
theorem lastNode_succ (l : List Mb) (i : Nat) (h : i < l.length) : lastNode l (i + 1) = l[i].node := by
 unfold lastNode
 rw [if_neg (by omega), Nat.add_sub_cancel]
 simp [List.getD, List.getElem?_eq_getElem h]
theorem msTo_step {l : List Mb} {i : Nat} (h : MsTo l i) (hi : i < l.length) (h1 : l[i].may) (h2 : lastNode l i < l[i].node) : MsTo l (i + 1) := by
 unfold MsTo MsOk at *
 rw [List.take_succ_eq_append_getElem hi]
 refine ⟨fun m hm => ?_, ?_⟩
 ·rw [List.mem_append, List.mem_singleton] at hm
  rcases hm with hm | rfl
  ·exact h.1 m hm
  ·exact h1
 ·rw [List.pairwise_append]
  refine ⟨h.2, List.pairwise_singleton _ _, fun a ha b hb => ?_⟩
  rw [List.mem_singleton] at hb
  subst hb
  obtain ⟨k, hk, rfl⟩ := List.mem_iff_getElem.1 ha
  rw [List.length_take] at hk
  rw [List.getElem_take]
  unfold lastNode at h2
  have hi0 : i ≠ 0 := by omega
  rw [if_neg hi0] at h2
  have hg : l.getD (i - 1) ⟨0, 0, 0⟩ = l[i - 1] := by simp [List.getD, List.getElem?_eq_getElem (show i - 1 < l.length by omega)]
  rw [hg] at h2
  by_cases e : k = i - 1
  ·subst e; exact h2
  ·have h3 := List.pairwise_iff_getElem.1 h.2 k (i - 1) (by rw [List.length_take]; omega) (by rw [List.length_take]; omega) (by omega)
   rw [List.getElem_take, List.getElem_take] at h3
   omega
theorem msTo_done {l : List Mb} (h : MsTo l l.length) : MsOk l := by
 unfold MsTo at h
 rwa [List.take_length] at h
theorem msOk_last {l : List Mb} (h : MsOk l) {i : Nat} (hi : i < l.length) : lastNode l i < l[i].node := by
 unfold lastNode
 split
 ·have := h.1 l[i] (List.getElem_mem _)
  have := this.1
  omega
 ·have hg : l.getD (i - 1) ⟨0, 0, 0⟩ = l[i - 1] := by simp [List.getD, List.getElem?_eq_getElem (show i - 1 < l.length by omega)]
  rw [hg]
  exact List.pairwise_iff_getElem.1 h.2 (i - 1) i (by omega) hi (by omega)
end Go.Proofs.YtenkfnhcdfmkaaaGreat
