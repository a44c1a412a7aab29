/-
  Plain facts on a book of events: what is seen and what holds behind each event; closed events come to the same in any order. No function of the program is entered.
  Messages, plainly: which may be; what detectors send as messages. No program in sight.
  Which parts a message of a kind has: msg.has.
-/
import Derived.Test.YtejihgfigclppaaGreatMDotP
import Derived.Test.YtejihgfigclppaaGreatMSwimV
import Derived.Test.YtejihgfigclppaaGreatMWhole
import Derived.Test.YtejihgfigclppaaGreatMSwimB
namespace Go.Proofs.YtejihgfigclppaaGreat
set_option linter.unusedVariables false
def polZero : Pol := ⟨0, 0, 0, 0, 0, 0, 0⟩
def PolRight (p : Pol) : Prop := (0 ≤ p.mn ∧ p.mn ≤ p.mx ∧ p.mx ≤ 1000) ∧ (1 ≤ p.goal ∧ p.goal ≤ 1073741824) ∧ (0 ≤ p.slack ∧ p.slack ≤ 100) ∧ (1 ≤ p.up ∧ p.up ≤ 1000) ∧ (1 ≤ p.down ∧ p.down ≤ 1000) ∧ (0 ≤ p.cool ∧ p.cool ≤ 1000)
instance (p : Pol) : Decidable (PolRight p) := by unfold PolRight; infer_instance
def KindRight (e : Ev) : Prop := (e.kind = 1 ∧ e.pol = polZero ∧ 0 ≤ e.value ∧ e.value ≤ 1099511627776 ∧ e.rem = []) ∨ (e.kind = 2 ∧ PolRight e.pol ∧ e.value = 0) ∨ (e.kind = 3 ∧ e.pol = polZero ∧ e.value = 0)
instance (e : Ev) : Decidable (KindRight e) := by unfold KindRight; infer_instance
def RemRight (own : Dot) (l : List Dot) : Prop := (∀ d ∈ l, May d ∧ d ≠ own) ∧ l.Pairwise Before
instance (own : Dot) (l : List Dot) : Decidable (RemRight own l) := by unfold RemRight; infer_instance
def RightEv (e : Ev) : Prop := May e.dot ∧ (1 ≤ e.time ∧ e.time ≤ 1099511627776) ∧ (0 ≤ e.work ∧ e.work ≤ 7) ∧ e.rem.length ≤ 96 ∧ RemRight e.dot e.rem ∧ KindRight e
instance (e : Ev) : Decidable (RightEv e) := by unfold RightEv; infer_instance
end Go.Proofs.YtejihgfigclppaaGreat
namespace Go.Proofs.YtejihgfigclppaaGreat
open Go.RowKit Go.Lib
set_option linter.unusedVariables false
structure Msg where
 kind : Int
 frm : Int
 to_ : Int
 seq : Int
 node : Int
 u : Nat → Int
 more : List Dot
 evs : List PEv
 ms : List Mb
 hm : Hdr
 he : Hdr
 hs : Hdr
def Msg.cells (m : Msg) : List Value := [.int .i64 m.kind, .int .i64 m.frm, .int .i64 m.to_, .int .i64 m.seq, .int .i64 m.node, .int .i64 (m.u 0), .int .i64 (m.u 1), .int .i64 (m.u 2), .int .i64 (m.u 3), .int .i64 (m.u 4), .int .i64 (m.u 5), .int .i64 (m.u 6), .int .i64 (m.u 7), m.hm.val, m.he.val, m.hs.val]
theorem Msg.cells_len (m : Msg) : m.cells.length = 16 := rfl
def Msg.val (m : Msg) : Value := .agg m.cells.toArray
def Msg.got (m : Msg) : Got := ⟨m.kind, m.frm, m.to_, m.seq, m.node, m.ms⟩
def Msg.set (m : Msg) : DSet := ⟨m.u, m.more⟩
structure MsgIn (w : World) (m : Msg) : Prop where
 more : SlAt Dot.cells w m.hm.val m.more
 evs : EvsAt w m.he.val m.evs
 ms : SlAt Mb.cells w m.hs.val m.ms
theorem MsgIn.below {w w' : World} {m : Msg} {B : Nat} (h : MsgIn w m) (hb : Below B w w') (hB : w.heap.size ≤ B) : MsgIn w' m :=
 ⟨h.more.below Dot.cells_len (by decide) hb hB, h.evs.below hb hB, h.ms.below Mb.cells_len (by decide) hb hB⟩
structure Msg.small (m : Msg) : Prop where
 more : m.more.length ≤ 1000
 ms : m.ms.length ≤ 1000
 evs : m.evs.length ≤ 3000
 rems : ∀ p ∈ m.evs, p.2.rem.length ≤ 3000
def MsOk (l : List Mb) : Prop := (∀ m ∈ l, m.may) ∧ l.Pairwise fun a b => a.node < b.node
instance (l : List Mb) : Decidable (MsOk l) := by unfold MsOk; infer_instance
def noUpto (u : Nat → Int) : Prop := u 0 = 0 ∧ u 1 = 0 ∧ u 2 = 0 ∧ u 3 = 0 ∧ u 4 = 0 ∧ u 5 = 0 ∧ u 6 = 0 ∧ u 7 = 0
instance (u : Nat → Int) : Decidable (noUpto u) := by unfold noUpto; infer_instance
def seqMost (kind : Int) : Int := if kind = 1 ∨ kind = 2 ∨ kind = 3 then 1099511627776 else if kind = 4 then 1 else 0
def Msg.seqOk (m : Msg) : Prop := 0 ≤ m.seq ∧ m.seq ≤ seqMost m.kind
def Msg.nodeOk (m : Msg) : Prop := ((m.kind = 2 ∨ m.kind = 3) ∧ 0 ≤ m.node ∧ m.node ≤ 7) ∨ m.node = 0
def Msg.seenOk (m : Msg) : Prop := if m.kind = 4 then m.set.Right else noUpto m.u ∧ m.more.length = 0
def Msg.evsOk (m : Msg) : Prop := if m.kind = 5 then (∀ p ∈ m.evs, RightEv p.2) ∧ m.evs.length ≤ 768 else m.evs.length = 0
structure Msg.right (m : Msg) : Prop where
 kind : 1 ≤ m.kind ∧ m.kind ≤ 5
 frm : 0 ≤ m.frm ∧ m.frm ≤ 7
 to_ : 0 ≤ m.to_ ∧ m.to_ ≤ 7
 ne : m.frm ≠ m.to_
 ms : MsOk m.ms
 seq : m.seqOk
 node : m.nodeOk
 seen : m.seenOk
 evs : m.evsOk
open Classical in
noncomputable def Msg.rightB (m : Msg) : Bool := decide m.right
theorem Msg.rightB_true {m : Msg} (h : m.right) : m.rightB = true := @decide_eq_true _ (Classical.propDecidable _) h
theorem Msg.rightB_false {m : Msg} (h : ¬ m.right) : m.rightB = false := @decide_eq_false _ (Classical.propDecidable _) h
def Sent.msg (s : Sent) (hs : Hdr) : Msg := ⟨s.kind, s.frm, s.to_, s.seq, s.node, fun _ => 0, [], [], s.ms, ⟨none, 0, 0⟩, ⟨none, 0, 0⟩, hs⟩
theorem noUpto_zero : noUpto fun _ => 0 := ⟨rfl, rfl, rfl, rfl, rfl, rfl, rfl, rfl⟩
theorem allT_ok {t : Tab} (h : TabOk t) : MsOk (allT t) := by
 refine ⟨fun m hm => ?_, allT_rise t⟩
 obtain ⟨k, h1, h2, h3⟩ := (mem_allT t m).1 hm
 obtain ⟨_, h5, h6, h7, h8⟩ := h k _ h3
 exact ⟨by omega, by omega, h5, h6, h7, h8⟩
theorem Sent.right {s : Sent} {hs : Hdr} (hk : s.kind = 1 ∨ s.kind = 2 ∨ s.kind = 3) (hf : 0 ≤ s.frm ∧ s.frm ≤ 7) (ht : 0 ≤ s.to_ ∧ s.to_ ≤ 7) (hne : s.frm ≠ s.to_) (hq : 0 ≤ s.seq ∧ s.seq ≤ 1099511627776) (hn : (s.kind ≠ 1 ∧ 0 ≤ s.node ∧ s.node ≤ 7) ∨ s.node = 0) (hm : MsOk s.ms) : (s.msg hs).right where
 kind := by show 1 ≤ s.kind ∧ s.kind ≤ 5; omega
 frm := hf
 to_ := ht
 ne := hne
 ms := hm
 seq := by
  show 0 ≤ s.seq ∧ s.seq ≤ seqMost s.kind
  unfold seqMost
  rw [if_pos hk]
  exact hq
 node := by
  show ((s.kind = 2 ∨ s.kind = 3) ∧ 0 ≤ s.node ∧ s.node ≤ 7) ∨ s.node = 0
  omega
 seen := by
  show if s.kind = 4 then _ else _
  rw [if_neg (by omega)]
  exact ⟨noUpto_zero, rfl⟩
 evs := by
  show if s.kind = 5 then _ else _
  rw [if_neg (by omega)]
  rfl
theorem Sent.small {s : Sent} {hs : Hdr} (h : s.ms.length ≤ 1000) : (s.msg hs).small := ⟨Nat.zero_le _, h, Nat.zero_le _, fun p hp => nomatch hp⟩
def MsTo (l : List Mb) (i : Nat) : Prop := MsOk (l.take i)
theorem msTo_zero (l : List Mb) : MsTo l 0 := ⟨fun m hm => by simp at hm, by simp⟩
def lastNode (l : List Mb) (i : Nat) : Int := if i = 0 then -1 else (l.getD (i - 1) ⟨0, 0, 0⟩).node
theorem lastNode_succ (l : List Mb) (i : Nat) (h : i < l.length) : lastNode l (i + 1) = l[i].node := by
 unfold lastNode
 rw [if_neg (by omega), Nat.add_sub_cancel]
 simp [List.getD, List.getElem?_eq_getElem h]
theorem msTo_step {l : List Mb} {i : Nat} (h : MsTo l i) (hi : i < l.length) (h1 : l[i].may) (h2 : lastNode l i < l[i].node) : MsTo l (i + 1) := by
 unfold MsTo MsOk at *
 rw [List.take_succ_eq_append_getElem hi]
 refine ⟨fun m hm => ?_, ?_⟩
 ·rw [List.mem_append, List.mem_singleton] at hm
  rcases hm with hm | rfl
  ·exact h.1 m hm
  ·exact h1
 ·rw [List.pairwise_append]
  refine ⟨h.2, List.pairwise_singleton _ _, fun a ha b hb => ?_⟩
  rw [List.mem_singleton] at hb
  subst hb
  obtain ⟨k, hk, rfl⟩ := List.mem_iff_getElem.1 ha
  rw [List.length_take] at hk
  rw [List.getElem_take]
  unfold lastNode at h2
  have hi0 : i ≠ 0 := by omega
  rw [if_neg hi0] at h2
  have hg : l.getD (i - 1) ⟨0, 0, 0⟩ = l[i - 1] := by simp [List.getD, List.getElem?_eq_getElem (show i - 1 < l.length by omega)]
  rw [hg] at h2
  by_cases e : k = i - 1
  ·subst e; exact h2
  ·have h3 := List.pairwise_iff_getElem.1 h.2 k (i - 1) (by rw [List.length_take]; omega) (by rw [List.length_take]; omega) (by omega)
   rw [List.getElem_take, List.getElem_take] at h3
   omega
theorem msTo_done {l : List Mb} (h : MsTo l l.length) : MsOk l := by
 unfold MsTo at h
 rwa [List.take_length] at h
theorem msOk_last {l : List Mb} (h : MsOk l) {i : Nat} (hi : i < l.length) : lastNode l i < l[i].node := by
 unfold lastNode
 split
 ·have := h.1 l[i] (List.getElem_mem _)
  have := this.1
  omega
 ·have hg : l.getD (i - 1) ⟨0, 0, 0⟩ = l[i - 1] := by simp [List.getD, List.getElem?_eq_getElem (show i - 1 < l.length by omega)]
  rw [hg]
  exact List.pairwise_iff_getElem.1 h.2 (i - 1) i (by omega) hi (by omega)
end Go.Proofs.YtejihgfigclppaaGreat
namespace Go.Proofs.YtejihgfigclppaaGreat
open Go.Shelf Go.RowKit Go.Lib Go.Sort
set_option linter.unusedVariables false
set_option linter.unusedSimpArgs false
theorem wpList_storeRow {P : Program} (w : World) {ops : Array Oper} {rest : List Oper} {o : Oper} {a : Act} {Q : Exit → Act → World → Prop} (hgd : o.guard = none) (hd : o.dst = none) (t : TypeId) (ax vx : Operand) (ho : o.op = .store t ax vx)
  (g : Nat) (c c' : Array Value) (hax : a.eval ax = .pointer (some ⟨g, 0, none⟩)) (hvx : a.eval vx = .agg c') (hg : w.heap[g]? = some (.cells c t (0, 0)))
  (hinfo : (P.info? t).map (·.size) = some c'.size) (hs : c.size = c'.size) (h1 : c'.all (·.oneCell') = true) (h : wpList P ops Q rest a (w.setRow g c')) : wpList P ops Q (o :: rest) a w := by
 refine wpList_plain hgd fun K hK => ?_
 have hst := run_storeVar_row (P := P) w g t t c c' hg hinfo hs h1
 have hK2 := hK a (w.setRow g c') h
 unfold Oper.wp execOp
 simp only [ho, hax, hvx, Instr.storeAt, Instr.sureAddr, Sem.run_bind, Sem.run_pure, Result.andThen_ok, hst, Oper.upon, hd, Act.put]
 exact hK2
theorem wpList_known {P : Program} (w : World) {ops : Array Oper} {rest : List Oper} {o : Oper} {a : Act} {Q : Exit → Act → World → Prop} (hgd : o.guard = none) (i : Op) (ho : o.op = i) (v : Value)
  (hv : (execOp a.eval o).run P w = .ok (.value v) w) (h : wpList P ops Q rest (a.put o.dst v) w) : wpList P ops Q (o :: rest) a w := by
 refine wpList_plain hgd fun K hK => ?_
 have hK2 := hK _ _ h
 unfold Oper.wp
 rw [hv]
 exact hK2
def partsV (kind : Int) : Array Value := #[.bool (decide (kind = 1 ∨ kind = 2 ∨ kind = 3 ∨ kind = 4)), .bool (decide (kind = 2 ∨ kind = 3)), .bool (decide (kind = 4)), .bool (decide (kind = 5))]
def hasCells : Array Value := #[.bool false, .bool false, .bool false, .bool false, .bool true, .bool false, .bool false, .bool false, .bool true, .bool true, .bool false, .bool false, .bool true, .bool true, .bool false, .bool false, .bool true, .bool false, .bool true, .bool false, .bool false, .bool false, .bool false, .bool true]
theorem set4_heap (w : World) (g t : Nat) (p q r s a b c d : Value) (h : w.heap[g]? = some (.cells #[p, q, r, s] t)) : ((((w.setCell ⟨g, 0, none⟩ a).setCell ⟨g, 1, none⟩ b).setCell ⟨g, 2, none⟩ c).setCell ⟨g, 3, none⟩ d).heap[g]? = some (.cells #[a, b, c, d] t) :=
 heap_cellSame _ _ _ _ _ _ (heap_cellSame _ _ _ _ _ _ (heap_cellSame _ _ _ _ _ _ (heap_cellSame _ _ _ _ _ _ h)))
theorem hasOne : hasCells.all (·.oneCell') = true := by simp [hasCells, Value.oneCell']
set_option maxHeartbeats 4000000 in
theorem has_any (kind : Int) (h : 1 ≤ kind ∧ kind ≤ 5) (w : World) : Calls Tryz.prog 78 #[.int .i64 kind] w fun e w' => e = .returned (.agg (partsV kind)) ∧ Below w.heap.size w w' := by
 obtain ⟨h0, h1, hb, hs⟩ := alloc2 w (.cells #[.bool false, .bool false, .bool false, .bool false] 142) (.cells #[.bool false, .bool false, .bool false, .bool false, .bool false, .bool false, .bool false, .bool false, .bool false, .bool false, .bool false, .bool false, .bool false, .bool false, .bool false, .bool false, .bool false, .bool false, .bool false, .bool false, .bool false, .bool false, .bool false, .bool false] 172)
 obtain ⟨w2, hw2⟩ : ∃ w2, (w.alloc (.cells #[.bool false, .bool false, .bool false, .bool false] 142)).alloc (.cells #[.bool false, .bool false, .bool false, .bool false, .bool false, .bool false, .bool false, .bool false, .bool false, .bool false, .bool false, .bool false, .bool false, .bool false, .bool false, .bool false, .bool false, .bool false, .bool false, .bool false, .bool false, .bool false, .bool false, .bool false] 172) = w2 := ⟨_, rfl⟩
 rw [hw2] at h0 h1 hb hs
 obtain ⟨w3, hw3⟩ : ∃ w3, w2.setRow (w.heap.size + 1) hasCells = w3 := ⟨_, rfl⟩
 have hr3 := setRow_heap w2 (w.heap.size + 1) _ hasCells _ _ h1
 have hr0 := setRow_other w2 (w.heap.size + 1) w.heap.size hasCells (by omega)
 rw [hw3] at hr3 hr0
 rw [h0] at hr0
 have hb3 : Below w.heap.size w w3 := hb.trans (by rw [← hw3]; exact ⟨rfl, rfl, rfl, by simp [World.setRow], fun k hk => setRow_other w2 (w.heap.size + 1) k _ (by omega)⟩)
 have q0 := cell_of_row w3 w.heap.size 0 _ _ _ hr0
 have q1 := cell_of_row w3 w.heap.size 1 _ _ _ hr0
 have q2 := cell_of_row w3 w.heap.size 2 _ _ _ hr0
 have q3 := cell_of_row w3 w.heap.size 3 _ _ _ hr0
 have qz : ∀ k, w3.frozen? ⟨w.heap.size, k, none⟩ = false := fun k => by unfold World.frozen?; rw [hr0]; simp
 have z0 := qz 0
 have z1 := qz 1
 have z2 := qz 2
 have z3 := qz 3
 have hc := fun k => cell_of_row w3 (w.heap.size + 1) k _ _ _ hr3
 simp only [List.getElem?_toArray, List.getElem?_cons_zero, List.getElem?_cons_succ] at q0 q1 q2 q3
 have H1 := Lib.hid h1
 have HW2 := Lib.hid hw2
 have HW3 := Lib.hid hw3
 have HB3 := Lib.hid hb3
 have HC := Lib.hid hc
 have HR0 := Lib.hid hr0
 clear h0 h1 hb hs hw2 hw3 hr3 hr0 qz hb3 hc
 rcases (show kind = 1 ∨ kind = 2 ∨ kind = 3 ∨ kind = 4 ∨ kind = 5 by omega) with rfl | rfl | rfl | rfl | rfl
 ·have p0 : w3.cell? ⟨w.heap.size + 1, 4, none⟩ = some (.bool true) := HC.out 4
  have p1 : w3.cell? ⟨w.heap.size + 1, 5, none⟩ = some (.bool false) := HC.out 5
  have p2 : w3.cell? ⟨w.heap.size + 1, 6, none⟩ = some (.bool false) := HC.out 6
  have p3 : w3.cell? ⟨w.heap.size + 1, 7, none⟩ = some (.bool false) := HC.out 7
  go_enter Tryz.func78, Tryz.ntmps78
  go_wp2_with (first | (refine wpList_known _ rfl (.build 172 _) rfl (.agg hasCells) (by kernel_rfl) ?_; skip) | ((rw [HW2.out]; refine wpList_storeRow _ rfl rfl 172 (.tmp 3) (.tmp 9) rfl (w.heap.size + 1) _ hasCells rfl rfl H1.out (by kernel_rfl) rfl hasOne ?_; rw [HW3.out])))
  have hL := run_loadVarAgg (t := 142) (n := 4) (by kernel_rfl) (by kernel_rfl) (load_whole (set4_heap w3 w.heap.size 142 _ _ _ _ (.bool true) (.bool false) (.bool false) (.bool false) HR0.out) rfl)
  exact bodyPost_ret (v := .agg (partsV 1)) (run_results_cell rfl rfl hL) rfl ⟨rfl, (((HB3.out.setCell (p := ⟨w.heap.size, 0, none⟩) (Nat.le_refl _) _).setCell (p := ⟨w.heap.size, 1, none⟩) (Nat.le_refl _) _).setCell (p := ⟨w.heap.size, 2, none⟩) (Nat.le_refl _) _).setCell (p := ⟨w.heap.size, 3, none⟩) (Nat.le_refl _) _⟩
 ·have p0 : w3.cell? ⟨w.heap.size + 1, 8, none⟩ = some (.bool true) := HC.out 8
  have p1 : w3.cell? ⟨w.heap.size + 1, 9, none⟩ = some (.bool true) := HC.out 9
  have p2 : w3.cell? ⟨w.heap.size + 1, 10, none⟩ = some (.bool false) := HC.out 10
  have p3 : w3.cell? ⟨w.heap.size + 1, 11, none⟩ = some (.bool false) := HC.out 11
  go_enter Tryz.func78, Tryz.ntmps78
  go_wp2_with (first | (refine wpList_known _ rfl (.build 172 _) rfl (.agg hasCells) (by kernel_rfl) ?_; skip) | ((rw [HW2.out]; refine wpList_storeRow _ rfl rfl 172 (.tmp 3) (.tmp 9) rfl (w.heap.size + 1) _ hasCells rfl rfl H1.out (by kernel_rfl) rfl hasOne ?_; rw [HW3.out])))
  have hL := run_loadVarAgg (t := 142) (n := 4) (by kernel_rfl) (by kernel_rfl) (load_whole (set4_heap w3 w.heap.size 142 _ _ _ _ (.bool true) (.bool true) (.bool false) (.bool false) HR0.out) rfl)
  exact bodyPost_ret (v := .agg (partsV 2)) (run_results_cell rfl rfl hL) rfl ⟨rfl, (((HB3.out.setCell (p := ⟨w.heap.size, 0, none⟩) (Nat.le_refl _) _).setCell (p := ⟨w.heap.size, 1, none⟩) (Nat.le_refl _) _).setCell (p := ⟨w.heap.size, 2, none⟩) (Nat.le_refl _) _).setCell (p := ⟨w.heap.size, 3, none⟩) (Nat.le_refl _) _⟩
 ·have p0 : w3.cell? ⟨w.heap.size + 1, 12, none⟩ = some (.bool true) := HC.out 12
  have p1 : w3.cell? ⟨w.heap.size + 1, 13, none⟩ = some (.bool true) := HC.out 13
  have p2 : w3.cell? ⟨w.heap.size + 1, 14, none⟩ = some (.bool false) := HC.out 14
  have p3 : w3.cell? ⟨w.heap.size + 1, 15, none⟩ = some (.bool false) := HC.out 15
  go_enter Tryz.func78, Tryz.ntmps78
  go_wp2_with (first | (refine wpList_known _ rfl (.build 172 _) rfl (.agg hasCells) (by kernel_rfl) ?_; skip) | ((rw [HW2.out]; refine wpList_storeRow _ rfl rfl 172 (.tmp 3) (.tmp 9) rfl (w.heap.size + 1) _ hasCells rfl rfl H1.out (by kernel_rfl) rfl hasOne ?_; rw [HW3.out])))
  have hL := run_loadVarAgg (t := 142) (n := 4) (by kernel_rfl) (by kernel_rfl) (load_whole (set4_heap w3 w.heap.size 142 _ _ _ _ (.bool true) (.bool true) (.bool false) (.bool false) HR0.out) rfl)
  exact bodyPost_ret (v := .agg (partsV 3)) (run_results_cell rfl rfl hL) rfl ⟨rfl, (((HB3.out.setCell (p := ⟨w.heap.size, 0, none⟩) (Nat.le_refl _) _).setCell (p := ⟨w.heap.size, 1, none⟩) (Nat.le_refl _) _).setCell (p := ⟨w.heap.size, 2, none⟩) (Nat.le_refl _) _).setCell (p := ⟨w.heap.size, 3, none⟩) (Nat.le_refl _) _⟩
 ·have p0 : w3.cell? ⟨w.heap.size + 1, 16, none⟩ = some (.bool true) := HC.out 16
  have p1 : w3.cell? ⟨w.heap.size + 1, 17, none⟩ = some (.bool false) := HC.out 17
  have p2 : w3.cell? ⟨w.heap.size + 1, 18, none⟩ = some (.bool true) := HC.out 18
  have p3 : w3.cell? ⟨w.heap.size + 1, 19, none⟩ = some (.bool false) := HC.out 19
  go_enter Tryz.func78, Tryz.ntmps78
  go_wp2_with (first | (refine wpList_known _ rfl (.build 172 _) rfl (.agg hasCells) (by kernel_rfl) ?_; skip) | ((rw [HW2.out]; refine wpList_storeRow _ rfl rfl 172 (.tmp 3) (.tmp 9) rfl (w.heap.size + 1) _ hasCells rfl rfl H1.out (by kernel_rfl) rfl hasOne ?_; rw [HW3.out])))
  have hL := run_loadVarAgg (t := 142) (n := 4) (by kernel_rfl) (by kernel_rfl) (load_whole (set4_heap w3 w.heap.size 142 _ _ _ _ (.bool true) (.bool false) (.bool true) (.bool false) HR0.out) rfl)
  exact bodyPost_ret (v := .agg (partsV 4)) (run_results_cell rfl rfl hL) rfl ⟨rfl, (((HB3.out.setCell (p := ⟨w.heap.size, 0, none⟩) (Nat.le_refl _) _).setCell (p := ⟨w.heap.size, 1, none⟩) (Nat.le_refl _) _).setCell (p := ⟨w.heap.size, 2, none⟩) (Nat.le_refl _) _).setCell (p := ⟨w.heap.size, 3, none⟩) (Nat.le_refl _) _⟩
 ·have p0 : w3.cell? ⟨w.heap.size + 1, 20, none⟩ = some (.bool false) := HC.out 20
  have p1 : w3.cell? ⟨w.heap.size + 1, 21, none⟩ = some (.bool false) := HC.out 21
  have p2 : w3.cell? ⟨w.heap.size + 1, 22, none⟩ = some (.bool false) := HC.out 22
  have p3 : w3.cell? ⟨w.heap.size + 1, 23, none⟩ = some (.bool true) := HC.out 23
  go_enter Tryz.func78, Tryz.ntmps78
  go_wp2_with (first | (refine wpList_known _ rfl (.build 172 _) rfl (.agg hasCells) (by kernel_rfl) ?_; skip) | ((rw [HW2.out]; refine wpList_storeRow _ rfl rfl 172 (.tmp 3) (.tmp 9) rfl (w.heap.size + 1) _ hasCells rfl rfl H1.out (by kernel_rfl) rfl hasOne ?_; rw [HW3.out])))
  have hL := run_loadVarAgg (t := 142) (n := 4) (by kernel_rfl) (by kernel_rfl) (load_whole (set4_heap w3 w.heap.size 142 _ _ _ _ (.bool false) (.bool false) (.bool false) (.bool true) HR0.out) rfl)
  exact bodyPost_ret (v := .agg (partsV 5)) (run_results_cell rfl rfl hL) rfl ⟨rfl, (((HB3.out.setCell (p := ⟨w.heap.size, 0, none⟩) (Nat.le_refl _) _).setCell (p := ⟨w.heap.size, 1, none⟩) (Nat.le_refl _) _).setCell (p := ⟨w.heap.size, 2, none⟩) (Nat.le_refl _) _).setCell (p := ⟨w.heap.size, 3, none⟩) (Nat.le_refl _) _⟩
end Go.Proofs.YtejihgfigclppaaGreat
