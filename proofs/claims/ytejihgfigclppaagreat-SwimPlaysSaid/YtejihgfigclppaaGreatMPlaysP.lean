/-
  Two detectors side by side: the program's and the reference's, each in its own blocks.
  As Tell5: calls, and loads of whole variables, that are done just if a test says so.
-/
import Derived.Test.YtejihgfigclppaaGreatMGreat17
import Derived.Test.YtejihgfigclppaaGreatMLaw20b
import Derived.Test.YtejihgfigclppaaGreatMRefLeave
import Derived.Test.YtejihgfigclppaaGreatMSwimU
import Derived.Test.YtejihgfigclppaaGreatMTell5
namespace Go.Proofs.YtejihgfigclppaaGreat
open Go.Shelf Go.RowKit Go.Lib Go.Sort
set_option linter.unusedVariables false
set_option linter.unusedSimpArgs false
structure Two (B : Nat) (w : World) (M : DM) (R : RM) (d : Det) : Prop where
 m : DetAt w M d
 r : RAt w R d
 apart : ∀ k ∈ M.own, k ∉ R.own
 mlo : ∀ k ∈ M.own, B ≤ k
 rlo : ∀ k ∈ R.own, B ≤ k
theorem Two.below {B : Nat} {w w' : World} {M : DM} {R : RM} {d : Det} (h : Two B w M R d) (hb : Below w.heap.size w w') : Two B w' M R d := ⟨h.m.below hb, h.r.below hb, h.apart, h.mlo, h.rlo⟩
theorem Two.ref {B : Nat} {w w' : World} {M : DM} {R : RM} {d : Det} (h : Two B w M R d) (ht : Touch (fun k => k ∈ M.own) w w') : RAt w' R d := h.r.keep fun k hk => ht.block k (h.r.own_lt k hk) fun hm => h.apart k hm hk
def Both (B : Nat) (w1 : World) (gm gr : Nat) (d' : Det) (out : List Sent) (v u : Value) (w : World) : Prop :=
 ∃ M R ps qs, M.g = gm ∧ R.g = gr ∧ Two B w M R d' ∧ MsgsAt B w v ps ∧ MsgsAt B w u qs ∧ ps.map (·.2) = out ∧ qs.map (·.2) = out ∧ Aside M.own v ps ∧ Aside R.own v ps ∧ Below B w1 w
theorem Two.steps {B : Nat} {w1 w w2 w3 w4 : World} {M : DM} {R : RM} {d d' : Det} {out : List Sent} {v u : Value} (h : Two B w M R d) (hB : Below B w1 w) (hs : B ≤ w1.heap.size) (s : Stepped M d' out w v w2) (hm : Below w2.heap.size w2 w3) (t : RStepped R d' out w3 u w4) : Both B w1 M.g R.g d' out v u w4 := by
 obtain ⟨M', ps, a, b, c, e, f, g⟩ := s
 obtain ⟨R', qs, a2, b2, c2, e2, f2⟩ := t
 have h1 : B ≤ w.heap.size := Nat.le_trans hs hB.size
 have h2 := g.size
 have h3 := hm.size
 have hlt := h.r.own_lt
 have hMl := a.own_lt
 have hMR : ∀ k ∈ M'.own, k ∉ R.own := fun k hk hr => (f.own k hk).elim (fun x => h.apart k x hr) fun x => by have := hlt k hr; omega
 have hbl : ∀ x, (v.ownBlock = some x ∨ ∃ p ∈ ps, p.1.val.ownBlock = some x) → x ∉ R.own := fun x hx hr => by
  have := (b.blk x hx).1
  have := hlt x hr
  omega
 refine ⟨M', R', ps, qs, f.g, e2.g, ⟨?_, a2, ?_, ?_, ?_⟩, ?_, b2.lower (by omega), c, c2, e, ?_, ?_⟩
 ·exact (a.below hm).keep fun k hk => f2.block k (by have := hMl k hk; omega) (hMR k hk)
 ·intro k hk hr
  exact (e2.own k hr).elim (hMR k hk) fun x => by have := hMl k hk; omega
 ·exact fun k hk => (f.own k hk).elim (h.mlo k) fun x => by omega
 ·exact fun k hk => (e2.own k hk).elim (h.rlo k) fun x => by omega
 ·exact ((b.lower h1).below hm (Nat.le_refl _)).touch f2 hbl
 ·intro x hx hr
  exact (e2.own x hr).elim (hbl x hx) fun y => by have := (b.blk x hx).2; omega
 ·exact hB.trans ((g.below h1 h.mlo).trans ((hm.mono (by omega)).trans (f2.below (by omega) h.rlo)))
theorem Two.same {B : Nat} {w1 w w4 : World} {M : DM} {R : RM} {d : Det} (h : Two B w M R d) (hB : Below B w1 w) (hs : B ≤ w1.heap.size) (hb : Below w.heap.size w w4) : Both B w1 M.g R.g d [] (.slice none 0 0) (.slice none 0 0) w4 :=
 ⟨M, R, [], [], rfl, rfl, h.below hb, MsgsAt.none _ _, MsgsAt.none _ _, rfl, rfl, Aside.none _, Aside.none _, hB.trans (hb.mono (Nat.le_trans hs hB.size))⟩
def Rows3 (w : World) (ps : List PSent) : Prop := ∀ p ∈ ps, 0 < p.2.ms.length → ∃ b c cur, p.1.val = .slice (some ⟨b, 0, none⟩) p.2.ms.length c ∧ w.heap[b]? = some (.cells cur 45) ∧ p.2.ms.length * 3 ≤ cur.size
theorem rows3_of {B : Nat} {w : World} {v : Value} {ps : List PSent} (h : MsgsAt B w v ps) : Rows3 w ps := fun p hp h0 => by
 obtain ⟨_, hv⟩ := h.2 p hp
 rcases hv with ⟨_, e⟩ | ⟨g, cap, cur, hv, _, hh, hn, _, hs, _⟩
 ·omega
 ·exact ⟨g, cap, cur, hv, hh, by rw [hs]; exact Nat.mul_le_mul_right 3 hn⟩
theorem Rows3.set {w : World} {ps : List PSent} (h : Rows3 w ps) (b o : Nat) (x : Value) : Rows3 (w.setCell ⟨b, o, none⟩ x) ps := fun p hp h0 => by
 obtain ⟨g, c, cur, hv, hh, hs⟩ := h p hp h0
 by_cases e : g = b
 ·subst e
  exact ⟨g, c, _, hv, heap_cellSame w g o cur _ x hh, by simpa using hs⟩
 ·exact ⟨g, c, cur, hv, (Below.heap_setCell w ⟨b, o, none⟩ x g e).trans hh, hs⟩
def InRows (ps : List PSent) (k : Nat) : Prop := ∃ p ∈ ps, p.1.val.ownBlock = some k
structure Marks (wa wr : World) (v : Value) (ps : List PSent) : Prop where
 touch : Touch (InRows ps) wa wr
 rows : Rows3 wr ps
 own : Owns scells 16 0 42 wr v ps
theorem Marks.start {B : Nat} {w : World} {v : Value} {ps : List PSent} (h : MsgsAt B w v ps) : Marks w w v ps := ⟨Touch.refl _ _, rows3_of h, h.1.lower (Nat.zero_le _)⟩
theorem Marks.set {wa wr : World} {v : Value} {ps : List PSent} (h : Marks wa wr v ps) {p : PSent} (hp : p ∈ ps) {b n c : Nat} (h0 : 0 < p.2.ms.length) (hv : p.1.val = .slice (some ⟨b, 0, none⟩) n c) (o : Nat) (x : Value) : Marks wa (wr.setCell ⟨b, o, none⟩ x) v ps := by
 obtain ⟨g, c', cur, hv', hh, _⟩ := h.rows p hp h0
 have hgb : g = b := by
  rw [hv'] at hv
  simp only [Value.slice.injEq, Option.some.injEq, Addr.mk.injEq] at hv
  exact hv.1.1
 subst hgb
 refine ⟨h.touch.trans (touch_set (InRows ps) wr ⟨g, o, none⟩ x ⟨p, hp, by rw [hv]; rfl⟩) fun _ _ h => h, h.rows.set g o x, h.own.keep fun k hk => Below.heap_setCell wr ⟨g, o, none⟩ x k fun e => ?_⟩
 obtain ⟨_, ho⟩ := h.own
 rcases ho with ⟨e1, _⟩ | ⟨g2, cap2, cur2, hv2, _, hh2, _⟩
 ·rw [e1] at hk; cases hk
 ·rw [hv2] at hk
  have e2 : g2 = k := Option.some.inj hk
  have e3 : k = g := e
  rw [e2, e3, hh] at hh2
  simp only [Option.some.injEq, Obj.cells.injEq] at hh2
  exact absurd hh2.2.1 (by decide)
theorem Two.kept {B : Nat} {wa wr : World} {M : DM} {R : RM} {d : Det} {v : Value} {ps : List PSent} (h : Two B wa M R d) (ht : Touch (InRows ps) wa wr) (h1 : Aside M.own v ps) (h2 : Aside R.own v ps) : Two B wr M R d :=
 ⟨h.m.keep fun k hk => ht.block k (h.m.own_lt k hk) fun ⟨p, hp, e⟩ => h1 k (.inr ⟨p, hp, e⟩) hk, h.r.keep fun k hk => ht.block k (h.r.own_lt k hk) fun ⟨p, hp, e⟩ => h2 k (.inr ⟨p, hp, e⟩) hk, h.apart, h.mlo, h.rlo⟩
theorem Marks.below {B : Nat} {wa wr : World} {v v2 : Value} {ps : List PSent} (h : Marks wa wr v ps) (hm : MsgsAt B wa v2 ps) (hB : B ≤ wa.heap.size) : Below B wa wr := h.touch.below hB fun n ⟨p, hp, e⟩ => (hm.blk n (.inr ⟨p, hp, e⟩)).1
structure PlayD (me : Int) (i : Nat) (lf : Bool) (d : Det) : Prop where
 od : OwnD me i lf d
 so : SinceOk d
theorem PlayD.new {self inc : Int} {c : DConf} {seed : Int} (hm : Mb.may ⟨self, 1, inc⟩) (hc : c.right) : PlayD self 0 false (Det.new self inc c seed) := ⟨OwnD.new hm hc, SinceOk.new hm.1⟩
theorem tick_len (d : Det) : d.tick.2.length ≤ 9 := by
 unfold Det.tick
 split
 ·exact Nat.zero_le _
 ·show (_ ++ _ : List Sent).length ≤ 9
  rw [List.length_append]
  exact Nat.add_le_add (around_len _) (begin_len _)
theorem ack_len (d : Det) (m : Got) : (d.ack m).2.length ≤ 1 := by
 unfold Det.ack
 split
 ·exact Nat.zero_le _
 ·split
  ·exact Nat.zero_le _
  ·dsimp only
   split
   ·exact Nat.le_refl _
   ·exact Nat.zero_le _
theorem request_len (d : Det) (m : Got) : (d.request m).2.length ≤ 1 := by
 unfold Det.request
 split <;> exact Nat.le_refl _
theorem on_len (d : Det) (m : Got) : (d.on m).2.length ≤ 1 := by
 unfold Det.on
 dsimp only
 split
 ·exact Nat.le_refl _
 ·split
  ·exact ack_len _ m
  ·split
   ·exact request_len _ m
   ·exact Nat.zero_le _
theorem leave_len (d : Det) : d.leave.2.length ≤ 8 := by
 unfold Det.leave
 dsimp only
 rw [List.length_map]
 exact othersT_len _ _
structure PlayStep (me : Int) (i : Nat) (d : Det) (out : List Sent) : Prop where
 d : ∃ lf, PlayD me i lf d
 small : ∀ s ∈ out, s.ms.length ≤ 8
 len : out.length ≤ 1000
theorem PlayD.stay {self : Int} {i : Nat} {lf : Bool} {d : Det} (h : PlayD self i lf d) : PlayStep self (i + 1) d [] := ⟨⟨lf, h.od.stay.od, h.so⟩, fun s hs => (nomatch hs), Nat.zero_le _⟩
theorem PlayD.tick {self : Int} {i : Nat} {lf : Bool} {d : Det} (h : PlayD self i lf d) (hi : i < 1000) : PlayStep self (i + 1) d.tick.1 d.tick.2 := ⟨⟨lf, (h.od.tick hi).od, h.so.tick⟩, fun s hs => ((h.od.tick hi).sent s hs).small, Nat.le_trans (tick_len d) (by decide)⟩
theorem PlayD.on {self : Int} {i : Nat} {lf : Bool} {d : Det} (h : PlayD self i lf d) (hi : i < 1000) (m : Got) (hm : GotOk d m) : PlayStep self (i + 1) (d.on m).1 (d.on m).2 := ⟨⟨lf, (h.od.on hi m hm).od, h.so.on m⟩, fun s hs => ((h.od.on hi m hm).sent s hs).small, Nat.le_trans (on_len d m) (by decide)⟩
theorem PlayD.leave {self : Int} {i : Nat} {lf : Bool} {d : Det} (h : PlayD self i lf d) : PlayStep self (i + 1) d.leave.1 d.leave.2 := ⟨⟨true, h.od.leave.od, h.so.leave⟩, fun s hs => (h.od.leave.sent s hs).small, Nat.le_trans (leave_len d) (by decide)⟩
end Go.Proofs.YtejihgfigclppaaGreat
namespace Go.Proofs.YtejihgfigclppaaGreat
open Go.RowKit
set_option linter.unusedVariables false
section
variable {P : Program} {ops : Array Oper} {Q : Exit → Act → World → Prop}
theorem leaves_call_g {i d j dj : Nat} {b : Bool} {o oj : Oper} {a : Act} {w w1 : World} {f : FuncId} {args : Array Value} {F : Value → World → Prop} (hi : ops[i]? = some o) (hd : o.dst = some d) (hg : o.guard = some (j, b)) (hj : ops[j]? = some oj) (hdj : oj.dst = some dj) (hs : dj < a.tmps.size) (hb : a.eval (.tmp dj) = .bool b)
  (hv : (execOp a.eval o).run P w = .ok (.enter f args) w1) {post : Ending → World → Prop} (hc : Calls P f args w1 post) (h : ∀ e w2, post e w2 → ∃ v, e = .returned v ∧ Below w.heap.size w w2 ∧ F v w2) : Leaves P ops Q i d F a w := by
 unfold Leaves wpOp
 rw [hi]
 have hw : Region.wanted o (yielded ops a.tmps) = true := by rw [wanted_is hg hj hdj hs hb]; cases b <;> rfl
 simp only [hw, if_true]
 refine .inl ?_
 unfold Oper.wp
 rw [hv]
 simp only [Oper.upon, hd]
 refine hc.mono fun e w2 hp => ?_
 obtain ⟨v, rfl, hbl, hF⟩ := h e w2 hp
 exact ⟨v, rfl, hbl, hF⟩
theorem leaves_loadAgg_g {i d j dj : Nat} {b : Bool} {o oj : Oper} {a : Act} {w : World} {F : Value → World → Prop} (hi : ops[i]? = some o) (hd : o.dst = some d) (hg : o.guard = some (j, b)) (hj : ops[j]? = some oj) (hdj : oj.dst = some dj) (hs : dj < a.tmps.size) (hb : a.eval (.tmp dj) = .bool b) (t : TypeId) (x : Operand) (ho : o.op = .load t x) (n : Nat)
  (hA : (isAgg t).run P w = .ok true w) (hz : (Go.sizeOf t).run P w = .ok n w) (p : Addr) (hx : a.eval x = .pointer (some p)) (vs : Array Value) (hl : Sem.run P (loadCellsFrom p 0 n #[]) w = .ok vs w) (hF : F (.agg vs) w) : Leaves P ops Q i d F a w :=
 leaves_val_g hi hd hg hj hdj hs hb (by
  unfold execOp
  simp only [ho, Instr.loadAt, Instr.sureAddr, loadVar, loadCells, Sem.run_bind, Sem.run_pure, Result.andThen_ok, hx, hA, hz, hl, if_true]) (Below.refl _ _) hF
end
end Go.Proofs.YtejihgfigclppaaGreat
