/-
  A detector, plainly: what it knows, what becomes of it by a tick, a message, its leaving, and what it sends.
  Two worlds that differ in a few blocks alone, and in what is new. No function of the program is entered.
  A map from int to int whose keys are nodes, read as a function.
-/
import Derived.Test.YtejihgfigclppaaGreatMRd
import Derived.Test.YtejihgfigclppaaGreatNext
import Derived.Maps.OwnSet
namespace Go.Proofs.YtejihgfigclppaaGreat
open Go.RowKit Go.Lib
set_option linter.unusedVariables false
structure Er where
 num : Int
 node : Int
 frm : Int
 seq : Int
deriving DecidableEq
structure DConf where
 tout : Int
 ind : Int
 gr : Int
def DConf.right (c : DConf) : Prop := 1 ≤ c.tout ∧ c.tout ≤ 100 ∧ 0 ≤ c.ind ∧ c.ind ≤ 8 ∧ 1 ≤ c.gr ∧ c.gr ≤ 1000
instance DConf.decRight (c : DConf) : Decidable c.right := by unfold DConf.right; infer_instance
structure Det where
 self : Int
 inc : Int
 c : DConf
 tab : Tab
 s : Int
 ws : List Int
 clock : Int
 num : Int
 pr : Option (Int × Int)
 began : Int
 since : Int → Option Int
 er : List Er
 left : Bool
structure Sent where
 kind : Int
 frm : Int
 to_ : Int
 seq : Int
 node : Int
 ms : List Mb
def updI (f : Int → Option Int) (n : Int) (v : Option Int) : Int → Option Int := fun k => if k = n then v else f k
def Det.hear (d : Det) (m : Mb) : Det :=
 if m.may ∧ newsT d.tab m = true then
  if m.node = d.self then { d with tab := updT d.tab m.node.toNat ⟨m.st, m.inc⟩ }
  else { d with tab := updT d.tab m.node.toNat ⟨m.st, m.inc⟩, since := updI d.since m.node (if m.st = 2 then some d.clock else none) }
 else d
def Det.say (d : Det) (node : Int) (st : Int) : Det := match d.tab node.toNat with
 | some w => d.hear ⟨node, st, w.inc⟩
 | none => d
def Det.contradict (d : Det) : Det := match d.tab d.self.toNat with
 | some own => if d.left = true ∨ (own.st = 1 ∧ own.inc ≤ d.inc) ∨ 1099511627776 ≤ own.inc then d else Det.hear { d with inc := own.inc + 1 } ⟨d.self, 1, own.inc + 1⟩
 | none => d
def Det.send (d : Det) (kind to_ seq node : Int) : Sent := ⟨kind, d.self, to_, seq, node, allT d.tab⟩
def Det.bury1 (d : Det) (n : Nat) : Det := match d.since n with
 | some s => if d.c.gr ≤ d.clock - s then d.say n 3 else d
 | none => d
def Det.buryTo (d : Det) : Nat → Det
 | 0 => d
 | n + 1 => (d.buryTo n).bury1 n
def Det.bury (d : Det) : Det := d.buryTo 8
def Det.aroundL (d : Det) (t : Int) : List Int := (othersT d.self d.tab).filter fun n => !decide (n = t)
def Det.around (d : Det) : Det × List Sent := match d.pr with
 | none => (d, [])
 | some p => if d.clock - d.began = d.c.tout then
   ({ d with s := (shufL d.s (onceL (d.aroundL p.2))).1 }, (someL d.s (d.aroundL p.2) d.c.ind).map fun n => d.send 3 n p.1 p.2)
  else (d, [])
def Det.give (d : Det) : Det := match d.pr with
 | none => d
 | some p => if d.clock - d.began < 2 * d.c.tout then d
  else match d.tab p.2.toNat with
   | some w => if w.st = 1 then { d.say p.2 2 with pr := none } else { d with pr := none }
   | none => { d with pr := none }
def Det.begin (d : Det) : Det × List Sent := match d.pr with
 | some _ => (d, [])
 | none => if othersT d.self d.tab = [] then (d, []) else
  let r := nextL d.s d.ws (othersT d.self d.tab)
  let x := r.2.headD 0
  let d' := { d with s := r.1, ws := r.2.tail, num := d.num + 1, pr := some (d.num + 1, x), began := d.clock }
  (d', [d'.send 1 x (d.num + 1) 0])
def Det.tick (d : Det) : Det × List Sent := if d.left = true then (d, []) else
 let d1 : Det := Det.bury { d with clock := d.clock + 1 }
 let a := d1.around
 let b := a.1.give.begin
 (b.1, a.2 ++ b.2)
structure Got where
 kind : Int
 frm : Int
 to_ : Int
 seq : Int
 node : Int
 ms : List Mb
def Det.ack (d : Det) (m : Got) : Det × List Sent :=
 if d.pr = some (m.seq, m.node) then ({ d with pr := none }, [])
 else match d.er.findIdx? fun x => decide (x.num = m.seq ∧ x.node = m.node) with
  | none => (d, [])
  | some i => ({ d with er := d.er.eraseIdx i }, match d.er[i]? with
   | some x => [d.send 2 x.frm x.seq x.node]
   | none => [])
def Det.request (d : Det) (m : Got) : Det × List Sent :=
 if m.node = d.self then (d, [d.send 2 m.frm m.seq d.self])
 else ({ d with num := d.num + 1, er := (d.er ++ [(⟨d.num + 1, m.node, m.frm, m.seq⟩ : Er)]).drop (d.er.length + 1 - 16) }, [d.send 1 m.node (d.num + 1) 0])
def Det.hears (d : Det) (l : List Mb) : Det := l.foldl Det.hear d
def Det.on (d : Det) (m : Got) : Det × List Sent :=
 let e := (d.hears m.ms).contradict
 if m.kind = 1 then (e, [e.send 2 m.frm m.seq e.self])
 else if m.kind = 2 then e.ack m
 else if m.kind = 3 then e.request m
 else (e, [])
def Det.leave (d : Det) : Det × List Sent :=
 let e : Det := Det.hear { d with left := true } ⟨d.self, 4, d.inc⟩
 (e, (othersT e.self e.tab).map fun n => e.send 1 n 0 0)
def Det.new (self inc : Int) (c : DConf) (seed : Int) : Det :=
 ⟨self, inc, c, updT (fun _ => none) self.toNat ⟨1, inc⟩, seed, [], 0, 0, none, 0, fun _ => none, [], false⟩
theorem hear_self (d : Det) (m : Mb) : (d.hear m).self = d.self := by unfold Det.hear; split <;> (try split) <;> rfl
theorem hear_inc (d : Det) (m : Mb) : (d.hear m).inc = d.inc := by unfold Det.hear; split <;> (try split) <;> rfl
theorem hear_c (d : Det) (m : Mb) : (d.hear m).c = d.c := by unfold Det.hear; split <;> (try split) <;> rfl
theorem hear_clock (d : Det) (m : Mb) : (d.hear m).clock = d.clock := by unfold Det.hear; split <;> (try split) <;> rfl
theorem hear_num (d : Det) (m : Mb) : (d.hear m).num = d.num := by unfold Det.hear; split <;> (try split) <;> rfl
theorem hear_pr (d : Det) (m : Mb) : (d.hear m).pr = d.pr := by unfold Det.hear; split <;> (try split) <;> rfl
theorem hear_began (d : Det) (m : Mb) : (d.hear m).began = d.began := by unfold Det.hear; split <;> (try split) <;> rfl
theorem hear_er (d : Det) (m : Mb) : (d.hear m).er = d.er := by unfold Det.hear; split <;> (try split) <;> rfl
theorem hear_left (d : Det) (m : Mb) : (d.hear m).left = d.left := by unfold Det.hear; split <;> (try split) <;> rfl
theorem hear_s (d : Det) (m : Mb) : (d.hear m).s = d.s := by unfold Det.hear; split <;> (try split) <;> rfl
theorem hear_ws (d : Det) (m : Mb) : (d.hear m).ws = d.ws := by unfold Det.hear; split <;> (try split) <;> rfl
theorem hear_tab (d : Det) (m : Mb) : (d.hear m).tab = hearT d.tab m := by unfold Det.hear hearT; split <;> (try split) <;> rfl
end Go.Proofs.YtejihgfigclppaaGreat
namespace Go.Proofs.YtejihgfigclppaaGreat
open Go.RowKit Go.Lib
set_option linter.unusedVariables false
structure Touch (L : Nat → Prop) (w w' : World) : Prop where
 os : w'.os = w.os
 tape : w'.tape = w.tape
 output : w'.output = w.output
 size : w.heap.size ≤ w'.heap.size
 block : ∀ k, k < w.heap.size → ¬ L k → w'.heap[k]? = w.heap[k]?
theorem Touch.refl (L : Nat → Prop) (w : World) : Touch L w w := ⟨rfl, rfl, rfl, Nat.le_refl _, fun _ _ _ => rfl⟩
theorem Touch.of_below {L : Nat → Prop} {w w' : World} {B : Nat} (h : Below B w w') (hB : w.heap.size ≤ B) : Touch L w w' := ⟨h.os, h.tape, h.output, h.size, fun k hk _ => h.block k (Nat.lt_of_lt_of_le hk hB)⟩
theorem Touch.of_grown {L : Nat → Prop} {w w' : World} {row : Option Nat} (h : w.grownBy w' row) (hr : ∀ j, row = some j → L j) : Touch L w w' := ⟨h.os, h.tape, h.output, h.size, fun k hk hn => h.block k hk fun e => hn (hr k e.symm)⟩
theorem Touch.trans {L L' : Nat → Prop} {a b c : World} (h : Touch L a b) (k : Touch L' b c) (hl : ∀ n, n < a.heap.size → L' n → L n) : Touch L a c :=
 ⟨k.os.trans h.os, k.tape.trans h.tape, k.output.trans h.output, Nat.le_trans h.size k.size, fun n hn hL => (k.block n (Nat.lt_of_lt_of_le hn h.size) fun e => hL (hl n hn e)).trans (h.block n hn hL)⟩
theorem Touch.mono {L L' : Nat → Prop} {a b : World} (h : Touch L a b) (hl : ∀ n, n < a.heap.size → L n → L' n) : Touch L' a b := ⟨h.os, h.tape, h.output, h.size, fun n hn hL => h.block n hn fun e => hL (hl n hn e)⟩
theorem Touch.below {L : Nat → Prop} {a b : World} (h : Touch L a b) {B : Nat} (hB : B ≤ a.heap.size) (hl : ∀ n, L n → B ≤ n) : Below B a b := ⟨h.os, h.tape, h.output, h.size, fun n hn => h.block n (Nat.lt_of_lt_of_le hn hB) fun e => by have := hl n e; omega⟩
theorem Touch.cell {L : Nat → Prop} {a b : World} (h : Touch L a b) {p : Addr} (hp : p.block < a.heap.size) (hn : ¬ L p.block) : b.cell? p = a.cell? p := World.cell?_of_block (h.block _ hp hn)
theorem touch_set (L : Nat → Prop) (w : World) (a : Addr) (v : Value) (hL : L a.block) : Touch L w (w.setCell a v) := by
 refine ⟨rfl, rfl, rfl, by simp [World.setCell], fun k hk hn => ?_⟩
 have hne : a.block ≠ k := fun e => hn (by rw [← e]; exact hL)
 simp [World.setCell, Array.getElem?_modify, hne]
theorem SlAt.touch {α : Type} {enc : α → List Value} {k : Nat} (hk : ∀ x, (enc x).length = k) (k0 : 0 < k) {L : Nat → Prop} {w w' : World} {v : Value} {l : List α} (h : SlAt enc w v l) (ht : Touch L w w') (hn : l = [] ∨ ∀ b, v.ownBlock = some b → ¬ L b) : SlAt enc w' v l := by
 refine h.keep ?_
 by_cases hl : l = []
 ·exact .inl hl
 ·exact .inr fun b e => ht.block b (h.lt hk k0 hl b e) (hn.resolve_left hl b e)
theorem Owns.touch {α : Type} {enc : α → List Value} {k base e : Nat} {L : Nat → Prop} {w w' : World} {v : Value} {l : List α} (h : Owns enc k base e w v l) (ht : Touch L w w') (hn : ∀ b, v.ownBlock = some b → ¬ L b) : Owns enc k base e w' v l :=
 h.keep fun g hg => ht.block g (h.lt g hg).2 (hn g hg)
end Go.Proofs.YtejihgfigclppaaGreat
namespace Go.Proofs.YtejihgfigclppaaGreat
open Go.Shelf Go.RowKit Go.Lib Go.Sort Go.Maps
set_option linter.unusedVariables false
def FitsI (x : Int) : Prop := (Lit.int .i64 x).wf = true
theorem fitsI {x : Int} (h : -9223372036854775808 ≤ x ∧ x ≤ 9223372036854775807) : FitsI x := by
 have hmin : IntKind.i64.min = -9223372036854775808 := rfl
 have hmax : IntKind.i64.max = 9223372036854775807 := rfl
 unfold FitsI
 simp only [Lit.wf, Bool.and_eq_true, decide_eq_true_eq]
 omega
theorem keyI : Keyed Tryz.prog 3 := int_keyed Tryz.underlying3
theorem zeroI (w : World) : (zeroValue 3).run Tryz.prog w = .ok (.int .i64 0) w := Tryz.zeroValue3 w
def one1 (o : Option Int) : Nat := if o.isSome then 1 else 0
def cntI (f : Int → Option Int) : Nat := one1 (f 0) + one1 (f 1) + one1 (f 2) + one1 (f 3) + one1 (f 4) + one1 (f 5) + one1 (f 6) + one1 (f 7)
theorem cntI_le (f : Int → Option Int) : cntI f ≤ 8 := by
 have h : ∀ o, one1 o ≤ 1 := fun o => by unfold one1; split <;> omega
 have h0 := h (f 0); have h1 := h (f 1); have h2 := h (f 2); have h3 := h (f 3); have h4 := h (f 4); have h5 := h (f 5); have h6 := h (f 6); have h7 := h (f 7)
 unfold cntI
 omega
theorem cntI_upd (f : Int → Option Int) (k : Nat) (hk : k < 8) (v : Option Int) : cntI (updI f k v) + one1 (f k) = cntI f + one1 v := by
 unfold cntI updI
 rcases (show k = 0 ∨ k = 1 ∨ k = 2 ∨ k = 3 ∨ k = 4 ∨ k = 5 ∨ k = 6 ∨ k = 7 by omega) with rfl | rfl | rfl | rfl | rfl | rfl | rfl | rfl <;> simp <;> omega
structure FunD (D : DataW Unit) (f : Int → Option Int) : Prop where
 at' : ∀ x, D.atKey (.int .i64 x) (.lit (.int .i64 0)) = .lit (.int .i64 ((f x).getD 0))
 has : ∀ x, Maps.has D (.int .i64 x) = (f x).isSome
 size : Maps.size D = cntI f
 tidy : Tidy D
theorem FunD.empty : FunD (.map []) fun _ => none := ⟨fun x => rfl, fun x => rfl, rfl, tidy_empty⟩
theorem FunD.put {D : DataW Unit} {f : Int → Option Int} (h : FunD D f) (k : Nat) (hk : k < 8) (v : Int) : FunD (D.put (.int .i64 k) (.lit (.int .i64 v))) (updI f k (some v)) where
 at' y := by
  by_cases e : y = (k : Int)
  ·subst e
   rw [atKey_put_same h.tidy.isMap (by first | trivial | decide | simp [WideAt.IsKeyLit])]
   simp [updI]
  ·rw [atKey_put_other (by intro h2; injection h2 with _ h3; exact e h3), h.at' y]
   simp [updI, e]
 has y := by
  by_cases e : y = (k : Int)
  ·subst e
   rw [has_put_same h.tidy.isMap (by first | trivial | decide | simp [WideAt.IsKeyLit])]
   simp [updI]
  ·rw [has_put_other (by intro h2; injection h2 with _ h3; exact e h3), h.has y]
   simp [updI, e]
 size := by
  have h1 := cntI_upd f k hk (some v)
  have h2 : one1 (some v) = 1 := rfl
  rw [size_put h.tidy, h.has k, h.size]
  cases e : f k with
  | none =>
   have h3 : one1 (f k) = 0 := by rw [e]; rfl
   simp only [Option.isSome_none, Bool.false_eq_true, if_false]
   omega
  | some u =>
   have h3 : one1 (f k) = 1 := by rw [e]; rfl
   simp only [Option.isSome_some, if_true]
   omega
 tidy := h.tidy.put (by first | trivial | decide | simp [WideAt.IsKeyLit]) _
theorem FunD.del {D : DataW Unit} {f : Int → Option Int} (h : FunD D f) (k : Nat) (hk : k < 8) : FunD (D.del (.int .i64 k)) (updI f k none) where
 at' y := by
  by_cases e : y = (k : Int)
  ·subst e
   rw [atKey_del_same]
   simp [updI]
  ·rw [atKey_del_other (by intro h2; injection h2 with _ h3; exact e h3), h.at' y]
   simp [updI, e]
 has y := by
  by_cases e : y = (k : Int)
  ·subst e
   rw [has_del_same]
   simp [updI]
  ·rw [has_del_other (by intro h2; injection h2 with _ h3; exact e h3), h.has y]
   simp [updI, e]
 size := by
  have h1 := cntI_upd f k hk none
  have h2 : one1 (none : Option Int) = 0 := rfl
  have h4 := size_del h.tidy (k := .int .i64 k)
  rw [h.has k, h.size] at h4
  cases e : f k with
  | none =>
   have h3 : one1 (f k) = 0 := by rw [e]; rfl
   rw [e] at h4
   simp only [Option.isSome_none, Bool.false_eq_true, if_false] at h4
   omega
  | some u =>
   have h3 : one1 (f k) = 1 := by rw [e]; rfl
   rw [e] at h4
   simp only [Option.isSome_some, if_true] at h4
   omega
 tidy := h.tidy.del _
def SinceAt (w : World) (b : Nat) (f : Int → Option Int) : Prop := ∃ D : DataW Unit, w.ownsMap Tryz.prog 3 (plainElem Tryz.prog 3) b 8 D ∧ FunD D f
theorem SinceAt.made (w : World) : SinceAt (w.alloc (.map #[] 0)) w.heap.size fun _ => none := ⟨_, (World.ownsMap_made w _ _ _).mono (by omega), FunD.empty⟩
theorem SinceAt.lt {w : World} {b : Nat} {f : Int → Option Int} (h : SinceAt w b f) : b < w.heap.size := by obtain ⟨D, h, _⟩ := h; exact h.lt
theorem SinceAt.kept {w w' : World} {b : Nat} {f : Int → Option Int} (h : SinceAt w b f) (hb : w'.heap[b]? = w.heap[b]?) : SinceAt w' b f := by
 obtain ⟨D, ⟨es, clock, h1, h2⟩, h3⟩ := h
 exact ⟨D, ⟨es, clock, hb.trans h1, h2⟩, h3⟩
theorem SinceAt.look {w : World} {b : Nat} {f : Int → Option Int} (h : SinceAt w b f) (k : Nat) (hk : k < 8) : (Instr.lookup 91 (.map (some b)) (.int .i64 (k : Int)) true).run Tryz.prog w = .ok (.tuple #[.int .i64 ((f k).getD 0), .bool (f k).isSome]) w := by
 obtain ⟨D, h, h2⟩ := h
 obtain ⟨v, ps, hrun, hv⟩ := h.look_ok keyI Tryz.underlying91 (zeroI w) (plainElem_int Tryz.underlying3 (fitsI (x := 0) (by omega))) (keyOf_int_mk Tryz.underlying3 (fitsI (x := (k : Int)) (by omega)))
 rw [h2.at' k] at hv
 obtain ⟨c, rfl, hc, _⟩ := plainElem_int_inv Tryz.underlying3 hv
 simp only [Prod.mk.injEq, DataW.lit.injEq, Lit.int.injEq, true_and] at hc
 rw [h2.has k] at hrun
 rw [hc.1]
 exact hrun
theorem tight {w : World} {b n : Nat} {D : DataW Unit} (h : w.ownsMap Tryz.prog 3 (plainElem Tryz.prog 3) b n D) {m : Nat} (hm : Maps.size D ≤ m) : w.ownsMap Tryz.prog 3 (plainElem Tryz.prog 3) b m D := by
 obtain ⟨es, clock, hb, F, hs, rfl⟩ := h
 exact ⟨es, clock, hb, F, by simpa [Maps.size, length_sorted] using hm, rfl⟩
theorem SinceAt.drop {w : World} {b : Nat} {f : Int → Option Int} (h : SinceAt w b f) (k : Nat) (hk : k < 8) (ty : TypeId) : ∃ w', (Builtin.delete_ #[91, 3] ty #[.map (some b), .int .i64 (k : Int)]).run Tryz.prog w = .ok (.tuple #[]) w' ∧ SinceAt w' b (updI f k none) ∧ w.grownBy w' (some b) := by
 obtain ⟨D, h, h2⟩ := h
 obtain ⟨w', h3, h4, h5⟩ := h.drop keyI Tryz.underlying91 (keyOf_int_mk Tryz.underlying3 (fitsI (x := (k : Int)) (by omega))) ty
 exact ⟨w', h3, ⟨_, h4, h2.del k hk⟩, h5.grown⟩
theorem SinceAt.store {w : World} {b : Nat} {f : Int → Option Int} (h : SinceAt w b f) (k : Nat) (hk : k < 8) (v : Int) (hv : FitsI v) : ∃ w', (Instr.mapUpdate 91 (.map (some b)) (.int .i64 (k : Int)) (.int .i64 v)).run Tryz.prog w = .ok () w' ∧ SinceAt w' b (updI f k (some v)) ∧ w.grownBy w' (some b) := by
 obtain ⟨D, h, h2⟩ := h
 obtain ⟨w', h3, h4, h5⟩ := h.update keyI Tryz.underlying91 (by unfold maxLen; omega) (keyOf_int_mk Tryz.underlying3 (fitsI (x := (k : Int)) (by omega))) (plainElem_int Tryz.underlying3 hv)
 have h6 := h2.put k hk v
 exact ⟨w', h3, ⟨_, tight h4 (by rw [h6.size]; exact cntI_le _), h6⟩, h5⟩
end Go.Proofs.YtejihgfigclppaaGreat
