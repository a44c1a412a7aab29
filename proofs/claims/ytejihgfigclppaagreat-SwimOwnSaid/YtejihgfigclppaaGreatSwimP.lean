/-
  A detector, plainly: what it knows, what becomes of it by a tick, a message, its leaving, and what it sends.
-/
import Derived.Test.YtejihgfigclppaaGreatMRd
import Derived.Test.YtejihgfigclppaaGreatNext
namespace Go.Proofs.YtejihgfigclppaaGreat
open Go.RowKit Go.Lib
set_option linter.unusedVariables false
structure Er where
  num : Int
  node : Int
  frm : Int
  seq : Int
deriving DecidableEq
/-- what a detector is made with -/
structure DConf where
  tout : Int
  ind : Int
  gr : Int
def DConf.right (c : DConf) : Prop := 1 ≤ c.tout ∧ c.tout ≤ 100 ∧ 0 ≤ c.ind ∧ c.ind ≤ 8 ∧ 1 ≤ c.gr ∧ c.gr ≤ 1000
instance DConf.decRight (c : DConf) : Decidable c.right := by unfold DConf.right; infer_instance
structure Det where
  self : Int
  inc : Int
  c : DConf
  tab : Tab
  s : Int
  ws : List Int
  clock : Int
  num : Int
  pr : Option (Int × Int)
  began : Int
  since : Int → Option Int
  er : List Er
  left : Bool
/-- a message without events and dots, as detectors send them -/
structure Sent where
  kind : Int
  frm : Int
  to_ : Int
  seq : Int
  node : Int
  ms : List Mb
def updI (f : Int → Option Int) (n : Int) (v : Option Int) : Int → Option Int := fun k => if k = n then v else f k
def Det.hear (d : Det) (m : Mb) : Det :=
  if m.may ∧ newsT d.tab m = true then
    if m.node = d.self then { d with tab := updT d.tab m.node.toNat ⟨m.st, m.inc⟩ }
    else { d with tab := updT d.tab m.node.toNat ⟨m.st, m.inc⟩, since := updI d.since m.node (if m.st = 2 then some d.clock else none) }
  else d
def Det.say (d : Det) (node : Int) (st : Int) : Det := match d.tab node.toNat with
  | some w => d.hear ⟨node, st, w.inc⟩
  | none => d
def Det.contradict (d : Det) : Det := match d.tab d.self.toNat with
  | some own => if d.left = true ∨ (own.st = 1 ∧ own.inc ≤ d.inc) ∨ 1099511627776 ≤ own.inc then d else Det.hear { d with inc := own.inc + 1 } ⟨d.self, 1, own.inc + 1⟩
  | none => d
def Det.send (d : Det) (kind to_ seq node : Int) : Sent := ⟨kind, d.self, to_, seq, node, allT d.tab⟩
def Det.bury1 (d : Det) (n : Nat) : Det := match d.since n with
  | some s => if d.c.gr ≤ d.clock - s then d.say n 3 else d
  | none => d
def Det.buryTo (d : Det) : Nat → Det
  | 0 => d
  | n + 1 => (d.buryTo n).bury1 n
def Det.bury (d : Det) : Det := d.buryTo 8
/-- whom others are asked to ask -/
def Det.aroundL (d : Det) (t : Int) : List Int := (othersT d.self d.tab).filter fun n => !decide (n = t)
def Det.around (d : Det) : Det × List Sent := match d.pr with
  | none => (d, [])
  | some p => if d.clock - d.began = d.c.tout then
      ({ d with s := (shufL d.s (onceL (d.aroundL p.2))).1 }, (someL d.s (d.aroundL p.2) d.c.ind).map fun n => d.send 3 n p.1 p.2)
    else (d, [])
def Det.give (d : Det) : Det := match d.pr with
  | none => d
  | some p => if d.clock - d.began < 2 * d.c.tout then d
    else match d.tab p.2.toNat with
      | some w => if w.st = 1 then { d.say p.2 2 with pr := none } else { d with pr := none }
      | none => { d with pr := none }
def Det.begin (d : Det) : Det × List Sent := match d.pr with
  | some _ => (d, [])
  | none => if othersT d.self d.tab = [] then (d, []) else
    let r := nextL d.s d.ws (othersT d.self d.tab)
    let x := r.2.headD 0
    let d' := { d with s := r.1, ws := r.2.tail, num := d.num + 1, pr := some (d.num + 1, x), began := d.clock }
    (d', [d'.send 1 x (d.num + 1) 0])
def Det.tick (d : Det) : Det × List Sent := if d.left = true then (d, []) else
  let d1 : Det := Det.bury { d with clock := d.clock + 1 }
  let a := d1.around
  let b := a.1.give.begin
  (b.1, a.2 ++ b.2)
/-- the part of a message that a detector reads -/
structure Got where
  kind : Int
  frm : Int
  to_ : Int
  seq : Int
  node : Int
  ms : List Mb
def Det.ack (d : Det) (m : Got) : Det × List Sent :=
  if d.pr = some (m.seq, m.node) then ({ d with pr := none }, [])
  else match d.er.findIdx? fun x => decide (x.num = m.seq ∧ x.node = m.node) with
    | none => (d, [])
    | some i => ({ d with er := d.er.eraseIdx i }, match d.er[i]? with
      | some x => [d.send 2 x.frm x.seq x.node]
      | none => [])
def Det.request (d : Det) (m : Got) : Det × List Sent :=
  if m.node = d.self then (d, [d.send 2 m.frm m.seq d.self])
  else ({ d with num := d.num + 1, er := (d.er ++ [(⟨d.num + 1, m.node, m.frm, m.seq⟩ : Er)]).drop (d.er.length + 1 - 16) }, [d.send 1 m.node (d.num + 1) 0])
def Det.hears (d : Det) (l : List Mb) : Det := l.foldl Det.hear d
/-- a message that may be, and is to it, ahead of its leaving -/
def Det.on (d : Det) (m : Got) : Det × List Sent :=
  let e := (d.hears m.ms).contradict
  if m.kind = 1 then (e, [e.send 2 m.frm m.seq e.self])
  else if m.kind = 2 then e.ack m
  else if m.kind = 3 then e.request m
  else (e, [])
def Det.leave (d : Det) : Det × List Sent :=
  let e : Det := Det.hear { d with left := true } ⟨d.self, 4, d.inc⟩
  (e, (othersT e.self e.tab).map fun n => e.send 1 n 0 0)
def Det.new (self inc : Int) (c : DConf) (seed : Int) : Det :=
  ⟨self, inc, c, updT (fun _ => none) self.toNat ⟨1, inc⟩, seed, [], 0, 0, none, 0, fun _ => none, [], false⟩
theorem hear_self (d : Det) (m : Mb) : (d.hear m).self = d.self := by unfold Det.hear; split <;> (try split) <;> rfl
theorem hear_inc (d : Det) (m : Mb) : (d.hear m).inc = d.inc := by unfold Det.hear; split <;> (try split) <;> rfl
theorem hear_c (d : Det) (m : Mb) : (d.hear m).c = d.c := by unfold Det.hear; split <;> (try split) <;> rfl
theorem hear_clock (d : Det) (m : Mb) : (d.hear m).clock = d.clock := by unfold Det.hear; split <;> (try split) <;> rfl
theorem hear_num (d : Det) (m : Mb) : (d.hear m).num = d.num := by unfold Det.hear; split <;> (try split) <;> rfl
theorem hear_pr (d : Det) (m : Mb) : (d.hear m).pr = d.pr := by unfold Det.hear; split <;> (try split) <;> rfl
theorem hear_began (d : Det) (m : Mb) : (d.hear m).began = d.began := by unfold Det.hear; split <;> (try split) <;> rfl
theorem hear_er (d : Det) (m : Mb) : (d.hear m).er = d.er := by unfold Det.hear; split <;> (try split) <;> rfl
theorem hear_left (d : Det) (m : Mb) : (d.hear m).left = d.left := by unfold Det.hear; split <;> (try split) <;> rfl
theorem hear_s (d : Det) (m : Mb) : (d.hear m).s = d.s := by unfold Det.hear; split <;> (try split) <;> rfl
theorem hear_ws (d : Det) (m : Mb) : (d.hear m).ws = d.ws := by unfold Det.hear; split <;> (try split) <;> rfl
theorem hear_tab (d : Det) (m : Mb) : (d.hear m).tab = hearT d.tab m := by unfold Det.hear hearT; split <;> (try split) <;> rfl
end Go.Proofs.YtejihgfigclppaaGreat
