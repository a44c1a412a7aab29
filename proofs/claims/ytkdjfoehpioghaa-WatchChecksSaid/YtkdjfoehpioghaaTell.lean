/-
  A region that draws its order, each of whose operations leaves a value in a slot of its own and only adds to the world: what each leaves is told once, whatever the order.
-/
import Derived.Test.YtkdjfoehpioghaaRegStep
namespace Go.Proofs.Ytkdjfoehpioghaa
open Go.RowKit
set_option linter.unusedVariables false
/-- what is told of a slot's value stands in all worlds that only grow -/
def Lasts (F : Value → World → Prop) : Prop := ∀ v w w', Below w.heap.size w w' → F v w → F v w'
theorem lasts_pure (p : Value → Prop) : Lasts fun v _ => p v := fun _ _ _ _ h => h
section
variable {P : Program} {ops : Array Oper} {Q : Exit → Act → World → Prop}
def Needs (ops : Array Oper) (i j : Nat) : Prop := ∃ o, ops[i]? = some o ∧ ∃ e ∈ o.after, Region.binds .any e = true ∧ e.on = j
/-- operation i leaves a value of which F holds -/
def Leaves (P : Program) (ops : Array Oper) (Q : Exit → Act → World → Prop) (i d : Nat) (F : Value → World → Prop) (a : Act) (w : World) : Prop :=
  wpOp P ops Q i (fun a2 w2 => ∃ v, a2 = a.put (some d) v ∧ Below w.heap.size w w2 ∧ F v w2) a w
theorem tell_region {id : Nat} {act : Act} {w : World} (hm : P.follows .mixedOrders = true) (Fs : List (Nat × (Value → World → Prop))) (hn : ops.size = Fs.length) (hnd : (Fs.map (·.1)).Nodup) (hsz : ∀ d ∈ Fs.map (·.1), d < act.tmps.size)
    (haf : afterOk .any ops = true) (hmono : ∀ p ∈ Fs, Lasts p.2)
    (hstep : ∀ (i : Nat) (hi : i < Fs.length) (a : Act) (w' : World), Ag (Fs.map (·.1)) act a → Below w.heap.size w w' → (∀ (j : Nat) (hj : j < Fs.length), Needs ops i j → Fs[j].2 (a.eval (.tmp Fs[j].1)) w') → Leaves P ops Q i Fs[i].1 Fs[i].2 a w')
    (hend : ∀ (a : Act) (w' : World), Ag (Fs.map (·.1)) act a → Below w.heap.size w w' → (∀ (j : Nat) (hj : j < Fs.length), Fs[j].2 (a.eval (.tmp Fs[j].1)) w') → Q .normal a w') : (Code.region id ops true).wp P Q act w := by
  refine wp_region_inv hm (fun L a w' => L.size = Fs.length ∧ Ag (Fs.map (·.1)) act a ∧ Below w.heap.size w w' ∧ ∀ (j : Nat) (hj : j < Fs.length), L.getD j false = true → Fs[j].2 (a.eval (.tmp Fs[j].1)) w') ?_ ?_ ?_
  · refine ⟨by rw [Array.size_replicate]; exact hn, Ag.refl _ _, ⟨rfl, rfl, rfl, Nat.le_refl _, fun _ _ => rfl⟩, fun j hj h => ?_⟩
    simp [Array.getD_eq_getD_getElem?] at h
    by_cases hs : j < ops.size <;> simp [hs] at h
  · intro L a w' i hi hI
    obtain ⟨hL, hag, hb, hF⟩ := hI
    obtain ⟨hun, o0, ho0, hdep⟩ := mem_ready.1 hi
    have hlt : i < Fs.length := by rw [← hn]; exact (Array.getElem?_eq_some_iff.1 ho0).1
    have h := hstep i hlt a w' hag hb (fun j hj hne => by
      obtain ⟨o, ho, e, he, hbd, rfl⟩ := hne
      rw [ho0] at ho
      obtain rfl := Option.some.inj ho
      exact hF e.on hj (hdep e he hbd))
    have hdi : Fs[i].1 ∈ Fs.map (·.1) := List.mem_map.2 ⟨Fs[i], List.getElem_mem _, rfl⟩
    refine wpOp_mono (fun a2 w2 h2 => ?_) h
    obtain ⟨v, rfl, hb2, hv⟩ := h2
    refine ⟨by simpa using hL, hag.put hdi v, hb.trans (hb2.mono hb.size), fun j hj hLj => ?_⟩
    by_cases hij : j = i
    · subst hij
      rw [eval_put_same v (by rw [hag.size]; exact hsz _ hdi)]
      exact hv
    · have hne : Fs[i].1 ≠ Fs[j].1 := by
        intro e
        have h1 := (List.getElem_inj (i := i) (j := j) (h₀ := by simpa using hlt) (h₁ := by simpa using hj) hnd).1 (by simpa using e)
        exact hij h1.symm
      rw [eval_put_ne v hne]
      rw [getD_set_ne false (fun e => hij e.symm)] at hLj
      exact hmono _ (List.getElem_mem _) _ _ _ hb2 (hF j hj hLj)
  · intro L a w' hr hI
    obtain ⟨hL, hag, hb, hF⟩ := hI
    have hall := all_listed_b hL hn haf hr
    exact hend a w' hag hb fun j hj => hF j hj (hall j hj)
/-- an operation that yields a value -/
theorem leaves_val {i d : Nat} {o : Oper} {v : Value} {a : Act} {w w' : World} {F : Value → World → Prop} (hi : ops[i]? = some o) (hd : o.dst = some d) (hg : o.guard = none)
    (hv : (execOp a.eval o).run P w = .ok (.value v) w') (hb : Below w.heap.size w w') (hF : F v w') : Leaves P ops Q i d F a w :=
  step_val hi hd hg hv ⟨v, rfl, hb, hF⟩
/-- a whole variable of many cells loaded -/
theorem leaves_loadAgg {i d : Nat} {o : Oper} {a : Act} {w : World} {F : Value → World → Prop} (hi : ops[i]? = some o) (hd : o.dst = some d) (hg : o.guard = none) (t : TypeId) (x : Operand) (ho : o.op = .load t x) (n : Nat)
    (hA : (isAgg t).run P w = .ok true w) (hz : (Go.sizeOf t).run P w = .ok n w) (p : Addr) (hx : a.eval x = .pointer (some p)) (vs : Array Value) (hl : Sem.run P (loadCellsFrom p 0 n #[]) w = .ok vs w) (hF : F (.agg vs) w) : Leaves P ops Q i d F a w :=
  leaves_val hi hd hg (by
    unfold execOp
    simp only [ho, Instr.loadAt, Instr.sureAddr, loadVar, loadCells, Sem.run_bind, Sem.run_pure, Result.andThen_ok, hx, hA, hz, hl, if_true]) (Below.refl _ _) hF
/-- a call, by its contract -/
theorem leaves_call {i d : Nat} {o : Oper} {a : Act} {w w1 : World} {f : FuncId} {args : Array Value} {F : Value → World → Prop} (hi : ops[i]? = some o) (hd : o.dst = some d) (hg : o.guard = none)
    (hv : (execOp a.eval o).run P w = .ok (.enter f args) w1) {post : Ending → World → Prop} (hc : Calls P f args w1 post) (h : ∀ e w2, post e w2 → ∃ v, e = .returned v ∧ Below w.heap.size w w2 ∧ F v w2) : Leaves P ops Q i d F a w :=
  step_call hi hd hg hv hc fun e w2 hp => by
    obtain ⟨v, rfl, hb, hF⟩ := h e w2 hp
    exact ⟨v, rfl, v, rfl, hb, hF⟩
end
end Go.Proofs.Ytkdjfoehpioghaa
