/-
  The steps of a region that is walked by an invariant: an operation that yields a value, one that yields nothing, a law's step, a call.
-/
import Derived.Test.YtkdjfoehpioghaaRegInv
namespace Go.Proofs.Ytkdjfoehpioghaa
open Go.RowKit
set_option linter.unusedVariables false
section
variable {P : Program} {ops : Array Oper} {Q : Exit → Act → World → Prop}
/-- one operation that yields a value -/
theorem step_val {i : Nat} {o : Oper} {d : Nat} {v : Value} {a : Act} {w w' : World} {K : Act → World → Prop} (hi : ops[i]? = some o) (hd : o.dst = some d) (hg : o.guard = none)
    (hv : (execOp a.eval o).run P w = .ok (.value v) w') (h : K (a.put (some d) v) w') : wpOp P ops Q i K a w := by
  unfold wpOp
  rw [hi]
  have hw : Region.wanted o (yielded ops a.tmps) = true := by simp [Region.wanted, hg]
  simp only [hw, if_true]
  refine .inl ?_
  unfold Oper.wp
  rw [hv, hd.symm] at *
  exact h
/-- one that yields nothing: a store -/
theorem step_none {i : Nat} {o : Oper} {v : Value} {a : Act} {w w' : World} {K : Act → World → Prop} (hi : ops[i]? = some o) (hd : o.dst = none) (hg : o.guard = none)
    (hv : (execOp a.eval o).run P w = .ok (.value v) w') (h : K a w') : wpOp P ops Q i K a w := by
  unfold wpOp
  rw [hi]
  have hw : Region.wanted o (yielded ops a.tmps) = true := by simp [Region.wanted, hg]
  simp only [hw, if_true]
  refine .inl ?_
  unfold Oper.wp
  rw [hv]
  simp only [Oper.upon, hd]
  exact h
/-- one by a law in the shape of a region's step -/
theorem step_law {i : Nat} {o : Oper} {a : Act} {w : World} {K : Act → World → Prop} (hi : ops[i]? = some o) (hg : o.guard = none)
    (h : if Region.wanted o (yielded ops a.tmps) = true then Oper.wp P o a w K Q else True) : wpOp P ops Q i K a w := by
  unfold wpOp
  rw [hi]
  have hw : Region.wanted o (yielded ops a.tmps) = true := by simp [Region.wanted, hg]
  rw [if_pos hw] at h
  simp only [hw, if_true]
  exact .inl h
/-- a call of a function, by its contract -/
theorem step_call {i : Nat} {o : Oper} {d : Nat} {a : Act} {w w1 : World} {f : FuncId} {args : Array Value} {K : Act → World → Prop} (hi : ops[i]? = some o) (hd : o.dst = some d) (hg : o.guard = none)
    (hv : (execOp a.eval o).run P w = .ok (.enter f args) w1) {post : Ending → World → Prop} (hc : Calls P f args w1 post) (h : ∀ e w2, post e w2 → ∃ v, e = .returned v ∧ K (a.put (some d) v) w2) : wpOp P ops Q i K a w := by
  unfold wpOp
  rw [hi]
  have hw : Region.wanted o (yielded ops a.tmps) = true := by simp [Region.wanted, hg]
  simp only [hw, if_true]
  refine .inl ?_
  unfold Oper.wp
  rw [hv]
  simp only [Oper.upon, hd]
  refine hc.mono fun e w2 hp => ?_
  obtain ⟨v, rfl, hK⟩ := h e w2 hp
  exact hK
/-- an append to a row of one's own -/
theorem step_app_op {α : Type} (enc : α → List Value) (k : Nat) (hk : ∀ x, (enc x).length = k) (k0 : 0 < k) (h1 : ∀ x, ∀ v ∈ enc x, v.oneCell' = true)
    {i d : Nat} {o : Oper} {a : Act} {w : World} {K : Act → World → Prop} (hi : ops[i]? = some o) (hd : o.dst = some d) (hgd : o.guard = none) (s x : Operand) (t : TypeId)
    (ho : o.op = .call { callee := .builtin .append, args := #[s, x], argTypes := #[t, t] })
    (base : Nat) (e : TypeId) (z : Value) (bytes : Nat) (ht : P.underlying t = some (.slice e)) (hinfo : (P.info? e).map (fun i => (i.zero, i.size, i.bytes)) = some (some z, k, bytes)) (hzs : z.cells.size = k)
    (v : Value) (l : List α) (hs : a.eval s = v) (hown : Owns enc k base e w v l)
    (vx : Value) (ms : List α) (hx : a.eval x = vx) (hxs : SlAt enc w vx ms)
    (hbytes : (l.length + ms.length) * bytes ≤ 140737488355328) (h63 : l.length + ms.length ≤ 9223372036854775807) (hbase : base ≤ w.heap.size)
    (h : ∀ v' w', Owns enc k base e w' v' (l ++ ms) → w.grownBy w' v.ownBlock → (v'.ownBlock = v.ownBlock ∨ ∀ g, v'.ownBlock = some g → w.heap.size ≤ g) → K (a.put (some d) v') w') : wpOp P ops Q i K a w :=
  step_law hi hgd (step_app enc k hk k0 h1 w hgd s x t ho base e z bytes ht hinfo hzs v l hs hown vx ms hx hxs hbytes h63 hbase fun v' w' a1 a2 a3 => by rw [hd]; exact h v' w' a1 a2 a3)
/-- what binds in 'after' points backwards -/
def afterOk (md : Region.Mode) (ops : Array Oper) : Bool := (List.range ops.size).all fun i => match ops[i]? with
  | some o => o.after.toList.all fun e => !Region.binds md e || Nat.blt e.on i
  | none => true
theorem all_listed_b {md : Region.Mode} {L : Array Bool} {n : Nat} (hs : L.size = n) (hn : ops.size = n) (hb : afterOk md ops = true) (hr : Region.ready md ops L = []) : ∀ i, i < n → L.getD i false = true := by
  subst hn
  intro i
  induction i using Nat.strongRecOn with
  | ind i ih =>
    intro hi
    cases hL : L.getD i false with
    | true => rfl
    | false =>
      exfalso
      have hm : i ∈ Region.ready md ops L := by
        refine mem_ready.2 ⟨?_, ops[i], Array.getElem?_eq_getElem hi, fun e he hbd => ?_⟩
        · have hi' : i < L.size := by omega
          simp [hi'] at hL ⊢
          exact hL
        · have h := List.all_eq_true.1 hb i (List.mem_range.2 hi)
          rw [Array.getElem?_eq_getElem hi] at h
          have h2 := List.all_eq_true.1 h e (Array.mem_toList_iff.2 he)
          rw [hbd, Bool.not_true, Bool.false_or, Nat.blt_eq] at h2
          exact ih e.on h2 (by omega)
      rw [hr] at hm
      cases hm
end
end Go.Proofs.Ytkdjfoehpioghaa
