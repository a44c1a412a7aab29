/-
  'q, x, is := Winner(append(Copies(..), ..), ..)', in whatever order the region's operations come: what is known at each point.
-/
import Derived.Test.YtfbbafmklahmmaaStepEv
import Derived.Test.YtfbbafmklahmmaaTwoApp
namespace Go.Proofs.Ytfbbafmklahmmaa
open Go.RowKit
set_option linter.unusedVariables false
section
variable {P : Program} {ops : Array Oper} {Q : Exit → Act → World → Prop}
/-- a store of a whole struct in its own block -/
theorem step_store {i : Nat} {o : Oper} {a : Act} {w : World} {K : Act → World → Prop} (hi : ops[i]? = some o) (hd : o.dst = none) (hgd : o.guard = none) (t : TypeId) (ax vx : Operand) (ho : o.op = .store t ax vx)
    (g : Nat) (c c' : Array Value) (hax : a.eval ax = .pointer (some ⟨g, 0, none⟩)) (hvx : a.eval vx = .agg c') (hg : w.heap[g]? = some (.cells c t (0, 0)))
    (hinfo : (P.info? t).map (·.size) = some c'.size) (hs : c.size = c'.size) (h1 : c'.all (·.oneCell') = true) (h : K a (w.setRow g c')) : wpOp P ops Q i K a w := by
  unfold wpOp
  rw [hi]
  have hw : Region.wanted o (yielded ops a.tmps) = true := by simp [Region.wanted, hgd]
  simp only [hw, if_true]
  refine .inl ?_
  have hst := run_storeVar_row (P := P) w g t t c c' hg hinfo hs h1
  unfold Oper.wp execOp
  simp only [ho, hax, hvx, Instr.storeAt, Instr.sureAddr, Sem.run_bind, Sem.run_pure, Result.andThen_ok, hst, Oper.upon, hd, Act.put]
  exact h
end
theorem below_setRow {B : Nat} {a w : World} (h : Below B a w) {g : Nat} (hg : B ≤ g) (cs : Array Value) : Below B a (w.setRow g cs) :=
  h.trans ⟨rfl, rfl, rfl, by simp [World.setRow], fun k hk => setRow_other w g k cs (by omega)⟩
theorem heap_lt {w : World} {g : Nat} {x : Obj} (h : w.heap[g]? = some x) : g < w.heap.size := (Array.getElem?_eq_some_iff.1 h).1
structure WinReg (wA : World) (e ed ep n1 : Nat) (ds E' : List Ev) (zp pc zd dc : Array Value) (b3 b7 b9 ba bd bs bt : Bool) (v127 v131 v18 v19 : Value) (w : World) : Prop where
  below : Below wA.heap.size wA w
  ord : b7 = true → b3 = true
  ord2 : b9 = true → b7 = true
  ords : bs = true → ba = true
  ordt : bt = true → bd = true
  one : b3 = true → b7 = false → ∃ oq cq qs, v127 = .slice oq n1 cq ∧ qs.length = n1 ∧ qs.map (·.2) = ds ∧ Acc wA.heap.size e ed w (.slice oq n1 cq) qs
  two : b7 = true → b9 = false → ∃ o c ms, v131 = .slice o ms.length c ∧ EvsAt w (.slice o ms.length c) ms ∧ ms.map (·.2) = E'
  pa : ba = true → ∃ g, v18 = .pointer (some ⟨g, 0, none⟩) ∧ wA.heap.size ≤ g ∧ w.heap[g]? = some (.cells (if bs then pc else zp) ep (0, 0))
  pd : bd = true → ∃ g, v19 = .pointer (some ⟨g, 0, none⟩) ∧ wA.heap.size ≤ g ∧ w.heap[g]? = some (.cells (if bt then dc else zd) ed (0, 0))
section
variable {wA w : World} {e ed ep n1 : Nat} {ds E' : List Ev} {zp pc zd dc : Array Value} {b3 b7 b9 ba bd bs bt : Bool} {v127 v131 v18 v19 : Value}
theorem WinReg.start (v127 v131 v18 v19 : Value) : WinReg wA e ed ep n1 ds E' zp pc zd dc false false false false false false false v127 v131 v18 v19 wA.drew :=
  ⟨below_drew (Below.refl _ _), fun h => (nomatch h), fun h => (nomatch h), fun h => (nomatch h), fun h => (nomatch h), fun h => (nomatch h), fun h => (nomatch h), fun h => (nomatch h), fun h => (nomatch h)⟩
/-- growth alone -/
theorem WinReg.grow (h : WinReg wA e ed ep n1 ds E' zp pc zd dc b3 b7 b9 ba bd bs bt v127 v131 v18 v19 w) {w' : World} (hb : Below w.heap.size w w') : WinReg wA e ed ep n1 ds E' zp pc zd dc b3 b7 b9 ba bd bs bt v127 v131 v18 v19 w' where
  below := h.below.trans (hb.mono h.below.size)
  ord := h.ord
  ord2 := h.ord2
  ords := h.ords
  ordt := h.ordt
  one k1 k2 := by
    obtain ⟨oq, cq, qs, a1, a2, a3, a4⟩ := h.one k1 k2
    exact ⟨oq, cq, qs, a1, a2, a3, a4.below hb (Nat.le_refl _)⟩
  two k1 k2 := by
    obtain ⟨o, c, ms, a1, a2, a3⟩ := h.two k1 k2
    exact ⟨o, c, ms, a1, a2.below hb (Nat.le_refl _), a3⟩
  pa k := by
    obtain ⟨g, a1, a2, a3⟩ := h.pa k
    exact ⟨g, a1, a2, (hb.block g (heap_lt a3)).trans a3⟩
  pd k := by
    obtain ⟨g, a1, a2, a3⟩ := h.pd k
    exact ⟨g, a1, a2, (hb.block g (heap_lt a3)).trans a3⟩
theorem WinReg.copies (h : WinReg wA e ed ep n1 ds E' zp pc zd dc false b7 b9 ba bd bs bt v127 v131 v18 v19 w) {w' : World} {oq : Option Addr} {cq : Nat} {qs : List PEv} (hb : Below w.heap.size w w') (h1 : qs.length = n1) (h2 : qs.map (·.2) = ds) (h3 : Acc w.heap.size e ed w' (.slice oq n1 cq) qs) :
    WinReg wA e ed ep n1 ds E' zp pc zd dc true b7 b9 ba bd bs bt (.slice oq n1 cq) v131 v18 v19 w' := by
  have k := h.grow hb
  exact { below := k.below, ord := fun _ => rfl, ord2 := k.ord2, ords := k.ords, ordt := k.ordt, one := fun _ _ => ⟨oq, cq, qs, rfl, h1, h2, h3.lower h.below.size⟩, two := k.two, pa := k.pa, pd := k.pd }
theorem own_tag {v : Value} {qs : List PEv} {B g : Nat} {c : Array Value} {t : Nat} (ho : Owns pcells 14 B e w v qs) (hg : w.heap[g]? = some (.cells c t (0, 0))) (ht : t ≠ e) : some g ≠ v.ownBlock := by
  intro hv
  rcases ho.2 with ⟨hn, _⟩ | ⟨g', cap', cur, rfl, _, hh, _⟩
  · rw [hn] at hv; simp [Value.ownBlock] at hv
  · simp only [Value.ownBlock, Option.some.injEq] at hv
    subst hv
    rw [hg] at hh
    simp only [Option.some.injEq, Obj.cells.injEq] at hh
    exact ht hh.2.1
theorem WinReg.app (h : WinReg wA e ed ep n1 ds E' zp pc zd dc true false b9 ba bd bs bt v127 v131 v18 v19 w) {w' : World} {v' : Value} {oq : Option Addr} {cq : Nat} {qs ts : List PEv} (ha : Acc wA.heap.size e ed w (.slice oq n1 cq) qs) (hE : RemsAt wA ts) (hm : (qs ++ ts).map (·.2) = E') (he1 : ep ≠ e) (he2 : ed ≠ e)
    (ho : Owns pcells 14 wA.heap.size e w' v' (qs ++ ts)) (hg : w.grownBy w' (Value.slice oq n1 cq).ownBlock) : WinReg wA e ed ep n1 ds E' zp pc zd dc true true b9 ba bd bs bt v127 v' v18 v19 w' := by
  have hb : Below wA.heap.size wA w' := h.below.grown hg h.below.size fun k hk => (ha.row.lt k hk).1
  obtain ⟨o, c, hv⟩ := slAt_slice ho.at
  subst hv
  exact {
    below := hb
    ord := fun _ => rfl
    ord2 := fun _ => rfl
    ords := h.ords
    ordt := h.ordt
    one := fun _ k => nomatch k
    two := fun _ _ => ⟨o, c, qs ++ ts, rfl, evs_more ho.at (fun q hq => ((ha.rem q hq).1.kept hg (ha.rem q hq).2).at) (hE.below hb (Nat.le_refl _)), hm⟩
    pa := fun k => by
      obtain ⟨g, a1, a2, a3⟩ := h.pa k
      exact ⟨g, a1, a2, (hg.block g (heap_lt a3) (own_tag ha.row a3 he1)).trans a3⟩
    pd := fun k => by
      obtain ⟨g, a1, a2, a3⟩ := h.pd k
      exact ⟨g, a1, a2, (hg.block g (heap_lt a3) (own_tag ha.row a3 he2)).trans a3⟩ }
theorem WinReg.win (h : WinReg wA e ed ep n1 ds E' zp pc zd dc b3 true b9 ba bd bs bt v127 v131 v18 v19 w) {w' : World} (hb : Below w.heap.size w w') : WinReg wA e ed ep n1 ds E' zp pc zd dc b3 true true ba bd bs bt v127 v131 v18 v19 w' := by
  have k := h.grow hb
  exact { below := k.below, ord := k.ord, ord2 := fun _ => rfl, ords := k.ords, ordt := k.ordt, one := k.one, two := fun _ k => (nomatch k), pa := k.pa, pd := k.pd }
theorem WinReg.mkA (h : WinReg wA e ed ep n1 ds E' zp pc zd dc b3 b7 b9 false bd bs bt v127 v131 v18 v19 w) : WinReg wA e ed ep n1 ds E' zp pc zd dc b3 b7 b9 true bd bs bt v127 v131 (.pointer (some ⟨w.heap.size, 0, none⟩)) v19 (w.alloc (.cells zp ep)) := by
  have k := h.grow ((Below.refl _ _).alloc (Nat.le_refl _) (.cells zp ep))
  have hs : bs = false := by
    cases hb : bs with
    | false => rfl
    | true => exact absurd (h.ords hb) (by simp)
  subst hs
  exact { below := k.below, ord := k.ord, ord2 := k.ord2, ords := fun k => (nomatch k), ordt := k.ordt, one := k.one, two := k.two, pa := fun _ => ⟨_, rfl, h.below.size, heap_alloc_new w _⟩, pd := k.pd }
theorem WinReg.mkD (h : WinReg wA e ed ep n1 ds E' zp pc zd dc b3 b7 b9 ba false bs bt v127 v131 v18 v19 w) : WinReg wA e ed ep n1 ds E' zp pc zd dc b3 b7 b9 ba true bs bt v127 v131 v18 (.pointer (some ⟨w.heap.size, 0, none⟩)) (w.alloc (.cells zd ed)) := by
  have k := h.grow ((Below.refl _ _).alloc (Nat.le_refl _) (.cells zd ed))
  have hs : bt = false := by
    cases hb : bt with
    | false => rfl
    | true => exact absurd (h.ordt hb) (by simp)
  subst hs
  exact { below := k.below, ord := k.ord, ord2 := k.ord2, ords := k.ords, ordt := fun k => (nomatch k), one := k.one, two := k.two, pa := k.pa, pd := fun _ => ⟨_, rfl, h.below.size, heap_alloc_new w _⟩ }
theorem WinReg.setA (h : WinReg wA e ed ep n1 ds E' zp pc zd dc b3 true true true bd false bt v127 v131 v18 v19 w) (hne : ep ≠ ed) {g : Nat} (hv : v18 = .pointer (some ⟨g, 0, none⟩)) (hg : wA.heap.size ≤ g) (hh : w.heap[g]? = some (.cells zp ep (0, 0))) : WinReg wA e ed ep n1 ds E' zp pc zd dc b3 true true true bd true bt v127 v131 v18 v19 (w.setRow g pc) where
  below := below_setRow h.below hg pc
  ord := h.ord
  ord2 := h.ord2
  ords _ := rfl
  ordt := h.ordt
  one _ k := nomatch k
  two _ k := nomatch k
  pa _ := ⟨g, hv, hg, setRow_heap w g _ pc ep (0, 0) hh⟩
  pd k := by
    obtain ⟨g2, a1, a2, a3⟩ := h.pd k
    refine ⟨g2, a1, a2, (setRow_other w g g2 pc ?_).trans a3⟩
    rintro rfl
    rw [hh] at a3
    simp only [Option.some.injEq, Obj.cells.injEq] at a3
    exact hne a3.2.1
theorem WinReg.setD (h : WinReg wA e ed ep n1 ds E' zp pc zd dc b3 true true ba true bs false v127 v131 v18 v19 w) (hne : ep ≠ ed) {g : Nat} (hv : v19 = .pointer (some ⟨g, 0, none⟩)) (hg : wA.heap.size ≤ g) (hh : w.heap[g]? = some (.cells zd ed (0, 0))) : WinReg wA e ed ep n1 ds E' zp pc zd dc b3 true true ba true bs true v127 v131 v18 v19 (w.setRow g dc) where
  below := below_setRow h.below hg dc
  ord := h.ord
  ord2 := h.ord2
  ords := h.ords
  ordt _ := rfl
  one _ k := nomatch k
  two _ k := nomatch k
  pd _ := ⟨g, hv, hg, setRow_heap w g _ dc ed (0, 0) hh⟩
  pa k := by
    obtain ⟨g2, a1, a2, a3⟩ := h.pa k
    refine ⟨g2, a1, a2, (setRow_other w g g2 dc ?_).trans a3⟩
    rintro rfl
    rw [hh] at a3
    simp only [Option.some.injEq, Obj.cells.injEq] at a3
    exact hne a3.2.1.symm
end
end Go.Proofs.Ytfbbafmklahmmaa
