/-
  What an append to a new empty slice of events, and another to it, leave: laws on worlds for regions that draw their order.
  The steps of a region that is walked by an invariant: an operation that yields a value, one that yields nothing, a law's step, a call.
  Two appends to a new slice of events, in whatever order their region's operations come: what is known at each point.
  'q, x, is := Winner(append(Copies(..), ..), ..)', in whatever order the region's operations come: what is known at each point.
-/
import Derived.Test.YtjgbflclhkeibaaGreatMRefLater
import Derived.Test.YtjgbflclhkeibaaGreatMAcc
namespace Go.Proofs.YtjgbflclhkeibaaGreat
open Go.RowKit
set_option linter.unusedVariables false
theorem owns_made_at {e B : Nat} (W : World) (n : Nat) (hn : W.heap.size = n) (hB : B ≤ n) : Owns pcells 14 B e (W.alloc (.cells #[] e)) (.slice (some ⟨n, 0, none⟩) 0 0) [] := by
  subst hn
  exact World.ownsRow_made W #[] 0 hB (by decide) rfl
section
variable {wA : World} {e : Nat}
theorem own50a : Owns pcells 14 wA.heap.size e (wA.drew.alloc (.cells #[] e)) (.slice (some ⟨wA.heap.size, 0, none⟩) 0 0) [] := owns_made_at _ _ rfl (Nat.le_refl _)
theorem own50b (lit : Obj) : Owns pcells 14 wA.heap.size e ((wA.drew.alloc (.cells #[] e)).alloc lit) (.slice (some ⟨wA.heap.size, 0, none⟩) 0 0) [] := own50a.below ((Below.refl _ _).alloc (Nat.le_refl _) _) (Nat.le_refl _)
theorem own50c (lit : Obj) : Owns pcells 14 wA.heap.size e ((wA.drew.alloc lit).alloc (.cells #[] e)) (.slice (some ⟨wA.heap.size + 1, 0, none⟩) 0 0) [] := owns_made_at _ _ (by simp) (by omega)
theorem bA1 (lit : Obj) : Below wA.heap.size wA (wA.drew.alloc lit) := (below_drew (Below.refl _ _)).alloc (Nat.le_refl _) _
theorem bA2 (lit lit2 : Obj) : Below wA.heap.size wA ((wA.drew.alloc lit).alloc lit2) := (bA1 lit).alloc (by simp) _
theorem sl53b {w2 : World} {cs : Array Value} {ms : List PEv} {n : Nat} (hg : ((wA.drew.alloc (.cells #[] e)).alloc (.cells cs e)).grownBy w2 (Value.slice (some ⟨wA.heap.size, 0, none⟩) 0 0).ownBlock) (hc : cs.toList = ms.flatMap pcells) (hn : n = ms.length) : SlAt pcells w2 (.slice (some ⟨wA.heap.size + 1, 0, none⟩) n n) ms := by
  have h := slAt_new (enc := pcells) (wA.drew.alloc (.cells #[] e)) cs e n n (0, 0) ms hc hn (Nat.le_refl _)
  simp only [World.size_alloc, World.size_drew] at h
  exact h.grown pcells_len (by decide) hg (.inr (by simp [Value.ownBlock]))
theorem sl53c {w2 : World} {cs : Array Value} {ms : List PEv} {n : Nat} (hg : ((wA.drew.alloc (.cells cs e)).alloc (.cells #[] e)).grownBy w2 (Value.slice (some ⟨wA.heap.size + 1, 0, none⟩) 0 0).ownBlock) (hc : cs.toList = ms.flatMap pcells) (hn : n = ms.length) : SlAt pcells w2 (.slice (some ⟨wA.heap.size, 0, none⟩) n n) ms := by
  have h := slAt_new (enc := pcells) wA.drew cs e n n (0, 0) ms hc hn (Nat.le_refl _)
  simp only [World.size_drew] at h
  have h2 := h.below (B := (wA.drew.alloc (.cells cs e)).heap.size) pcells_len (by decide) ((Below.refl _ _).alloc (Nat.le_refl _) (.cells #[] e)) (Nat.le_refl _)
  exact h2.grown pcells_len (by decide) hg (.inr (by simp [Value.ownBlock]))
theorem b50 {w1 w2 : World} {k : Nat} (hb : Below wA.heap.size wA w1) (hg : w1.grownBy w2 (Value.slice (some ⟨k, 0, none⟩) 0 0).ownBlock) (hk : wA.heap.size ≤ k) : Below wA.heap.size wA w2 :=
  hb.grown hg hb.size fun q hq => by simp [Value.ownBlock] at hq; omega
theorem cells_kept {w2 : World} {n : Nat} {cs : Array Value} (hb : Below wA.heap.size wA w2) (hn : n < wA.heap.size) (hA : ∀ o, wA.cell? ⟨n, o, none⟩ = cs[o]?) : ∀ o, w2.cell? ⟨n, o, none⟩ = cs[o]? := fun o => ((bcell hb).1 _ _ hn).trans (hA o)
theorem cells_drew {n : Nat} {cs : Array Value} (hA : ∀ o, wA.cell? ⟨n, o, none⟩ = cs[o]?) : ∀ o, wA.drew.cell? ⟨n, o, none⟩ = cs[o]? := hA
theorem evs_more {w : World} {v : Value} {ps ms : List PEv} (h : SlAt pcells w v (ps ++ ms)) (hr : RemsAt w ps) (hm : RemsAt w ms) : EvsAt w v (ps ++ ms) := ⟨h, fun p hp => by
  rcases List.mem_append.1 hp with hp | hp
  · exact hr p hp
  · exact hm p hp⟩
end
end Go.Proofs.YtjgbflclhkeibaaGreat
namespace Go.Proofs.YtjgbflclhkeibaaGreat
open Go.RowKit
set_option linter.unusedVariables false
section
variable {P : Program} {ops : Array Oper} {Q : Exit → Act → World → Prop}
/-- one operation that yields a value -/
theorem step_val {i : Nat} {o : Oper} {d : Nat} {v : Value} {a : Act} {w w' : World} {K : Act → World → Prop} (hi : ops[i]? = some o) (hd : o.dst = some d) (hg : o.guard = none)
    (hv : (execOp a.eval o).run P w = .ok (.value v) w') (h : K (a.put (some d) v) w') : wpOp P ops Q i K a w := by
  unfold wpOp
  rw [hi]
  have hw : Region.wanted o (yielded ops a.tmps) = true := by simp [Region.wanted, hg]
  simp only [hw, if_true]
  refine .inl ?_
  unfold Oper.wp
  rw [hv, hd.symm] at *
  exact h
/-- one that yields nothing: a store -/
theorem step_none {i : Nat} {o : Oper} {v : Value} {a : Act} {w w' : World} {K : Act → World → Prop} (hi : ops[i]? = some o) (hd : o.dst = none) (hg : o.guard = none)
    (hv : (execOp a.eval o).run P w = .ok (.value v) w') (h : K a w') : wpOp P ops Q i K a w := by
  unfold wpOp
  rw [hi]
  have hw : Region.wanted o (yielded ops a.tmps) = true := by simp [Region.wanted, hg]
  simp only [hw, if_true]
  refine .inl ?_
  unfold Oper.wp
  rw [hv]
  simp only [Oper.upon, hd]
  exact h
/-- one by a law in the shape of a region's step -/
theorem step_law {i : Nat} {o : Oper} {a : Act} {w : World} {K : Act → World → Prop} (hi : ops[i]? = some o) (hg : o.guard = none)
    (h : if Region.wanted o (yielded ops a.tmps) = true then Oper.wp P o a w K Q else True) : wpOp P ops Q i K a w := by
  unfold wpOp
  rw [hi]
  have hw : Region.wanted o (yielded ops a.tmps) = true := by simp [Region.wanted, hg]
  rw [if_pos hw] at h
  simp only [hw, if_true]
  exact .inl h
/-- a call of a function, by its contract -/
theorem step_call {i : Nat} {o : Oper} {d : Nat} {a : Act} {w w1 : World} {f : FuncId} {args : Array Value} {K : Act → World → Prop} (hi : ops[i]? = some o) (hd : o.dst = some d) (hg : o.guard = none)
    (hv : (execOp a.eval o).run P w = .ok (.enter f args) w1) {post : Ending → World → Prop} (hc : Calls P f args w1 post) (h : ∀ e w2, post e w2 → ∃ v, e = .returned v ∧ K (a.put (some d) v) w2) : wpOp P ops Q i K a w := by
  unfold wpOp
  rw [hi]
  have hw : Region.wanted o (yielded ops a.tmps) = true := by simp [Region.wanted, hg]
  simp only [hw, if_true]
  refine .inl ?_
  unfold Oper.wp
  rw [hv]
  simp only [Oper.upon, hd]
  refine hc.mono fun e w2 hp => ?_
  obtain ⟨v, rfl, hK⟩ := h e w2 hp
  exact hK
/-- an append to a row of one's own -/
theorem step_app_op {α : Type} (enc : α → List Value) (k : Nat) (hk : ∀ x, (enc x).length = k) (k0 : 0 < k) (h1 : ∀ x, ∀ v ∈ enc x, v.oneCell' = true)
    {i d : Nat} {o : Oper} {a : Act} {w : World} {K : Act → World → Prop} (hi : ops[i]? = some o) (hd : o.dst = some d) (hgd : o.guard = none) (s x : Operand) (t : TypeId)
    (ho : o.op = .call { callee := .builtin .append, args := #[s, x], argTypes := #[t, t] })
    (base : Nat) (e : TypeId) (z : Value) (bytes : Nat) (ht : P.underlying t = some (.slice e)) (hinfo : (P.info? e).map (fun i => (i.zero, i.size, i.bytes)) = some (some z, k, bytes)) (hzs : z.cells.size = k)
    (v : Value) (l : List α) (hs : a.eval s = v) (hown : Owns enc k base e w v l)
    (vx : Value) (ms : List α) (hx : a.eval x = vx) (hxs : SlAt enc w vx ms)
    (hbytes : (l.length + ms.length) * bytes ≤ 140737488355328) (h63 : l.length + ms.length ≤ 9223372036854775807) (hbase : base ≤ w.heap.size)
    (h : ∀ v' w', Owns enc k base e w' v' (l ++ ms) → w.grownBy w' v.ownBlock → (v'.ownBlock = v.ownBlock ∨ ∀ g, v'.ownBlock = some g → w.heap.size ≤ g) → K (a.put (some d) v') w') : wpOp P ops Q i K a w :=
  step_law hi hgd (step_app enc k hk k0 h1 w hgd s x t ho base e z bytes ht hinfo hzs v l hs hown vx ms hx hxs hbytes h63 hbase fun v' w' a1 a2 a3 => by rw [hd]; exact h v' w' a1 a2 a3)
/-- what binds in 'after' points backwards -/
def afterOk (md : Region.Mode) (ops : Array Oper) : Bool := (List.range ops.size).all fun i => match ops[i]? with
  | some o => o.after.toList.all fun e => !Region.binds md e || Nat.blt e.on i
  | none => true
theorem all_listed_b {md : Region.Mode} {L : Array Bool} {n : Nat} (hs : L.size = n) (hn : ops.size = n) (hb : afterOk md ops = true) (hr : Region.ready md ops L = []) : ∀ i, i < n → L.getD i false = true := by
  subst hn
  intro i
  induction i using Nat.strongRecOn with
  | ind i ih =>
    intro hi
    cases hL : L.getD i false with
    | true => rfl
    | false =>
      exfalso
      have hm : i ∈ Region.ready md ops L := by
        refine mem_ready.2 ⟨?_, ops[i], Array.getElem?_eq_getElem hi, fun e he hbd => ?_⟩
        · have hi' : i < L.size := by omega
          simp [hi'] at hL ⊢
          exact hL
        · have h := List.all_eq_true.1 hb i (List.mem_range.2 hi)
          rw [Array.getElem?_eq_getElem hi] at h
          have h2 := List.all_eq_true.1 h e (Array.mem_toList_iff.2 he)
          rw [hbd, Bool.not_true, Bool.false_or, Nat.blt_eq] at h2
          exact ih e.on h2 (by omega)
      rw [hr] at hm
      cases hm
end
end Go.Proofs.YtjgbflclhkeibaaGreat
namespace Go.Proofs.YtjgbflclhkeibaaGreat
open Go.RowKit
set_option linter.unusedVariables false
structure TwoApp (wA : World) (e : Nat) (ps mo : List PEv) (bn b1 bl b2 bc : Bool) (vn v1 vl v2 : Value) (w : World) : Prop where
  below : Below wA.heap.size wA w
  ord : b2 = true → b1 = true
  new : bn = true → b1 = false → Owns pcells 14 wA.heap.size e w vn []
  one : b1 = true → b2 = false → Owns pcells 14 wA.heap.size e w v1 ps
  lit : bl = true → b2 = false → SlAt pcells w vl mo
  apart : bn = true → b1 = false → bl = true → b2 = false → vl.ownBlock ≠ vn.ownBlock
  two : b2 = true → bc = false → EvsAt w v2 (ps ++ mo)
section
variable {wA w : World} {e : Nat} {ps mo : List PEv} {bn b1 bl b2 bc : Bool} {vn v1 vl v2 : Value}
theorem TwoApp.start (vn v1 vl v2 : Value) : TwoApp wA e ps mo false false false false false vn v1 vl v2 wA.drew :=
  ⟨below_drew (Below.refl _ _), fun h => (nomatch h), fun h => (nomatch h), fun h => (nomatch h), fun h => (nomatch h), fun h => (nomatch h), fun h => (nomatch h)⟩
theorem TwoApp.mkNew (h : TwoApp wA e ps mo false b1 bl b2 bc vn v1 vl v2 w) (hm : mo ≠ []) : TwoApp wA e ps mo true b1 bl b2 bc (.slice (some ⟨w.heap.size, 0, none⟩) 0 0) v1 vl v2 (w.alloc (.cells #[] e)) where
  below := h.below.alloc h.below.size _
  ord := h.ord
  new _ _ := owns_made_at w _ rfl h.below.size
  one k1 k2 := (h.one k1 k2).below ((Below.refl _ _).alloc (Nat.le_refl _) _) (Nat.le_refl _)
  lit k1 k2 := (h.lit k1 k2).below pcells_len (by decide) ((Below.refl _ _).alloc (Nat.le_refl _) _) (Nat.le_refl _)
  apart _ _ k3 k4 := fun he => by
    have := (h.lit k3 k4).lt pcells_len (by decide) hm w.heap.size (he.trans rfl)
    omega
  two k1 k2 := (h.two k1 k2).below ((Below.refl _ _).alloc (Nat.le_refl _) _) (Nat.le_refl _)
theorem TwoApp.mkLit (h : TwoApp wA e ps mo bn b1 false b2 bc vn v1 vl v2 w) {cs : Array Value} {n : Nat} (hc : cs.toList = mo.flatMap pcells) (hn : n = mo.length) : TwoApp wA e ps mo bn b1 true b2 bc vn v1 (.slice (some ⟨w.heap.size, 0, none⟩) n n) v2 (w.alloc (.cells cs e)) where
  below := h.below.alloc h.below.size _
  ord := h.ord
  new k1 k2 := (h.new k1 k2).below ((Below.refl _ _).alloc (Nat.le_refl _) _) (Nat.le_refl _)
  one k1 k2 := (h.one k1 k2).below ((Below.refl _ _).alloc (Nat.le_refl _) _) (Nat.le_refl _)
  lit _ _ := slAt_new w cs e n n (0, 0) mo hc hn (Nat.le_refl _)
  apart k1 k2 _ _ := fun he => by
    have := (h.new k1 k2).lt w.heap.size (he.symm.trans rfl)
    omega
  two k1 k2 := (h.two k1 k2).below ((Below.refl _ _).alloc (Nat.le_refl _) _) (Nat.le_refl _)
theorem TwoApp.app1 (h : TwoApp wA e ps mo bn false bl b2 bc vn v1 vl v2 w) {w' : World} {v' : Value} (ho : Owns pcells 14 wA.heap.size e w' v' ([] ++ ps)) (hg : w.grownBy w' vn.ownBlock) (hn : bn = true) : TwoApp wA e ps mo bn true bl b2 bc vn v' vl v2 w' := by
  have hb2 : b2 = false := by
    cases hb : b2 with
    | false => rfl
    | true => exact absurd (h.ord hb) (by simp)
  subst hb2
  exact {
    below := h.below.grown hg h.below.size fun k hk => ((h.new hn rfl).lt k hk).1
    ord := fun k => nomatch k
    new := fun _ k => nomatch k
    one := fun _ _ => ho
    lit := fun k1 k2 => (h.lit k1 k2).grown pcells_len (by decide) hg (.inr (h.apart hn rfl k1 k2))
    apart := fun _ k => nomatch k
    two := fun k => nomatch k }
theorem TwoApp.app2 (h : TwoApp wA e ps mo bn true bl false bc vn v1 vl v2 w) {w' : World} {v' : Value} (hE : RemsAt wA ps) (hM : ∀ W, RemsAt W mo) (ho : Owns pcells 14 wA.heap.size e w' v' (ps ++ mo)) (hg : w.grownBy w' v1.ownBlock) : TwoApp wA e ps mo bn true bl true bc vn v1 vl v' w' := by
  have hb : Below wA.heap.size wA w' := h.below.grown hg h.below.size fun k hk => ((h.one rfl rfl).lt k hk).1
  exact {
    below := hb
    ord := fun _ => rfl
    new := fun _ k => nomatch k
    one := fun _ k => nomatch k
    lit := fun _ k => nomatch k
    apart := fun _ k => nomatch k
    two := fun _ _ => evs_more ho.at (hE.below hb (Nat.le_refl _)) (hM _) }
theorem TwoApp.call (h : TwoApp wA e ps mo bn true bl true bc vn v1 vl v2 w) {w' : World} (hb : Below w.heap.size w w') : TwoApp wA e ps mo bn true bl true true vn v1 vl v2 w' where
  below := h.below.trans (hb.mono h.below.size)
  ord := h.ord
  new _ k := nomatch k
  one _ k := nomatch k
  lit _ k := nomatch k
  apart _ k := nomatch k
  two _ k := nomatch k
end
theorem ready_dep {md : Region.Mode} {ops : Array Oper} {L : Array Bool} {i : Nat} {o : Oper} {e : Edge} (h : i ∈ Region.ready md ops L) (ho : ops[i]? = some o) (he : e ∈ o.after) (hb : Region.binds md e = true) : L.getD e.on false = true := by
  obtain ⟨_, o', ho', ha⟩ := mem_ready.1 h
  obtain rfl : o = o' := Option.some.inj (ho.symm.trans ho')
  exact ha e he hb
theorem getD_unlisted {L : Array Bool} {i : Nat} (h : L.getD i true = false) : L.getD i false = false := by
  rcases Nat.lt_or_ge i L.size with h' | h'
  · simp [Array.getD_eq_getD_getElem?, h'] at h ⊢
    exact h
  · simp [Array.getD_eq_getD_getElem?, Array.getElem?_eq_none h'] at h
theorem set_size {L : Array Bool} {i n : Nat} (h : L.size = n) : (L.setIfInBounds i true).size = n := by simpa using h
theorem getD_set_at {L : Array Bool} {i n : Nat} (h : L.size = n) (hi : i < n) : (L.setIfInBounds i true).getD i false = true := getD_set_same (by omega)
end Go.Proofs.YtjgbflclhkeibaaGreat
namespace Go.Proofs.YtjgbflclhkeibaaGreat
open Go.RowKit
set_option linter.unusedVariables false
section
variable {P : Program} {ops : Array Oper} {Q : Exit → Act → World → Prop}
/-- a store of a whole struct in its own block -/
theorem step_store {i : Nat} {o : Oper} {a : Act} {w : World} {K : Act → World → Prop} (hi : ops[i]? = some o) (hd : o.dst = none) (hgd : o.guard = none) (t : TypeId) (ax vx : Operand) (ho : o.op = .store t ax vx)
    (g : Nat) (c c' : Array Value) (hax : a.eval ax = .pointer (some ⟨g, 0, none⟩)) (hvx : a.eval vx = .agg c') (hg : w.heap[g]? = some (.cells c t (0, 0)))
    (hinfo : (P.info? t).map (·.size) = some c'.size) (hs : c.size = c'.size) (h1 : c'.all (·.oneCell') = true) (h : K a (w.setRow g c')) : wpOp P ops Q i K a w := by
  unfold wpOp
  rw [hi]
  have hw : Region.wanted o (yielded ops a.tmps) = true := by simp [Region.wanted, hgd]
  simp only [hw, if_true]
  refine .inl ?_
  have hst := run_storeVar_row (P := P) w g t t c c' hg hinfo hs h1
  unfold Oper.wp execOp
  simp only [ho, hax, hvx, Instr.storeAt, Instr.sureAddr, Sem.run_bind, Sem.run_pure, Result.andThen_ok, hst, Oper.upon, hd, Act.put]
  exact h
end
theorem below_setRow {B : Nat} {a w : World} (h : Below B a w) {g : Nat} (hg : B ≤ g) (cs : Array Value) : Below B a (w.setRow g cs) :=
  h.trans ⟨rfl, rfl, rfl, by simp [World.setRow], fun k hk => setRow_other w g k cs (by omega)⟩
theorem heap_lt {w : World} {g : Nat} {x : Obj} (h : w.heap[g]? = some x) : g < w.heap.size := (Array.getElem?_eq_some_iff.1 h).1
structure WinReg (wA : World) (e ed ep n1 : Nat) (ds E' : List Ev) (zp pc zd dc : Array Value) (b3 b7 b9 ba bd bs bt : Bool) (v127 v131 v18 v19 : Value) (w : World) : Prop where
  below : Below wA.heap.size wA w
  ord : b7 = true → b3 = true
  ord2 : b9 = true → b7 = true
  ords : bs = true → ba = true
  ordt : bt = true → bd = true
  one : b3 = true → b7 = false → ∃ oq cq qs, v127 = .slice oq n1 cq ∧ qs.length = n1 ∧ qs.map (·.2) = ds ∧ Acc wA.heap.size e ed w (.slice oq n1 cq) qs
  two : b7 = true → b9 = false → ∃ o c ms, v131 = .slice o ms.length c ∧ EvsAt w (.slice o ms.length c) ms ∧ ms.map (·.2) = E'
  pa : ba = true → ∃ g, v18 = .pointer (some ⟨g, 0, none⟩) ∧ wA.heap.size ≤ g ∧ w.heap[g]? = some (.cells (if bs then pc else zp) ep (0, 0))
  pd : bd = true → ∃ g, v19 = .pointer (some ⟨g, 0, none⟩) ∧ wA.heap.size ≤ g ∧ w.heap[g]? = some (.cells (if bt then dc else zd) ed (0, 0))
section
variable {wA w : World} {e ed ep n1 : Nat} {ds E' : List Ev} {zp pc zd dc : Array Value} {b3 b7 b9 ba bd bs bt : Bool} {v127 v131 v18 v19 : Value}
theorem WinReg.start (v127 v131 v18 v19 : Value) : WinReg wA e ed ep n1 ds E' zp pc zd dc false false false false false false false v127 v131 v18 v19 wA.drew :=
  ⟨below_drew (Below.refl _ _), fun h => (nomatch h), fun h => (nomatch h), fun h => (nomatch h), fun h => (nomatch h), fun h => (nomatch h), fun h => (nomatch h), fun h => (nomatch h), fun h => (nomatch h)⟩
/-- growth alone -/
theorem WinReg.grow (h : WinReg wA e ed ep n1 ds E' zp pc zd dc b3 b7 b9 ba bd bs bt v127 v131 v18 v19 w) {w' : World} (hb : Below w.heap.size w w') : WinReg wA e ed ep n1 ds E' zp pc zd dc b3 b7 b9 ba bd bs bt v127 v131 v18 v19 w' where
  below := h.below.trans (hb.mono h.below.size)
  ord := h.ord
  ord2 := h.ord2
  ords := h.ords
  ordt := h.ordt
  one k1 k2 := by
    obtain ⟨oq, cq, qs, a1, a2, a3, a4⟩ := h.one k1 k2
    exact ⟨oq, cq, qs, a1, a2, a3, a4.below hb (Nat.le_refl _)⟩
  two k1 k2 := by
    obtain ⟨o, c, ms, a1, a2, a3⟩ := h.two k1 k2
    exact ⟨o, c, ms, a1, a2.below hb (Nat.le_refl _), a3⟩
  pa k := by
    obtain ⟨g, a1, a2, a3⟩ := h.pa k
    exact ⟨g, a1, a2, (hb.block g (heap_lt a3)).trans a3⟩
  pd k := by
    obtain ⟨g, a1, a2, a3⟩ := h.pd k
    exact ⟨g, a1, a2, (hb.block g (heap_lt a3)).trans a3⟩
theorem WinReg.copies (h : WinReg wA e ed ep n1 ds E' zp pc zd dc false b7 b9 ba bd bs bt v127 v131 v18 v19 w) {w' : World} {oq : Option Addr} {cq : Nat} {qs : List PEv} (hb : Below w.heap.size w w') (h1 : qs.length = n1) (h2 : qs.map (·.2) = ds) (h3 : Acc w.heap.size e ed w' (.slice oq n1 cq) qs) :
    WinReg wA e ed ep n1 ds E' zp pc zd dc true b7 b9 ba bd bs bt (.slice oq n1 cq) v131 v18 v19 w' := by
  have k := h.grow hb
  exact { below := k.below, ord := fun _ => rfl, ord2 := k.ord2, ords := k.ords, ordt := k.ordt, one := fun _ _ => ⟨oq, cq, qs, rfl, h1, h2, h3.lower h.below.size⟩, two := k.two, pa := k.pa, pd := k.pd }
theorem own_tag {v : Value} {qs : List PEv} {B g : Nat} {c : Array Value} {t : Nat} (ho : Owns pcells 14 B e w v qs) (hg : w.heap[g]? = some (.cells c t (0, 0))) (ht : t ≠ e) : some g ≠ v.ownBlock := by
  intro hv
  rcases ho.2 with ⟨hn, _⟩ | ⟨g', cap', cur, rfl, _, hh, _⟩
  · rw [hn] at hv; simp [Value.ownBlock] at hv
  · simp only [Value.ownBlock, Option.some.injEq] at hv
    subst hv
    rw [hg] at hh
    simp only [Option.some.injEq, Obj.cells.injEq] at hh
    exact ht hh.2.1
theorem WinReg.app (h : WinReg wA e ed ep n1 ds E' zp pc zd dc true false b9 ba bd bs bt v127 v131 v18 v19 w) {w' : World} {v' : Value} {oq : Option Addr} {cq : Nat} {qs ts : List PEv} (ha : Acc wA.heap.size e ed w (.slice oq n1 cq) qs) (hE : RemsAt wA ts) (hm : (qs ++ ts).map (·.2) = E') (he1 : ep ≠ e) (he2 : ed ≠ e)
    (ho : Owns pcells 14 wA.heap.size e w' v' (qs ++ ts)) (hg : w.grownBy w' (Value.slice oq n1 cq).ownBlock) : WinReg wA e ed ep n1 ds E' zp pc zd dc true true b9 ba bd bs bt v127 v' v18 v19 w' := by
  have hb : Below wA.heap.size wA w' := h.below.grown hg h.below.size fun k hk => (ha.row.lt k hk).1
  obtain ⟨o, c, hv⟩ := slAt_slice ho.at
  subst hv
  exact {
    below := hb
    ord := fun _ => rfl
    ord2 := fun _ => rfl
    ords := h.ords
    ordt := h.ordt
    one := fun _ k => nomatch k
    two := fun _ _ => ⟨o, c, qs ++ ts, rfl, evs_more ho.at (fun q hq => ((ha.rem q hq).1.kept hg (ha.rem q hq).2).at) (hE.below hb (Nat.le_refl _)), hm⟩
    pa := fun k => by
      obtain ⟨g, a1, a2, a3⟩ := h.pa k
      exact ⟨g, a1, a2, (hg.block g (heap_lt a3) (own_tag ha.row a3 he1)).trans a3⟩
    pd := fun k => by
      obtain ⟨g, a1, a2, a3⟩ := h.pd k
      exact ⟨g, a1, a2, (hg.block g (heap_lt a3) (own_tag ha.row a3 he2)).trans a3⟩ }
theorem WinReg.win (h : WinReg wA e ed ep n1 ds E' zp pc zd dc b3 true b9 ba bd bs bt v127 v131 v18 v19 w) {w' : World} (hb : Below w.heap.size w w') : WinReg wA e ed ep n1 ds E' zp pc zd dc b3 true true ba bd bs bt v127 v131 v18 v19 w' := by
  have k := h.grow hb
  exact { below := k.below, ord := k.ord, ord2 := fun _ => rfl, ords := k.ords, ordt := k.ordt, one := k.one, two := fun _ k => (nomatch k), pa := k.pa, pd := k.pd }
theorem WinReg.mkA (h : WinReg wA e ed ep n1 ds E' zp pc zd dc b3 b7 b9 false bd bs bt v127 v131 v18 v19 w) : WinReg wA e ed ep n1 ds E' zp pc zd dc b3 b7 b9 true bd bs bt v127 v131 (.pointer (some ⟨w.heap.size, 0, none⟩)) v19 (w.alloc (.cells zp ep)) := by
  have k := h.grow ((Below.refl _ _).alloc (Nat.le_refl _) (.cells zp ep))
  have hs : bs = false := by
    cases hb : bs with
    | false => rfl
    | true => exact absurd (h.ords hb) (by simp)
  subst hs
  exact { below := k.below, ord := k.ord, ord2 := k.ord2, ords := fun k => (nomatch k), ordt := k.ordt, one := k.one, two := k.two, pa := fun _ => ⟨_, rfl, h.below.size, heap_alloc_new w _⟩, pd := k.pd }
theorem WinReg.mkD (h : WinReg wA e ed ep n1 ds E' zp pc zd dc b3 b7 b9 ba false bs bt v127 v131 v18 v19 w) : WinReg wA e ed ep n1 ds E' zp pc zd dc b3 b7 b9 ba true bs bt v127 v131 v18 (.pointer (some ⟨w.heap.size, 0, none⟩)) (w.alloc (.cells zd ed)) := by
  have k := h.grow ((Below.refl _ _).alloc (Nat.le_refl _) (.cells zd ed))
  have hs : bt = false := by
    cases hb : bt with
    | false => rfl
    | true => exact absurd (h.ordt hb) (by simp)
  subst hs
  exact { below := k.below, ord := k.ord, ord2 := k.ord2, ords := k.ords, ordt := fun k => (nomatch k), one := k.one, two := k.two, pa := k.pa, pd := fun _ => ⟨_, rfl, h.below.size, heap_alloc_new w _⟩ }
theorem WinReg.setA (h : WinReg wA e ed ep n1 ds E' zp pc zd dc b3 true true true bd false bt v127 v131 v18 v19 w) (hne : ep ≠ ed) {g : Nat} (hv : v18 = .pointer (some ⟨g, 0, none⟩)) (hg : wA.heap.size ≤ g) (hh : w.heap[g]? = some (.cells zp ep (0, 0))) : WinReg wA e ed ep n1 ds E' zp pc zd dc b3 true true true bd true bt v127 v131 v18 v19 (w.setRow g pc) where
  below := below_setRow h.below hg pc
  ord := h.ord
  ord2 := h.ord2
  ords _ := rfl
  ordt := h.ordt
  one _ k := nomatch k
  two _ k := nomatch k
  pa _ := ⟨g, hv, hg, setRow_heap w g _ pc ep (0, 0) hh⟩
  pd k := by
    obtain ⟨g2, a1, a2, a3⟩ := h.pd k
    refine ⟨g2, a1, a2, (setRow_other w g g2 pc ?_).trans a3⟩
    rintro rfl
    rw [hh] at a3
    simp only [Option.some.injEq, Obj.cells.injEq] at a3
    exact hne a3.2.1
theorem WinReg.setD (h : WinReg wA e ed ep n1 ds E' zp pc zd dc b3 true true ba true bs false v127 v131 v18 v19 w) (hne : ep ≠ ed) {g : Nat} (hv : v19 = .pointer (some ⟨g, 0, none⟩)) (hg : wA.heap.size ≤ g) (hh : w.heap[g]? = some (.cells zd ed (0, 0))) : WinReg wA e ed ep n1 ds E' zp pc zd dc b3 true true ba true bs true v127 v131 v18 v19 (w.setRow g dc) where
  below := below_setRow h.below hg dc
  ord := h.ord
  ord2 := h.ord2
  ords := h.ords
  ordt _ := rfl
  one _ k := nomatch k
  two _ k := nomatch k
  pd _ := ⟨g, hv, hg, setRow_heap w g _ dc ed (0, 0) hh⟩
  pa k := by
    obtain ⟨g2, a1, a2, a3⟩ := h.pa k
    refine ⟨g2, a1, a2, (setRow_other w g g2 dc ?_).trans a3⟩
    rintro rfl
    rw [hh] at a3
    simp only [Option.some.injEq, Obj.cells.injEq] at a3
    exact hne a3.2.1.symm
end
end Go.Proofs.YtjgbflclhkeibaaGreat
