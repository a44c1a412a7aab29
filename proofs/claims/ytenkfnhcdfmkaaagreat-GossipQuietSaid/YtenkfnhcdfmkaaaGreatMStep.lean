/-
  append as one step of a region that draws its order: the law of wpList_app (XRd) in the shape that go_region_law asks for.
  A region that draws its order, by an invariant: what holds of the listed operations, the slots and the world is kept by each operation that may come up; so nothing is branched over.
  The steps of a region that is walked by an invariant: an operation that yields a value, one that yields nothing, a law's step, a call.
  A region that draws its order, each of whose operations leaves a value in a slot of its own and only adds to the world: what each leaves is told once, whatever the order.
  As Tell, of a region whose last operation comes behind all others and may turn the world.
-/
import Derived.Test.YtenkfnhcdfmkaaaGreatMAcc
import Derived.Deep.RegionLaw
namespace Go.Proofs.YtenkfnhcdfmkaaaGreat
open Go.RowKit
set_option linter.unusedVariables false
theorem step_app {α : Type} {P : Program} (enc : α → List Value) (k : Nat) (hk : ∀ x, (enc x).length = k) (k0 : 0 < k) (h1 : ∀ x, ∀ v ∈ enc x, v.oneCell' = true)
  (w : World) {ops : Array Oper} {o : Oper} {a : Act} {Q : Exit → Act → World → Prop} {K : Act → World → Prop} {E : Prop} (hgd : o.guard = none) (s x : Operand) (t : TypeId)
  (ho : o.op = .call { callee := .builtin .append, args := #[s, x], argTypes := #[t, t] })
  (base : Nat) (e : TypeId) (z : Value) (bytes : Nat) (ht : P.underlying t = some (.slice e)) (hinfo : (P.info? e).map (fun i => (i.zero, i.size, i.bytes)) = some (some z, k, bytes)) (hzs : z.cells.size = k)
  (v : Value) (l : List α) (hs : a.eval s = v) (hown : Owns enc k base e w v l)
  (vx : Value) (ms : List α) (hx : a.eval x = vx) (hxs : SlAt enc w vx ms)
  (hbytes : (l.length + ms.length) * bytes ≤ 140737488355328) (h63 : l.length + ms.length ≤ 9223372036854775807) (hbase : base ≤ w.heap.size)
  (h : ∀ v' w', Owns enc k base e w' v' (l ++ ms) → w.grownBy w' v.ownBlock → (v'.ownBlock = v.ownBlock ∨ ∀ g, v'.ownBlock = some g → w.heap.size ≤ g) → K (a.put o.dst v') w') :
  if Region.wanted o (yielded ops a.tmps) = true then Oper.wp P o a w K Q else E := by
 have hw : Region.wanted o (yielded ops a.tmps) = true := by simp [Region.wanted, hgd]
 rw [if_pos hw]
 obtain ⟨i, hi, hz, hsize, hby⟩ := info_parts hinfo
 obtain ⟨oa, cap, rfl, hcap, hn, hc⟩ := hxs
 cases oa with
 | none =>
  obtain rfl := hn rfl
  obtain rfl : ms = [] := List.eq_nil_of_length_eq_zero (by omega)
  have hrun := run_append_owned_none (P := P) (w := w) base t o.type e i k ht hi v l.length (l.flatMap enc) hown
  unfold Oper.wp
  simp [execOp, ho, resolve, invoke, builtin, hs, hx, hrun, Result.andThen]
  exact h v w (by rw [List.append_nil]; exact hown) (World.grownBy.refl w _) (.inl rfl)
 | some aa =>
  obtain ⟨v', w', hr, h2, h3, h4⟩ := run_append_own2 (P := P) w base t o.type e i z k bytes ht hi hz hsize hby hzs k0 v l.length (l.flatMap enc) hown aa ms.length cap (ms.flatMap enc) (flat_len enc k hk ms)
   (fun j u hu => hc aa rfl j u hu) (fun u hu => by obtain ⟨y, _, hy⟩ := List.mem_flatMap.1 hu; exact h1 y u hy) (by simp only [maxLen]; omega) hbytes hbase
  unfold Oper.wp execOp
  simp only [ho, resolve, invoke, builtin, Sem.run_bind, Sem.run_pure, Result.andThen_ok, List.map_toArray, List.map_cons, List.map_nil, hs, hx, hr]
  exact h v' w' (by unfold Owns; rw [List.length_append, List.flatMap_append]; exact h2) h3 h4
end Go.Proofs.YtenkfnhcdfmkaaaGreat
namespace Go.Proofs.YtenkfnhcdfmkaaaGreat
open Go.RowKit
set_option linter.unusedVariables false
def unlisted (L : Array Bool) : Nat := (L.toList.filter (fun b => !b)).length
theorem unlisted_list : ∀ (l : List Bool) (i : Nat), l[i]? = some false → ((l.set i true).filter (fun b => !b)).length + 1 = (l.filter (fun b => !b)).length
 | [], _, h => by simp at h
 | x :: l, 0, h => by
  obtain rfl : x = false := by simpa using h
  simp
 | x :: l, i + 1, h => by
  have := unlisted_list l i (by simpa using h)
  cases x <;> simp <;> omega
theorem unlisted_set {L : Array Bool} {i : Nat} (h : L.getD i true = false) : unlisted (L.setIfInBounds i true) + 1 = unlisted L := by
 unfold unlisted
 rw [Array.toList_setIfInBounds]
 refine unlisted_list _ _ ?_
 rcases Nat.lt_or_ge i L.size with h' | h'
 ·simp [h'] at h ⊢
  exact h
 ·simp [Array.getElem?_eq_none h'] at h
section
variable {P : Program} {ops : Array Oper} {Q : Exit → Act → World → Prop} {md : Region.Mode}
theorem wpAny_inv (I : Array Bool → Act → World → Prop)
  (hstep : ∀ (L : Array Bool) (a : Act) (w : World) (i : Nat), i ∈ Region.ready md ops L → I L a w → wpOp P ops Q i (I (L.setIfInBounds i true)) a w)
  (hend : ∀ (L : Array Bool) (a : Act) (w : World), Region.ready md ops L = [] → I L a w → Q .normal a w) :
  ∀ (fuel : Nat) (L : Array Bool) (a : Act) (w : World), unlisted L ≤ fuel → I L a w → wpAny P md ops Q fuel L a w := by
 intro fuel
 induction fuel with
 | zero =>
  intro L a w hu hI
  have hr : Region.ready md ops L = [] := by
   refine List.eq_nil_iff_forall_not_mem.2 fun i hi => ?_
   have := unlisted_set (mem_ready.1 hi).1
   omega
  exact ⟨hr, hend L a w hr hI⟩
 | succ fuel ih =>
  intro L a w hu hI
  refine ⟨fun hr => hend L a w hr hI, fun i hi => ?_⟩
  have := unlisted_set (mem_ready.1 hi).1
  exact wpOp_mono (fun a' w' h => ih _ a' w' (by omega) h) (hstep L a w i hi hI)
theorem unlisted_start (n : Nat) : unlisted (Array.replicate n false) ≤ n := by
 unfold unlisted
 refine Nat.le_trans (List.length_filter_le _ _) (by simp)
theorem wp_region_inv {id : Nat} {a : Act} {w : World} (hm : P.follows .mixedOrders = true) (I : Array Bool → Act → World → Prop)
  (hI : I (Array.replicate ops.size false) a w.drew)
  (hstep : ∀ (L : Array Bool) (a : Act) (w : World) (i : Nat), i ∈ Region.ready .any ops L → I L a w → wpOp P ops Q i (I (L.setIfInBounds i true)) a w)
  (hend : ∀ (L : Array Bool) (a : Act) (w : World), Region.ready .any ops L = [] → I L a w → Q .normal a w) : (Code.region id ops true).wp P Q a w :=
 wp_region_any hm (wpAny_inv I hstep hend _ _ a _ (unlisted_start _) hI)
end
structure Ag (ds : List Nat) (a a' : Act) : Prop where
 size : a'.tmps.size = a.tmps.size
 defers : a'.defers = a.defers
 out : ∀ d, d ∉ ds → a'.eval (.tmp d) = a.eval (.tmp d)
theorem Ag.refl (ds : List Nat) (a : Act) : Ag ds a a := ⟨rfl, rfl, fun _ _ => rfl⟩
theorem eval_put_ne {a : Act} {d d' : Nat} (v : Value) (h : d ≠ d') : (a.put (some d) v).eval (.tmp d') = a.eval (.tmp d') := by
 simp [Act.eval, Act.put, Array.getD_eq_getD_getElem?, Array.getElem?_setIfInBounds_ne h]
theorem eval_put_same {a : Act} {d : Nat} (v : Value) (h : d < a.tmps.size) : (a.put (some d) v).eval (.tmp d) = v := by
 simp [Act.eval, Act.put, Array.getD_eq_getD_getElem?, h]
theorem size_put (a : Act) (d : Nat) (v : Value) : (a.put (some d) v).tmps.size = a.tmps.size := by simp [Act.put]
theorem Ag.put {ds : List Nat} {a a' : Act} (h : Ag ds a a') {d : Nat} (hd : d ∈ ds) (v : Value) : Ag ds a (a'.put (some d) v) :=
 ⟨(size_put _ _ _).trans h.size, h.defers, fun d' hd' => (eval_put_ne v (fun e => hd' (by rw [← e]; exact hd))).trans (h.out d' hd')⟩
theorem Ag.final {a : Act} : ∀ (ds : List Nat) {a' : Act}, (∀ d ∈ ds, d < a.tmps.size) → Ag ds a a' → a' = ds.foldl (fun b d => b.put (some d) (a'.eval (.tmp d))) a := by
 have key : ∀ (ds : List Nat) (b a' : Act), b.tmps.size = a'.tmps.size → b.defers = a'.defers → (∀ d, d ∉ ds → a'.eval (.tmp d) = b.eval (.tmp d)) → a' = ds.foldl (fun b d => b.put (some d) (a'.eval (.tmp d))) b := by
  intro ds
  induction ds with
  | nil =>
   intro b a' hs hd ho
   cases b with | mk tb db => cases a' with | mk ta da =>
   simp only at hs hd
   subst hd
   show (⟨ta, db⟩ : Act) = ⟨tb, db⟩
   congr 1
   refine Array.ext hs.symm fun i h1 h2 => ?_
   have := ho i (by simp)
   simpa [Act.eval, Array.getD_eq_getD_getElem?, h1, h2] using this
  | cons d ds ih =>
   intro b a' hs hd ho
   refine ih (b.put (some d) (a'.eval (.tmp d))) a' ((size_put _ _ _).trans hs) hd fun d' hd' => ?_
   by_cases he : d = d'
   ·subst he
    by_cases hlt : d < b.tmps.size
    ·rw [eval_put_same _ hlt]
    ·have e1 : ∀ (x : Act), ¬ d < x.tmps.size → x.eval (.tmp d) = undef := fun x hx => by
      simp [Act.eval, Array.getD_eq_getD_getElem?, Array.getElem?_eq_none (Nat.le_of_not_lt hx)]
     rw [e1 a' (by omega), e1 _ (by rw [size_put]; exact hlt)]
   ·rw [eval_put_ne _ he]
    exact ho d' (by simp only [List.mem_cons, not_or]; exact ⟨fun e => he e.symm, hd'⟩)
 exact fun ds a' _ h => key ds a a' h.size.symm h.defers.symm h.out
end Go.Proofs.YtenkfnhcdfmkaaaGreat
namespace Go.Proofs.YtenkfnhcdfmkaaaGreat
open Go.RowKit
set_option linter.unusedVariables false
section
variable {P : Program} {ops : Array Oper} {Q : Exit → Act → World → Prop}
theorem step_val {i : Nat} {o : Oper} {d : Nat} {v : Value} {a : Act} {w w' : World} {K : Act → World → Prop} (hi : ops[i]? = some o) (hd : o.dst = some d) (hg : o.guard = none)
  (hv : (execOp a.eval o).run P w = .ok (.value v) w') (h : K (a.put (some d) v) w') : wpOp P ops Q i K a w := by
 unfold wpOp
 rw [hi]
 have hw : Region.wanted o (yielded ops a.tmps) = true := by simp [Region.wanted, hg]
 simp only [hw, if_true]
 refine .inl ?_
 unfold Oper.wp
 rw [hv, hd.symm] at *
 exact h
theorem step_call {i : Nat} {o : Oper} {d : Nat} {a : Act} {w w1 : World} {f : FuncId} {args : Array Value} {K : Act → World → Prop} (hi : ops[i]? = some o) (hd : o.dst = some d) (hg : o.guard = none)
  (hv : (execOp a.eval o).run P w = .ok (.enter f args) w1) {post : Ending → World → Prop} (hc : Calls P f args w1 post) (h : ∀ e w2, post e w2 → ∃ v, e = .returned v ∧ K (a.put (some d) v) w2) : wpOp P ops Q i K a w := by
 unfold wpOp
 rw [hi]
 have hw : Region.wanted o (yielded ops a.tmps) = true := by simp [Region.wanted, hg]
 simp only [hw, if_true]
 refine .inl ?_
 unfold Oper.wp
 rw [hv]
 simp only [Oper.upon, hd]
 refine hc.mono fun e w2 hp => ?_
 obtain ⟨v, rfl, hK⟩ := h e w2 hp
 exact hK
def afterOk (md : Region.Mode) (ops : Array Oper) : Bool := (List.range ops.size).all fun i => match ops[i]? with
 | some o => o.after.toList.all fun e => !Region.binds md e || Nat.blt e.on i
 | none => true
theorem all_listed_b {md : Region.Mode} {L : Array Bool} {n : Nat} (hs : L.size = n) (hn : ops.size = n) (hb : afterOk md ops = true) (hr : Region.ready md ops L = []) : ∀ i, i < n → L.getD i false = true := by
 subst hn
 intro i
 induction i using Nat.strongRecOn with
 | ind i ih =>
  intro hi
  cases hL : L.getD i false with
  | true => rfl
  | false =>
   exfalso
   have hm : i ∈ Region.ready md ops L := by
    refine mem_ready.2 ⟨?_, ops[i], Array.getElem?_eq_getElem hi, fun e he hbd => ?_⟩
    ·have hi' : i < L.size := by omega
     simp [hi'] at hL ⊢
     exact hL
    ·have h := List.all_eq_true.1 hb i (List.mem_range.2 hi)
     rw [Array.getElem?_eq_getElem hi] at h
     have h2 := List.all_eq_true.1 h e (Array.mem_toList_iff.2 he)
     rw [hbd, Bool.not_true, Bool.false_or, Nat.blt_eq] at h2
     exact ih e.on h2 (by omega)
   rw [hr] at hm
   cases hm
end
end Go.Proofs.YtenkfnhcdfmkaaaGreat
namespace Go.Proofs.YtenkfnhcdfmkaaaGreat
open Go.RowKit
set_option linter.unusedVariables false
def Lasts (F : Value → World → Prop) : Prop := ∀ v w w', Below w.heap.size w w' → F v w → F v w'
theorem lasts_pure (p : Value → Prop) : Lasts fun v _ => p v := fun _ _ _ _ h => h
section
variable {P : Program} {ops : Array Oper} {Q : Exit → Act → World → Prop}
def Needs (ops : Array Oper) (i j : Nat) : Prop := ∃ o, ops[i]? = some o ∧ ∃ e ∈ o.after, Region.binds .any e = true ∧ e.on = j
def Leaves (P : Program) (ops : Array Oper) (Q : Exit → Act → World → Prop) (i d : Nat) (F : Value → World → Prop) (a : Act) (w : World) : Prop :=
 wpOp P ops Q i (fun a2 w2 => ∃ v, a2 = a.put (some d) v ∧ Below w.heap.size w w2 ∧ F v w2) a w
theorem tell_region {id : Nat} {act : Act} {w : World} (hm : P.follows .mixedOrders = true) (Fs : List (Nat × (Value → World → Prop))) (hn : ops.size = Fs.length) (hnd : (Fs.map (·.1)).Nodup) (hsz : ∀ d ∈ Fs.map (·.1), d < act.tmps.size)
  (haf : afterOk .any ops = true) (hmono : ∀ p ∈ Fs, Lasts p.2)
  (hstep : ∀ (i : Nat) (hi : i < Fs.length) (a : Act) (w' : World), Ag (Fs.map (·.1)) act a → Below w.heap.size w w' → (∀ (j : Nat) (hj : j < Fs.length), Needs ops i j → Fs[j].2 (a.eval (.tmp Fs[j].1)) w') → Leaves P ops Q i Fs[i].1 Fs[i].2 a w')
  (hend : ∀ (a : Act) (w' : World), Ag (Fs.map (·.1)) act a → Below w.heap.size w w' → (∀ (j : Nat) (hj : j < Fs.length), Fs[j].2 (a.eval (.tmp Fs[j].1)) w') → Q .normal a w') : (Code.region id ops true).wp P Q act w := by
 refine wp_region_inv hm (fun L a w' => L.size = Fs.length ∧ Ag (Fs.map (·.1)) act a ∧ Below w.heap.size w w' ∧ ∀ (j : Nat) (hj : j < Fs.length), L.getD j false = true → Fs[j].2 (a.eval (.tmp Fs[j].1)) w') ?_ ?_ ?_
 ·refine ⟨by rw [Array.size_replicate]; exact hn, Ag.refl _ _, ⟨rfl, rfl, rfl, Nat.le_refl _, fun _ _ => rfl⟩, fun j hj h => ?_⟩
  simp [Array.getD_eq_getD_getElem?] at h
  by_cases hs : j < ops.size <;> simp [hs] at h
 ·intro L a w' i hi hI
  obtain ⟨hL, hag, hb, hF⟩ := hI
  obtain ⟨hun, o0, ho0, hdep⟩ := mem_ready.1 hi
  have hlt : i < Fs.length := by rw [← hn]; exact (Array.getElem?_eq_some_iff.1 ho0).1
  have h := hstep i hlt a w' hag hb (fun j hj hne => by
   obtain ⟨o, ho, e, he, hbd, rfl⟩ := hne
   rw [ho0] at ho
   obtain rfl := Option.some.inj ho
   exact hF e.on hj (hdep e he hbd))
  have hdi : Fs[i].1 ∈ Fs.map (·.1) := List.mem_map.2 ⟨Fs[i], List.getElem_mem _, rfl⟩
  refine wpOp_mono (fun a2 w2 h2 => ?_) h
  obtain ⟨v, rfl, hb2, hv⟩ := h2
  refine ⟨by simpa using hL, hag.put hdi v, hb.trans (hb2.mono hb.size), fun j hj hLj => ?_⟩
  by_cases hij : j = i
  ·subst hij
   rw [eval_put_same v (by rw [hag.size]; exact hsz _ hdi)]
   exact hv
  ·have hne : Fs[i].1 ≠ Fs[j].1 := by
    intro e
    have h1 := (List.getElem_inj (i := i) (j := j) (h₀ := by simpa using hlt) (h₁ := by simpa using hj) hnd).1 (by simpa using e)
    exact hij h1.symm
   rw [eval_put_ne v hne]
   rw [getD_set_ne false (fun e => hij e.symm)] at hLj
   exact hmono _ (List.getElem_mem _) _ _ _ hb2 (hF j hj hLj)
 ·intro L a w' hr hI
  obtain ⟨hL, hag, hb, hF⟩ := hI
  have hall := all_listed_b hL hn haf hr
  exact hend a w' hag hb fun j hj => hF j hj (hall j hj)
theorem leaves_val {i d : Nat} {o : Oper} {v : Value} {a : Act} {w w' : World} {F : Value → World → Prop} (hi : ops[i]? = some o) (hd : o.dst = some d) (hg : o.guard = none)
  (hv : (execOp a.eval o).run P w = .ok (.value v) w') (hb : Below w.heap.size w w') (hF : F v w') : Leaves P ops Q i d F a w :=
 step_val hi hd hg hv ⟨v, rfl, hb, hF⟩
theorem leaves_loadAgg {i d : Nat} {o : Oper} {a : Act} {w : World} {F : Value → World → Prop} (hi : ops[i]? = some o) (hd : o.dst = some d) (hg : o.guard = none) (t : TypeId) (x : Operand) (ho : o.op = .load t x) (n : Nat)
  (hA : (isAgg t).run P w = .ok true w) (hz : (Go.sizeOf t).run P w = .ok n w) (p : Addr) (hx : a.eval x = .pointer (some p)) (vs : Array Value) (hl : Sem.run P (loadCellsFrom p 0 n #[]) w = .ok vs w) (hF : F (.agg vs) w) : Leaves P ops Q i d F a w :=
 leaves_val hi hd hg (by
  unfold execOp
  simp only [ho, Instr.loadAt, Instr.sureAddr, loadVar, loadCells, Sem.run_bind, Sem.run_pure, Result.andThen_ok, hx, hA, hz, hl, if_true]) (Below.refl _ _) hF
theorem leaves_call {i d : Nat} {o : Oper} {a : Act} {w w1 : World} {f : FuncId} {args : Array Value} {F : Value → World → Prop} (hi : ops[i]? = some o) (hd : o.dst = some d) (hg : o.guard = none)
  (hv : (execOp a.eval o).run P w = .ok (.enter f args) w1) {post : Ending → World → Prop} (hc : Calls P f args w1 post) (h : ∀ e w2, post e w2 → ∃ v, e = .returned v ∧ Below w.heap.size w w2 ∧ F v w2) : Leaves P ops Q i d F a w :=
 step_call hi hd hg hv hc fun e w2 hp => by
  obtain ⟨v, rfl, hb, hF⟩ := h e w2 hp
  exact ⟨v, rfl, v, rfl, hb, hF⟩
end
end Go.Proofs.YtenkfnhcdfmkaaaGreat
namespace Go.Proofs.YtenkfnhcdfmkaaaGreat
open Go.RowKit
set_option linter.unusedVariables false
section
variable {P : Program} {ops : Array Oper} {Q : Exit → Act → World → Prop}
end
end Go.Proofs.YtenkfnhcdfmkaaaGreat
