/-
  The reference's Before and Later: the same as the program's.
  append as one step of a region that draws its order: the law of wpList_app (XRd) in the shape that go_region_law asks for.
  A region that draws its order, by an invariant: what holds of the listed operations, the slots and the world is kept by each operation that may come up; so nothing is branched over.
  Slices of slices: what l[lo:hi] reads as.
-/
import Derived.Test.YtjgbflclhkeibaaGreatCmp
import Derived.Test.YtjgbflclhkeibaaGreatMAcc
import Derived.Deep.RegionLaw
namespace Go.Proofs.YtjgbflclhkeibaaGreat
open Go.Shelf Go.RowKit Go.Lib Go.Sort
set_option linter.unusedVariables false
theorem refBefore_any (a b : Dot) (w : World) :
    Calls Tryz.prog 90 #[.agg #[.int .i64 a.node, .int .i64 a.seq], .agg #[.int .i64 b.node, .int .i64 b.seq]] w fun e w' => e = .returned (.bool (dotLt a b)) ∧ Grew w w' := by
  have hx : Hid (dotLt a b = decide (a.node < b.node ∨ (a.node = b.node ∧ a.seq < b.seq))) := rfl
  by_cases h1 : a.node < b.node
  · have hb : Hid (dotLt a b = true) := by show _ = _; rw [hx.out]; exact decide_eq_true (.inl h1)
    go_enter Tryz.func90, Tryz.ntmps90
    go_wp2
    go_ret
    exact ⟨retB hb.out.symm, ((Grew.refl _).alloc _).alloc _⟩
  · by_cases h2 : a.node = b.node
    · have hb : Hid (dotLt a b = decide (a.seq < b.seq)) := by show _ = _; rw [hx.out]; exact decide_eq_decide.2 ⟨fun h => by omega, fun h => .inr ⟨h2, h⟩⟩
      have h3 : (a.node == b.node) = true := beq_iff_eq.2 h2
      have H2 := Lib.hid h2
      have h4 : a.node ≤ b.node := by omega
      have h5 : b.node ≤ a.node := by omega
      clear h2
      go_enter Tryz.func90, Tryz.ntmps90
      go_wp2
      all_goals go_ret
      all_goals exact ⟨retB (by rw [hb.out]; try rfl), ((Grew.refl _).alloc _).alloc _⟩
    · have hb : Hid (dotLt a b = false) := by show _ = _; rw [hx.out]; exact decide_eq_false (fun h => by omega)
      have h3 : (a.node == b.node) = false := beq_eq_false_iff_ne.2 h2
      go_enter Tryz.func90, Tryz.ntmps90
      go_wp2
      go_ret
      exact ⟨retB hb.out.symm, ((Grew.refl _).alloc _).alloc _⟩
theorem refLater_any (x y : PEv) (w : World) :
    Calls Tryz.prog 68 #[.agg (pcells x).toArray, .agg (pcells y).toArray] w fun e w' => e = .returned (.bool (evLater x.2 y.2)) ∧ Grew w w' := by
  obtain ⟨rx, a⟩ := x
  obtain ⟨ry, b⟩ := y
  show Calls Tryz.prog 68 #[.agg #[.int .i64 a.dot.node, .int .i64 a.dot.seq, .int .i64 a.time, .int .i64 a.kind, .int .i64 a.work, .int .i64 a.value, .int .i64 a.pol.mn, .int .i64 a.pol.mx, .int .i64 a.pol.goal, .int .i64 a.pol.slack, .int .i64 a.pol.up, .int .i64 a.pol.down, .int .i64 a.pol.cool, rx.val], .agg #[.int .i64 b.dot.node, .int .i64 b.dot.seq, .int .i64 b.time, .int .i64 b.kind, .int .i64 b.work, .int .i64 b.value, .int .i64 b.pol.mn, .int .i64 b.pol.mx, .int .i64 b.pol.goal, .int .i64 b.pol.slack, .int .i64 b.pol.up, .int .i64 b.pol.down, .int .i64 b.pol.cool, ry.val]] w fun e w' => e = .returned (.bool (evLater a b)) ∧ Grew w w'
  generalize rx.val = vx
  generalize ry.val = vy
  have hbf := refBefore_any b.dot a.dot
  have HB := Lib.hid hbf
  clear hbf
  by_cases h1 : a.time = b.time
  · have hb : Hid (evLater a b = dotLt b.dot a.dot) := by show _ = _; unfold evLater; rw [if_pos h1]
    have h2 : (a.time != b.time) = false := by rw [bne_eq_false_iff_eq]; exact h1
    clear h1
    go_enter Tryz.func68, Tryz.ntmps68
    go_wp2_with fail
    refine (HB.out _).mono ?_
    rintro e w1 ⟨rfl, hg⟩
    have HG := Lib.hid hg
    clear hg
    go_wp2
    go_ret
    exact ⟨retB hb.out.symm, (((Grew.refl _).alloc _).alloc _).trans HG.out⟩
  · have hb : Hid (evLater a b = decide (b.time < a.time)) := by show _ = _; unfold evLater; rw [if_neg h1]
    have h2 : (a.time != b.time) = true := by rw [bne_iff_ne]; exact h1
    clear h1
    go_enter Tryz.func68, Tryz.ntmps68
    go_wp2
    go_ret
    exact ⟨retB hb.out.symm, ((Grew.refl _).alloc _).alloc _⟩
end Go.Proofs.YtjgbflclhkeibaaGreat
namespace Go.Proofs.YtjgbflclhkeibaaGreat
open Go.RowKit
set_option linter.unusedVariables false
theorem step_app {α : Type} {P : Program} (enc : α → List Value) (k : Nat) (hk : ∀ x, (enc x).length = k) (k0 : 0 < k) (h1 : ∀ x, ∀ v ∈ enc x, v.oneCell' = true)
    (w : World) {ops : Array Oper} {o : Oper} {a : Act} {Q : Exit → Act → World → Prop} {K : Act → World → Prop} {E : Prop} (hgd : o.guard = none) (s x : Operand) (t : TypeId)
    (ho : o.op = .call { callee := .builtin .append, args := #[s, x], argTypes := #[t, t] })
    (base : Nat) (e : TypeId) (z : Value) (bytes : Nat) (ht : P.underlying t = some (.slice e)) (hinfo : (P.info? e).map (fun i => (i.zero, i.size, i.bytes)) = some (some z, k, bytes)) (hzs : z.cells.size = k)
    (v : Value) (l : List α) (hs : a.eval s = v) (hown : Owns enc k base e w v l)
    (vx : Value) (ms : List α) (hx : a.eval x = vx) (hxs : SlAt enc w vx ms)
    (hbytes : (l.length + ms.length) * bytes ≤ 140737488355328) (h63 : l.length + ms.length ≤ 9223372036854775807) (hbase : base ≤ w.heap.size)
    (h : ∀ v' w', Owns enc k base e w' v' (l ++ ms) → w.grownBy w' v.ownBlock → (v'.ownBlock = v.ownBlock ∨ ∀ g, v'.ownBlock = some g → w.heap.size ≤ g) → K (a.put o.dst v') w') :
    if Region.wanted o (yielded ops a.tmps) = true then Oper.wp P o a w K Q else E := by
  have hw : Region.wanted o (yielded ops a.tmps) = true := by simp [Region.wanted, hgd]
  rw [if_pos hw]
  obtain ⟨i, hi, hz, hsize, hby⟩ := info_parts hinfo
  obtain ⟨oa, cap, rfl, hcap, hn, hc⟩ := hxs
  cases oa with
  | none =>
    obtain rfl := hn rfl
    obtain rfl : ms = [] := List.eq_nil_of_length_eq_zero (by omega)
    have hrun := run_append_owned_none (P := P) (w := w) base t o.type e i k ht hi v l.length (l.flatMap enc) hown
    unfold Oper.wp
    simp [execOp, ho, resolve, invoke, builtin, hs, hx, hrun, Result.andThen]
    exact h v w (by rw [List.append_nil]; exact hown) (World.grownBy.refl w _) (.inl rfl)
  | some aa =>
    obtain ⟨v', w', hr, h2, h3, h4⟩ := run_append_own2 (P := P) w base t o.type e i z k bytes ht hi hz hsize hby hzs k0 v l.length (l.flatMap enc) hown aa ms.length cap (ms.flatMap enc) (flat_len enc k hk ms)
      (fun j u hu => hc aa rfl j u hu) (fun u hu => by obtain ⟨y, _, hy⟩ := List.mem_flatMap.1 hu; exact h1 y u hy) (by simp only [maxLen]; omega) hbytes hbase
    unfold Oper.wp execOp
    simp only [ho, resolve, invoke, builtin, Sem.run_bind, Sem.run_pure, Result.andThen_ok, List.map_toArray, List.map_cons, List.map_nil, hs, hx, hr]
    exact h v' w' (by unfold Owns; rw [List.length_append, List.flatMap_append]; exact h2) h3 h4
end Go.Proofs.YtjgbflclhkeibaaGreat
namespace Go.Proofs.YtjgbflclhkeibaaGreat
open Go.RowKit
set_option linter.unusedVariables false

def unlisted (L : Array Bool) : Nat := (L.toList.filter (fun b => !b)).length
theorem unlisted_list : ∀ (l : List Bool) (i : Nat), l[i]? = some false → ((l.set i true).filter (fun b => !b)).length + 1 = (l.filter (fun b => !b)).length
  | [], _, h => by simp at h
  | x :: l, 0, h => by
    obtain rfl : x = false := by simpa using h
    simp
  | x :: l, i + 1, h => by
    have := unlisted_list l i (by simpa using h)
    cases x <;> simp <;> omega
theorem unlisted_set {L : Array Bool} {i : Nat} (h : L.getD i true = false) : unlisted (L.setIfInBounds i true) + 1 = unlisted L := by
  unfold unlisted
  rw [Array.toList_setIfInBounds]
  refine unlisted_list _ _ ?_
  rcases Nat.lt_or_ge i L.size with h' | h'
  · simp [h'] at h ⊢
    exact h
  · simp [Array.getElem?_eq_none h'] at h

section
variable {P : Program} {ops : Array Oper} {Q : Exit → Act → World → Prop} {md : Region.Mode}
theorem wpAny_inv (I : Array Bool → Act → World → Prop)
    (hstep : ∀ (L : Array Bool) (a : Act) (w : World) (i : Nat), i ∈ Region.ready md ops L → I L a w → wpOp P ops Q i (I (L.setIfInBounds i true)) a w)
    (hend : ∀ (L : Array Bool) (a : Act) (w : World), Region.ready md ops L = [] → I L a w → Q .normal a w) :
    ∀ (fuel : Nat) (L : Array Bool) (a : Act) (w : World), unlisted L ≤ fuel → I L a w → wpAny P md ops Q fuel L a w := by
  intro fuel
  induction fuel with
  | zero =>
    intro L a w hu hI
    have hr : Region.ready md ops L = [] := by
      refine List.eq_nil_iff_forall_not_mem.2 fun i hi => ?_
      have := unlisted_set (mem_ready.1 hi).1
      omega
    exact ⟨hr, hend L a w hr hI⟩
  | succ fuel ih =>
    intro L a w hu hI
    refine ⟨fun hr => hend L a w hr hI, fun i hi => ?_⟩
    have := unlisted_set (mem_ready.1 hi).1
    exact wpOp_mono (fun a' w' h => ih _ a' w' (by omega) h) (hstep L a w i hi hI)
theorem unlisted_start (n : Nat) : unlisted (Array.replicate n false) ≤ n := by
  unfold unlisted
  refine Nat.le_trans (List.length_filter_le _ _) (by simp)
/-- the whole region by an invariant -/
theorem wp_region_inv {id : Nat} {a : Act} {w : World} (hm : P.follows .mixedOrders = true) (I : Array Bool → Act → World → Prop)
    (hI : I (Array.replicate ops.size false) a w.drew)
    (hstep : ∀ (L : Array Bool) (a : Act) (w : World) (i : Nat), i ∈ Region.ready .any ops L → I L a w → wpOp P ops Q i (I (L.setIfInBounds i true)) a w)
    (hend : ∀ (L : Array Bool) (a : Act) (w : World), Region.ready .any ops L = [] → I L a w → Q .normal a w) : (Code.region id ops true).wp P Q a w :=
  wp_region_any hm (wpAny_inv I hstep hend _ _ a _ (unlisted_start _) hI)
/-- at the end all is listed: the order of the needs is well-founded ('after' points backwards) -/
theorem all_listed {L : Array Bool} (hs : L.size = ops.size) (hb : ∀ (i : Nat) (o : Oper), ops[i]? = some o → ∀ e ∈ o.after, e.on < i) (hr : Region.ready md ops L = []) : ∀ i, i < ops.size → L.getD i false = true := by
  intro i
  induction i using Nat.strongRecOn with
  | ind i ih =>
    intro hi
    cases hL : L.getD i false with
    | true => rfl
    | false =>
      exfalso
      have hm : i ∈ Region.ready md ops L := by
        refine mem_ready.2 ⟨?_, ops[i], Array.getElem?_eq_getElem hi, fun e he _ => ?_⟩
        · have hi' : i < L.size := by omega
          simp [hi'] at hL ⊢
          exact hL
        · have := hb i ops[i] (Array.getElem?_eq_getElem hi) e he
          exact ih e.on this (by omega)
      rw [hr] at hm
      cases hm
end

/-- the frame stands as it was but for these slots -/
structure Ag (ds : List Nat) (a a' : Act) : Prop where
  size : a'.tmps.size = a.tmps.size
  defers : a'.defers = a.defers
  out : ∀ d, d ∉ ds → a'.eval (.tmp d) = a.eval (.tmp d)
theorem Ag.refl (ds : List Nat) (a : Act) : Ag ds a a := ⟨rfl, rfl, fun _ _ => rfl⟩
theorem eval_put_ne {a : Act} {d d' : Nat} (v : Value) (h : d ≠ d') : (a.put (some d) v).eval (.tmp d') = a.eval (.tmp d') := by
  simp [Act.eval, Act.put, Array.getD_eq_getD_getElem?, Array.getElem?_setIfInBounds_ne h]
theorem eval_put_same {a : Act} {d : Nat} (v : Value) (h : d < a.tmps.size) : (a.put (some d) v).eval (.tmp d) = v := by
  simp [Act.eval, Act.put, Array.getD_eq_getD_getElem?, h]
theorem size_put (a : Act) (d : Nat) (v : Value) : (a.put (some d) v).tmps.size = a.tmps.size := by simp [Act.put]
theorem Ag.put {ds : List Nat} {a a' : Act} (h : Ag ds a a') {d : Nat} (hd : d ∈ ds) (v : Value) : Ag ds a (a'.put (some d) v) :=
  ⟨(size_put _ _ _).trans h.size, h.defers, fun d' hd' => (eval_put_ne v (fun e => hd' (by rw [← e]; exact hd))).trans (h.out d' hd')⟩
/-- the frame, written out from its slots -/
theorem Ag.final {a : Act} : ∀ (ds : List Nat) {a' : Act}, (∀ d ∈ ds, d < a.tmps.size) → Ag ds a a' → a' = ds.foldl (fun b d => b.put (some d) (a'.eval (.tmp d))) a := by
  have key : ∀ (ds : List Nat) (b a' : Act), b.tmps.size = a'.tmps.size → b.defers = a'.defers → (∀ d, d ∉ ds → a'.eval (.tmp d) = b.eval (.tmp d)) → a' = ds.foldl (fun b d => b.put (some d) (a'.eval (.tmp d))) b := by
    intro ds
    induction ds with
    | nil =>
      intro b a' hs hd ho
      cases b with | mk tb db => cases a' with | mk ta da =>
      simp only at hs hd
      subst hd
      show (⟨ta, db⟩ : Act) = ⟨tb, db⟩
      congr 1
      refine Array.ext hs.symm fun i h1 h2 => ?_
      have := ho i (by simp)
      simpa [Act.eval, Array.getD_eq_getD_getElem?, h1, h2] using this
    | cons d ds ih =>
      intro b a' hs hd ho
      refine ih (b.put (some d) (a'.eval (.tmp d))) a' ((size_put _ _ _).trans hs) hd fun d' hd' => ?_
      by_cases he : d = d'
      · subst he
        by_cases hlt : d < b.tmps.size
        · rw [eval_put_same _ hlt]
        · have e1 : ∀ (x : Act), ¬ d < x.tmps.size → x.eval (.tmp d) = undef := fun x hx => by
            simp [Act.eval, Array.getD_eq_getD_getElem?, Array.getElem?_eq_none (Nat.le_of_not_lt hx)]
          rw [e1 a' (by omega), e1 _ (by rw [size_put]; exact hlt)]
      · rw [eval_put_ne _ he]
        exact ho d' (by simp only [List.mem_cons, not_or]; exact ⟨fun e => he e.symm, hd'⟩)
  exact fun ds a' _ h => key ds a a' h.size.symm h.defers.symm h.out

/-- slots whose values are known once their operation is listed: (operation, slot, value) -/
def Knows (K : List (Nat × Nat × Value)) (L : Array Bool) (a : Act) : Prop := ∀ p ∈ K, L.getD p.1 false = true → a.eval (.tmp p.2.1) = p.2.2
theorem getD_set_same {L : Array Bool} {i : Nat} (h : i < L.size) : (L.setIfInBounds i true).getD i false = true := by simp [h]
theorem Knows.put {K : List (Nat × Nat × Value)} {L : Array Bool} {a : Act} (h : Knows K L a) {i d : Nat} {v : Value} (hd : d < a.tmps.size) (hi : ∀ p ∈ K, (p.1 = i → p.2.1 = d ∧ p.2.2 = v) ∧ (p.1 ≠ i → p.2.1 ≠ d)) : Knows K (L.setIfInBounds i true) (a.put (some d) v) := by
  intro p hp hL
  by_cases he : p.1 = i
  · obtain ⟨h1, h2⟩ := (hi p hp).1 he
    rw [h1, h2, eval_put_same v hd]
  · rw [eval_put_ne v (fun e => (hi p hp).2 he e.symm)]
    exact h p hp (by rwa [getD_set_ne false (fun e => he e.symm)] at hL)
theorem Knows.put_none {K : List (Nat × Nat × Value)} {L : Array Bool} {a : Act} (h : Knows K L a) {i : Nat} (hi : ∀ p ∈ K, p.1 ≠ i) : Knows K (L.setIfInBounds i true) a := by
  intro p hp hL
  exact h p hp (by rwa [getD_set_ne false (fun e => hi p hp e.symm)] at hL)
theorem Knows.none (K : List (Nat × Nat × Value)) (n : Nat) (a : Act) : Knows K (Array.replicate n false) a := by
  intro p hp hL
  simp [Array.getD_eq_getD_getElem?] at hL
  by_cases h : p.1 < n <;> simp [h] at hL
end Go.Proofs.YtjgbflclhkeibaaGreat
namespace Go.Proofs.YtjgbflclhkeibaaGreat
open Go.RowKit
set_option linter.unusedVariables false
/-- events, some of them -/
theorem EvsAt.sub {w : World} {oa : Option Addr} {n cap : Nat} {l : List PEv} (h : EvsAt w (.slice oa n cap) l) (lo hi : Nat) (h1 : lo ≤ hi) (h2 : hi ≤ l.length) : EvsAt w (sliced oa lo hi cap 14) ((l.take hi).drop lo) :=
  ⟨h.1.sub pcells_len (by decide) lo hi h1 h2, fun p hp => h.2 p (List.mem_of_mem_take (List.mem_of_mem_drop hp))⟩
end Go.Proofs.YtjgbflclhkeibaaGreat
