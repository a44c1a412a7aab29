/-
  A region that draws its order, by an invariant: what holds of the listed operations, the slots and the world is kept by each operation that may come up; so nothing is branched over.
-/
import Derived.Test.YtkdjfoehpioghaaStep
namespace Go.Proofs.Ytkdjfoehpioghaa
open Go.RowKit
set_option linter.unusedVariables false

def unlisted (L : Array Bool) : Nat := (L.toList.filter (fun b => !b)).length
theorem unlisted_list : ∀ (l : List Bool) (i : Nat), l[i]? = some false → ((l.set i true).filter (fun b => !b)).length + 1 = (l.filter (fun b => !b)).length
  | [], _, h => by simp at h
  | x :: l, 0, h => by
    obtain rfl : x = false := by simpa using h
    simp
  | x :: l, i + 1, h => by
    have := unlisted_list l i (by simpa using h)
    cases x <;> simp <;> omega
theorem unlisted_set {L : Array Bool} {i : Nat} (h : L.getD i true = false) : unlisted (L.setIfInBounds i true) + 1 = unlisted L := by
  unfold unlisted
  rw [Array.toList_setIfInBounds]
  refine unlisted_list _ _ ?_
  rcases Nat.lt_or_ge i L.size with h' | h'
  · simp [h'] at h ⊢
    exact h
  · simp [Array.getElem?_eq_none h'] at h

section
variable {P : Program} {ops : Array Oper} {Q : Exit → Act → World → Prop} {md : Region.Mode}
theorem wpAny_inv (I : Array Bool → Act → World → Prop)
    (hstep : ∀ (L : Array Bool) (a : Act) (w : World) (i : Nat), i ∈ Region.ready md ops L → I L a w → wpOp P ops Q i (I (L.setIfInBounds i true)) a w)
    (hend : ∀ (L : Array Bool) (a : Act) (w : World), Region.ready md ops L = [] → I L a w → Q .normal a w) :
    ∀ (fuel : Nat) (L : Array Bool) (a : Act) (w : World), unlisted L ≤ fuel → I L a w → wpAny P md ops Q fuel L a w := by
  intro fuel
  induction fuel with
  | zero =>
    intro L a w hu hI
    have hr : Region.ready md ops L = [] := by
      refine List.eq_nil_iff_forall_not_mem.2 fun i hi => ?_
      have := unlisted_set (mem_ready.1 hi).1
      omega
    exact ⟨hr, hend L a w hr hI⟩
  | succ fuel ih =>
    intro L a w hu hI
    refine ⟨fun hr => hend L a w hr hI, fun i hi => ?_⟩
    have := unlisted_set (mem_ready.1 hi).1
    exact wpOp_mono (fun a' w' h => ih _ a' w' (by omega) h) (hstep L a w i hi hI)
theorem unlisted_start (n : Nat) : unlisted (Array.replicate n false) ≤ n := by
  unfold unlisted
  refine Nat.le_trans (List.length_filter_le _ _) (by simp)
/-- the whole region by an invariant -/
theorem wp_region_inv {id : Nat} {a : Act} {w : World} (hm : P.follows .mixedOrders = true) (I : Array Bool → Act → World → Prop)
    (hI : I (Array.replicate ops.size false) a w.drew)
    (hstep : ∀ (L : Array Bool) (a : Act) (w : World) (i : Nat), i ∈ Region.ready .any ops L → I L a w → wpOp P ops Q i (I (L.setIfInBounds i true)) a w)
    (hend : ∀ (L : Array Bool) (a : Act) (w : World), Region.ready .any ops L = [] → I L a w → Q .normal a w) : (Code.region id ops true).wp P Q a w :=
  wp_region_any hm (wpAny_inv I hstep hend _ _ a _ (unlisted_start _) hI)
/-- at the end all is listed: the order of the needs is well-founded ('after' points backwards) -/
theorem all_listed {L : Array Bool} (hs : L.size = ops.size) (hb : ∀ (i : Nat) (o : Oper), ops[i]? = some o → ∀ e ∈ o.after, e.on < i) (hr : Region.ready md ops L = []) : ∀ i, i < ops.size → L.getD i false = true := by
  intro i
  induction i using Nat.strongRecOn with
  | ind i ih =>
    intro hi
    cases hL : L.getD i false with
    | true => rfl
    | false =>
      exfalso
      have hm : i ∈ Region.ready md ops L := by
        refine mem_ready.2 ⟨?_, ops[i], Array.getElem?_eq_getElem hi, fun e he _ => ?_⟩
        · have hi' : i < L.size := by omega
          simp [hi'] at hL ⊢
          exact hL
        · have := hb i ops[i] (Array.getElem?_eq_getElem hi) e he
          exact ih e.on this (by omega)
      rw [hr] at hm
      cases hm
end

/-- the frame stands as it was but for these slots -/
structure Ag (ds : List Nat) (a a' : Act) : Prop where
  size : a'.tmps.size = a.tmps.size
  defers : a'.defers = a.defers
  out : ∀ d, d ∉ ds → a'.eval (.tmp d) = a.eval (.tmp d)
theorem Ag.refl (ds : List Nat) (a : Act) : Ag ds a a := ⟨rfl, rfl, fun _ _ => rfl⟩
theorem eval_put_ne {a : Act} {d d' : Nat} (v : Value) (h : d ≠ d') : (a.put (some d) v).eval (.tmp d') = a.eval (.tmp d') := by
  simp [Act.eval, Act.put, Array.getD_eq_getD_getElem?, Array.getElem?_setIfInBounds_ne h]
theorem eval_put_same {a : Act} {d : Nat} (v : Value) (h : d < a.tmps.size) : (a.put (some d) v).eval (.tmp d) = v := by
  simp [Act.eval, Act.put, Array.getD_eq_getD_getElem?, h]
theorem size_put (a : Act) (d : Nat) (v : Value) : (a.put (some d) v).tmps.size = a.tmps.size := by simp [Act.put]
theorem Ag.put {ds : List Nat} {a a' : Act} (h : Ag ds a a') {d : Nat} (hd : d ∈ ds) (v : Value) : Ag ds a (a'.put (some d) v) :=
  ⟨(size_put _ _ _).trans h.size, h.defers, fun d' hd' => (eval_put_ne v (fun e => hd' (by rw [← e]; exact hd))).trans (h.out d' hd')⟩
/-- the frame, written out from its slots -/
theorem Ag.final {a : Act} : ∀ (ds : List Nat) {a' : Act}, (∀ d ∈ ds, d < a.tmps.size) → Ag ds a a' → a' = ds.foldl (fun b d => b.put (some d) (a'.eval (.tmp d))) a := by
  have key : ∀ (ds : List Nat) (b a' : Act), b.tmps.size = a'.tmps.size → b.defers = a'.defers → (∀ d, d ∉ ds → a'.eval (.tmp d) = b.eval (.tmp d)) → a' = ds.foldl (fun b d => b.put (some d) (a'.eval (.tmp d))) b := by
    intro ds
    induction ds with
    | nil =>
      intro b a' hs hd ho
      cases b with | mk tb db => cases a' with | mk ta da =>
      simp only at hs hd
      subst hd
      show (⟨ta, db⟩ : Act) = ⟨tb, db⟩
      congr 1
      refine Array.ext hs.symm fun i h1 h2 => ?_
      have := ho i (by simp)
      simpa [Act.eval, Array.getD_eq_getD_getElem?, h1, h2] using this
    | cons d ds ih =>
      intro b a' hs hd ho
      refine ih (b.put (some d) (a'.eval (.tmp d))) a' ((size_put _ _ _).trans hs) hd fun d' hd' => ?_
      by_cases he : d = d'
      · subst he
        by_cases hlt : d < b.tmps.size
        · rw [eval_put_same _ hlt]
        · have e1 : ∀ (x : Act), ¬ d < x.tmps.size → x.eval (.tmp d) = undef := fun x hx => by
            simp [Act.eval, Array.getD_eq_getD_getElem?, Array.getElem?_eq_none (Nat.le_of_not_lt hx)]
          rw [e1 a' (by omega), e1 _ (by rw [size_put]; exact hlt)]
      · rw [eval_put_ne _ he]
        exact ho d' (by simp only [List.mem_cons, not_or]; exact ⟨fun e => he e.symm, hd'⟩)
  exact fun ds a' _ h => key ds a a' h.size.symm h.defers.symm h.out

/-- slots whose values are known once their operation is listed: (operation, slot, value) -/
def Knows (K : List (Nat × Nat × Value)) (L : Array Bool) (a : Act) : Prop := ∀ p ∈ K, L.getD p.1 false = true → a.eval (.tmp p.2.1) = p.2.2
theorem getD_set_same {L : Array Bool} {i : Nat} (h : i < L.size) : (L.setIfInBounds i true).getD i false = true := by simp [h]
theorem Knows.put {K : List (Nat × Nat × Value)} {L : Array Bool} {a : Act} (h : Knows K L a) {i d : Nat} {v : Value} (hd : d < a.tmps.size) (hi : ∀ p ∈ K, (p.1 = i → p.2.1 = d ∧ p.2.2 = v) ∧ (p.1 ≠ i → p.2.1 ≠ d)) : Knows K (L.setIfInBounds i true) (a.put (some d) v) := by
  intro p hp hL
  by_cases he : p.1 = i
  · obtain ⟨h1, h2⟩ := (hi p hp).1 he
    rw [h1, h2, eval_put_same v hd]
  · rw [eval_put_ne v (fun e => (hi p hp).2 he e.symm)]
    exact h p hp (by rwa [getD_set_ne false (fun e => he e.symm)] at hL)
theorem Knows.put_none {K : List (Nat × Nat × Value)} {L : Array Bool} {a : Act} (h : Knows K L a) {i : Nat} (hi : ∀ p ∈ K, p.1 ≠ i) : Knows K (L.setIfInBounds i true) a := by
  intro p hp hL
  exact h p hp (by rwa [getD_set_ne false (fun e => hi p hp e.symm)] at hL)
theorem Knows.none (K : List (Nat × Nat × Value)) (n : Nat) (a : Act) : Knows K (Array.replicate n false) a := by
  intro p hp hL
  simp [Array.getD_eq_getD_getElem?] at hL
  by_cases h : p.1 < n <;> simp [h] at hL
end Go.Proofs.Ytkdjfoehpioghaa
