/-
  Maps whose keys are dots: what a map in memory holds, as a list of dots with values; look-up, store, delete, len, and a range over it.
-/
import Derived.Test.YtidiapgdgoeplaaBookP
import Derived.Test.YtidiapgdgoeplaaOpen
import Derived.Maps.RangeWalk
import Derived.Maps.OwnSet
import Derived.DeepKeys4
namespace Go.Proofs.Ytidiapgdgoeplaa
open Go.RowKit Go.Maps
set_option linter.unusedVariables false
def dotVal (d : Dot) : Value := .agg #[.int .i64 d.node, .int .i64 d.seq]
theorem rowDot : (28 : TypeId) < (Try.prog).types.size := of_decide_eq_true (by kernel_rfl)
theorem keyDot : Keyed Try.prog 28 := Keyed.of_law (deep_law_laid laidOutP (m := 3) (by omega) rowDot (by kernel_rfl) (by rw [Try.underlying28]))
def DFits (d : Dot) : Prop := (Lit.int .i64 d.node).wf = true ∧ (Lit.int .i64 d.seq).wf = true
theorem typesPos : 0 < (Try.prog).types.size := of_decide_eq_true (by kernel_rfl)
theorem succ_of {n : Nat} (h : 0 < n) : ∃ m, n = m + 1 := ⟨n - 1, by omega⟩
theorem keyOf_dot {d : Dot} (h : DFits d) : ∃ l, keyOf Try.prog 28 (dotVal d) = some l := by
  have hk : (Try.prog).keyType 28 = true := by kernel_rfl
  have hc2 : (Try.prog).cellsOf 28 = 2 := by kernel_rfl
  have hc1 : (Try.prog).cellsOf 3 = 1 := by kernel_rfl
  have hf : Value.formed Try.prog 28 (dotVal d) = true := by simp [Value.formed, dotVal, Try.underlying28, hc2]
  obtain ⟨m, hm⟩ := succ_of typesPos
  unfold keyOf
  rw [Try.underlying28, hk, hf, hm]
  simp [Program.keyLits, Try.underlying28, Try.underlying3, hc1, hc2, dotVal, Value.cells, h.1, h.2]
theorem two_of {α : Type} : ∀ {l : List α}, l.length = 2 → ∃ a b, l = [a, b]
  | [a, b], _ => ⟨a, b, rfl⟩
theorem keyOf_dot_inv {v : Value} {l : Lit} (h : keyOf Try.prog 28 v = some l) : ∃ d, DFits d ∧ v = dotVal d := by
  obtain ⟨xs, L, rfl, hl, _⟩ := keyOf_top (k := 28) (P := Try.prog) (by rw [Try.underlying28]) h
  have hc2 : (Try.prog).cellsOf 28 = 2 := by kernel_rfl
  have hc1 : (Try.prog).cellsOf 3 = 1 := by kernel_rfl
  obtain ⟨m, hm⟩ := succ_of typesPos
  rw [hm] at hl
  obtain ⟨ys⟩ := xs
  unfold Program.keyLits at hl
  simp only [Try.underlying28, hc2] at hl
  clear hm h hc2
  split at hl
  · rename_i hlen
    obtain ⟨a, b, rfl⟩ := two_of hlen.1
    simp [Program.keyLits, Try.underlying3, hc1] at hl
    cases a <;> simp at hl
    rename_i qa na
    by_cases ha : qa = .i64 ∧ (Lit.int .i64 na).wf = true
    · obtain ⟨rfl, ha⟩ := ha
      simp only [ha, and_self, if_true, Option.bind_some, Function.comp] at hl
      cases b <;> simp at hl
      rename_i qb nb
      by_cases hb : qb = .i64 ∧ (Lit.int .i64 nb).wf = true
      · obtain ⟨rfl, hb⟩ := hb
        exact ⟨⟨na, nb⟩, ⟨ha, hb⟩, rfl⟩
      · simp [hb] at hl
    · simp [ha] at hl
  · cases hl
noncomputable def kl (d : Dot) : Lit := @Classical.epsilon Lit ⟨.bool false⟩ fun l => keyOf Try.prog 28 (dotVal d) = some l
theorem kl_is {d : Dot} (h : DFits d) : keyOf Try.prog 28 (dotVal d) = some (kl d) := @Classical.epsilon_spec Lit (fun l => keyOf Try.prog 28 (dotVal d) = some l) (keyOf_dot h)
theorem dotVal_inj {a b : Dot} (h : dotVal a = dotVal b) : a = b := by
  cases a; cases b
  simp [dotVal] at h
  rw [h.1, h.2]
theorem kl_inj {a b : Dot} (ha : DFits a) (hb : DFits b) (e : kl a = kl b) : a = b := by
  have h1 := kl_is ha
  have h2 := kl_is hb
  rw [e] at h1
  generalize kl b = l at h1 h2
  exact dotVal_inj (keyDot.inj h1 h2)
theorem kl_key {d : Dot} (h : DFits d) : WideAt.IsKeyLit (kl d) := by
  have h1 := kl_is h
  generalize kl d = l at h1
  exact keyDot.key h1
theorem may_fits {d : Dot} (h : May d) : DFits d := by
  unfold May at h
  exact ⟨WalkArith.wf_i64 (by omega), WalkArith.wf_i64 (by omega)⟩
def heldR (v : Value) : Option (DataW Value × List MemPlace) := some (.held v, [])
def lookE (E : List (Dot × Value)) (d : Dot) : Option Value := (E.find? fun p => decide (p.1 = d)).map (·.2)
def putE (E : List (Dot × Value)) (d : Dot) (v : Value) : List (Dot × Value) := (d, v) :: E.filter fun p => decide (p.1 ≠ d)
def delE (E : List (Dot × Value)) (d : Dot) : List (Dot × Value) := E.filter fun p => decide (p.1 ≠ d)
theorem lookE_del_other {E : List (Dot × Value)} {d x : Dot} (h : x ≠ d) : lookE (delE E d) x = lookE E x := by
  unfold lookE delE
  induction E with
  | nil => rfl
  | cons p E ih =>
    rw [List.filter_cons]
    by_cases e : p.1 = d
    · have hx : decide (p.1 = x) = false := decide_eq_false fun e2 => h (e2.symm.trans e)
      simp only [e, ne_eq, not_true_eq_false, decide_false, Bool.false_eq_true, if_false, List.find?_cons]
      rw [e] at hx
      rw [hx]
      exact ih
    · simp only [ne_eq, e, not_false_eq_true, decide_true, if_true, List.find?_cons]
      split
      · rfl
      · exact ih
theorem lookE_del_same {E : List (Dot × Value)} {d : Dot} : lookE (delE E d) d = none := by
  unfold lookE delE
  rw [Option.map_eq_none_iff, List.find?_eq_none]
  intro p hp
  have := (List.mem_filter.1 hp).2
  simpa using this
theorem lookE_put_same {E : List (Dot × Value)} {d : Dot} {v : Value} : lookE (putE E d v) d = some v := by
  unfold lookE putE
  rw [List.find?_cons, decide_eq_true rfl]
  rfl
theorem lookE_put_other {E : List (Dot × Value)} {d x : Dot} {v : Value} (h : x ≠ d) : lookE (putE E d v) x = lookE E x := by
  rw [← lookE_del_other (E := E) h]
  unfold lookE putE delE
  rw [List.find?_cons, decide_eq_false (fun e => h e.symm)]
theorem lookE_mem {E : List (Dot × Value)} (hn : (E.map (·.1)).Nodup) {d : Dot} {v : Value} : lookE E d = some v ↔ (d, v) ∈ E := by
  unfold lookE
  induction E with
  | nil => simp
  | cons p E ih =>
    rw [List.map_cons, List.nodup_cons] at hn
    rw [List.find?_cons]
    by_cases e : p.1 = d
    · rw [decide_eq_true e]
      obtain ⟨a, b⟩ := p
      simp only at e hn
      subst e
      simp only [Option.map_some, Option.some.injEq, List.mem_cons, Prod.mk.injEq, true_and]
      constructor
      · intro h; exact .inl h.symm
      · rintro (h | h)
        · exact h.symm
        · exact absurd (List.mem_map_of_mem (f := (·.1)) h) hn.1
    · rw [decide_eq_false e, List.mem_cons]
      simp only [ih hn.2]
      constructor
      · exact .inr
      · rintro (h | h)
        · exact absurd (by rw [← h]) e
        · exact h
theorem lookE_none {E : List (Dot × Value)} {d : Dot} : lookE E d = none ↔ d ∉ E.map (·.1) := by
  unfold lookE
  rw [Option.map_eq_none_iff, List.find?_eq_none]
  constructor
  · intro h hm
    obtain ⟨p, hp, e⟩ := List.mem_map.1 hm
    exact h p hp (by simpa using e)
  · intro h p hp hd
    exact h (List.mem_map.2 ⟨p, hp, by simpa using hd⟩)
/-- the datum of a map that holds just these entries -/
structure MapD (D : DataW Value) (E : List (Dot × Value)) : Prop where
  at' : ∀ d, DFits d → ∀ z, D.atKey (kl d) z = (match lookE E d with | some v => .held v | none => z)
  has : ∀ d, DFits d → Maps.has D (kl d) = (lookE E d).isSome
  size : Maps.size D = E.length
  nodup : (E.map (·.1)).Nodup
  fits : ∀ p ∈ E, DFits p.1
  keys : ∀ k, Maps.has D k = true → ∃ p ∈ E, kl p.1 = k
  tidy : Tidy D
theorem MapD.none : MapD (.map []) [] := ⟨fun d _ z => rfl, fun d _ => rfl, rfl, List.Pairwise.nil, (fun _ h => nomatch h), (fun k h => by cases h), tidy_empty⟩
theorem delE_len {E : List (Dot × Value)} (hn : (E.map (·.1)).Nodup) (d : Dot) : (delE E d).length + (if (lookE E d).isSome then 1 else 0) = E.length := by
  unfold delE lookE
  induction E with
  | nil => rfl
  | cons p E ih =>
    rw [List.map_cons, List.nodup_cons] at hn
    have := ih hn.2
    rw [List.filter_cons, List.find?_cons]
    by_cases e : p.1 = d
    · have hno : E.find? (fun p => decide (p.1 = d)) = Option.none := List.find?_eq_none.2 fun q hq hd => hn.1 (by rw [e]; exact List.mem_map.2 ⟨q, hq, by simpa using hd⟩)
      rw [hno] at this
      simp [e] at this ⊢
      exact this
    · rw [decide_eq_false e]
      simp only [ne_eq, e, not_false_eq_true, decide_true, if_true, List.length_cons]
      simp only [ne_eq] at this
      omega
theorem MapD.put {D : DataW Value} {E : List (Dot × Value)} (h : MapD D E) {d : Dot} (hd : DFits d) (v : Value) : MapD (D.put (kl d) (.held v)) (putE E d v) where
  at' x hx z := by
    by_cases e : x = d
    · subst e
      rw [atKey_put_same h.tidy.isMap (kl_key hx), lookE_put_same]
    · rw [atKey_put_other (fun e2 => e (kl_inj hx hd e2)), lookE_put_other e]
      exact h.at' x hx z
  has x hx := by
    by_cases e : x = d
    · subst e
      rw [has_put_same h.tidy.isMap (kl_key hx), lookE_put_same]; rfl
    · rw [has_put_other (fun e2 => e (kl_inj hx hd e2)), lookE_put_other e]
      exact h.has x hx
  size := by
    rw [size_put h.tidy, h.has d hd, h.size]
    have := delE_len h.nodup d
    unfold putE
    rw [List.length_cons]
    unfold delE at this
    cases hs : (lookE E d).isSome with
    | true => rw [hs] at this; simp only [if_true] at this ⊢; omega
    | false => rw [hs] at this; simp only [Bool.false_eq_true, if_false] at this ⊢; omega
  nodup := by
    unfold putE
    rw [List.map_cons, List.nodup_cons]
    refine ⟨fun hm => ?_, List.Pairwise.sublist (List.Sublist.map _ List.filter_sublist) h.nodup⟩
    obtain ⟨p, hp, e⟩ := List.mem_map.1 hm
    have := (List.mem_filter.1 hp).2
    simp only [ne_eq, decide_eq_true_eq] at this
    exact this e
  fits p hp := by
    rcases List.mem_cons.1 hp with rfl | hp
    · exact hd
    · exact h.fits p (List.mem_filter.1 hp).1
  keys k hk := by
    by_cases e : k = kl d
    · refine ⟨(d, v), List.mem_cons_self, ?_⟩
      rw [e]
    · rw [has_put_other e] at hk
      obtain ⟨p, hp, rfl⟩ := h.keys k hk
      exact ⟨p, List.mem_cons_of_mem _ (List.mem_filter.2 ⟨hp, by simp only [ne_eq, decide_eq_true_eq]; exact fun e2 => e (by rw [e2])⟩), rfl⟩
  tidy := by
    have hk := kl_key hd
    generalize kl d = k at hk
    exact h.tidy.put hk _
theorem MapD.del {D : DataW Value} {E : List (Dot × Value)} (h : MapD D E) {d : Dot} (hd : DFits d) : MapD (D.del (kl d)) (delE E d) where
  at' x hx z := by
    by_cases e : x = d
    · subst e
      rw [atKey_del_same, lookE_del_same]
    · rw [atKey_del_other (fun e2 => e (kl_inj hx hd e2)), lookE_del_other e]
      exact h.at' x hx z
  has x hx := by
    by_cases e : x = d
    · subst e
      rw [has_del_same, lookE_del_same]; rfl
    · rw [has_del_other (fun e2 => e (kl_inj hx hd e2)), lookE_del_other e]
      exact h.has x hx
  size := by
    have h1 := size_del (k := kl d) h.tidy
    have h2 := delE_len h.nodup d
    rw [h.has d hd, h.size] at h1
    omega
  nodup := List.Pairwise.sublist (List.Sublist.map _ List.filter_sublist) h.nodup
  fits p hp := h.fits p (List.mem_filter.1 hp).1
  keys k hk := by
    by_cases e : k = kl d
    · rw [e, has_del_same] at hk; cases hk
    · rw [has_del_other e] at hk
      obtain ⟨p, hp, rfl⟩ := h.keys k hk
      exact ⟨p, List.mem_filter.2 ⟨hp, by simp only [ne_eq, decide_eq_true_eq]; exact fun e2 => e (by rw [e2])⟩, rfl⟩
  tidy := by
    generalize kl d = k
    exact h.tidy.del k
end Go.Proofs.Ytidiapgdgoeplaa
