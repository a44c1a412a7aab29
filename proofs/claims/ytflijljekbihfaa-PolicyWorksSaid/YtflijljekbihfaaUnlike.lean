/-
  Events of unlike dots: turned round they have the same newest samples, and the same winner. No function of the program is entered.
-/
import Derived.Test.YtflijljekbihfaaOrd
import Derived.Test.YtflijljekbihfaaSymPure
namespace Go.Proofs.Ytflijljekbihfaa
open Go.Sort
set_option linter.unusedVariables false

/-- no two events have one dot -/
def unlike (l : List Ev) : Prop := l.Pairwise fun a b => a.dot ≠ b.dot

theorem swap_of_short {α : Type} {a b : List α} (h : (a ++ b).length ≤ 1) : b ++ a = a ++ b := by
  rw [List.length_append] at h
  cases a with
  | nil => simp
  | cons x a =>
    cases b with
    | nil => simp
    | cons y b => simp only [List.length_cons] at h; omega
theorem pairwise_short {α : Type} {R : α → α → Prop} {l : List α} (h : l.Pairwise R) (hn : ∀ x ∈ l, ∀ y ∈ l, ¬ R x y) : l.length ≤ 1 := by
  cases l with
  | nil => simp
  | cons x l =>
    cases l with
    | nil => simp
    | cons y l =>
      exact absurd ((List.pairwise_cons.1 h).1 y (by simp)) (hn x (by simp) y (by simp))

theorem samples_turn {a b : List Ev} {work node : Int} (h : unlike (a ++ b)) : samples (b ++ a) work node = samples (a ++ b) work node := by
  unfold samples
  refine stSort_eq swo_newerE ⟨(stSort_stable swo_newerE _).1, fun x => ?_⟩
  rw [(stSort_stable swo_newerE _).2 x, List.filter_append, List.filter_append, List.filter_append, List.filter_append]
  refine swap_of_short ?_
  rw [← List.filter_append, ← List.filter_append]
  refine pairwise_short (R := fun a b => a.dot ≠ b.dot) ((h.filter _).filter _) fun y hy z hz => ?_
  simp only [List.mem_filter, isSample, Bool.and_eq_true, beq_iff_eq, eqv, newer, Bool.not_eq_true', decide_eq_false_iff_not] at hy hz
  intro hne
  refine hne ?_
  obtain ⟨⟨_, ⟨_, _⟩, h1⟩, h2, h3⟩ := hy
  obtain ⟨⟨_, ⟨_, _⟩, h4⟩, h5, h6⟩ := hz
  have e1 : y.dot.node = z.dot.node := by omega
  have e2 : y.dot.seq = z.dot.seq := by omega
  cases hyd : y.dot
  cases hzd : z.dot
  rw [hyd, hzd] at e1 e2
  simp only at e1 e2
  rw [e1, e2]
theorem winOf_turn {a b : List Ev} {work node size : Int} (h : unlike (a ++ b)) : winOf (b ++ a) work node size = winOf (a ++ b) work node size := by
  unfold winOf
  rw [samples_turn h]

theorem unlike_eq {l : List Ev} (h : unlike l) : ∀ {x y : Ev}, x ∈ l → y ∈ l → x.dot = y.dot → x = y := by
  induction l with
  | nil => intro x y hx; cases hx
  | cons a l ih =>
    intro x y hx hy e
    have hp := List.pairwise_cons.1 h
    rcases List.mem_cons.1 hx with h1 | h1
    · rcases List.mem_cons.1 hy with h2 | h2
      · rw [h1, h2]
      · rw [h1] at e; exact absurd e (hp.1 y h2)
    · rcases List.mem_cons.1 hy with h2 | h2
      · rw [h2] at e; exact absurd e.symm (hp.1 x h1)
      · exact ih hp.2 h1 h2 e
theorem dot_ext {a b : Dot} (h1 : a.node = b.node) (h2 : a.seq = b.seq) : a = b := by
  cases a; cases b; simp only at h1 h2; rw [h1, h2]
theorem swo_evLater' : SWO evLater where
  irrefl x := by rw [evLater_false]; omega
  trans x y z h1 h2 := by rw [evLater_iff] at *; omega
  ntrans x y z h1 h2 := by rw [evLater_false] at *; omega
theorem eqv_evLater {x y z : Ev} (h1 : eqv evLater x y = true) (h2 : eqv evLater x z = true) : y.dot = z.dot := by
  simp only [eqv, Bool.and_eq_true, Bool.not_eq_true', evLater_false] at h1 h2
  exact dot_ext (by omega) (by omega)
/-- where events stand says nothing of their order by evLater -/
theorem stSort_turn {a b : List Ev} (f : Ev → Bool) (h : unlike (a ++ b)) : stSort evLater ((b ++ a).filter f) = stSort evLater ((a ++ b).filter f) := by
  refine stSort_eq swo_evLater' ⟨(stSort_stable swo_evLater' _).1, fun x => ?_⟩
  rw [(stSort_stable swo_evLater' _).2 x, List.filter_append, List.filter_append, List.filter_append, List.filter_append]
  refine swap_of_short ?_
  rw [← List.filter_append, ← List.filter_append]
  refine pairwise_short (R := fun a b => a.dot ≠ b.dot) ((h.filter _).filter _) fun y hy z hz => ?_
  intro hne
  exact hne (eqv_evLater (List.mem_filter.1 hy).2 (List.mem_filter.1 hz).2)
/-- the first is later than all others -/
theorem head_later {l s : List Ev} {W e : Ev} {f : Ev → Bool} (h : stSort evLater (l.filter f) = W :: s) (he : e ∈ l) (hf : f e = true) (hd : e.dot ≠ W.dot) : evLater W e = true := by
  have hs := (stSort_stable swo_evLater' (l.filter f)).1
  rw [h] at hs
  have hm : e ∈ W :: s := by rw [← h]; exact (stSort_mem swo_evLater' _ _).2 (List.mem_filter.2 ⟨he, hf⟩)
  rcases List.mem_cons.1 hm with rfl | hm
  · exact absurd rfl hd
  · have h1 := (List.pairwise_cons.1 hs).1 e hm
    cases h2 : evLater W e with
    | true => rfl
    | false =>
      exfalso
      rw [evLater_false] at h1 h2
      exact hd (dot_ext (by omega) (by omega))
theorem head_mem {l s : List Ev} {W : Ev} {f : Ev → Bool} (h : stSort evLater (l.filter f) = W :: s) : W ∈ l ∧ f W = true := by
  have : W ∈ l.filter f := (stSort_mem swo_evLater' _ _).1 (by rw [h]; simp)
  exact List.mem_filter.1 this
theorem stSort_length {l : List Ev} : (stSort evLater l).length = l.length := by
  unfold stSort
  have := (insertion_out swo_evLater' l.toArray 0 l.toArray.size (Nat.zero_le _) (Nat.le_refl _)).1
  simpa using this
end Go.Proofs.Ytflijljekbihfaa
