/-
  A map from int to bool that holds true at each of its keys, read as the list of its keys.
-/
import Derived.Test.YtjffaekajjokiaaNext
import Derived.Maps.OwnSet
namespace Go.Proofs.Ytjffaekajjokiaa
open Go.Shelf Go.RowKit Go.Lib Go.Sort Go.Maps
set_option linter.unusedVariables false
def Fits (x : Int) : Prop := (Lit.int .i64 x).wf = true
theorem keyInt : Keyed Try.prog 3 := int_keyed Try.underlying3
theorem zeroBool (w : World) : (zeroValue 4).run Try.prog w = .ok (.bool false) w := Try.zeroValue4 w
structure SetD (D : DataW Unit) (S : List Int) : Prop where
  at' : ∀ x, D.atKey (.int .i64 x) (.lit (.bool false)) = .lit (.bool (decide (x ∈ S)))
  has : ∀ x, Maps.has D (.int .i64 x) = decide (x ∈ S)
  size : Maps.size D = S.length
  tidy : Tidy D
theorem SetD.none : SetD (.map []) [] := ⟨fun x => rfl, fun x => rfl, rfl, tidy_empty⟩
def addS (S : List Int) (x : Int) : List Int := if x ∈ S then S else S ++ [x]
theorem mem_addS (S : List Int) (x y : Int) : y ∈ addS S x ↔ y ∈ S ∨ y = x := by
  unfold addS
  split
  · exact ⟨.inl, fun h => h.elim id fun e => by subst e; assumption⟩
  · simp
theorem SetD.put {D : DataW Unit} {S : List Int} (h : SetD D S) (x : Int) : SetD (D.put (.int .i64 x) (.lit (.bool true))) (addS S x) where
  at' y := by
    by_cases e : y = x
    · subst e
      rw [atKey_put_same h.tidy.isMap (by first | trivial | decide | simp [WideAt.IsKeyLit])]
      rw [decide_eq_true ((mem_addS S y y).2 (.inr rfl))]
    · rw [atKey_put_other (by intro h2; injection h2 with _ h3; exact e h3), h.at' y]
      have : (y ∈ S) ↔ (y ∈ addS S x) := by rw [mem_addS]; simp [e]
      simp only [this]
  has y := by
    by_cases e : y = x
    · subst e
      rw [has_put_same h.tidy.isMap (by first | trivial | decide | simp [WideAt.IsKeyLit])]
      rw [decide_eq_true ((mem_addS S y y).2 (.inr rfl))]
    · rw [has_put_other (by intro h2; injection h2 with _ h3; exact e h3), h.has y]
      have : (y ∈ S) ↔ (y ∈ addS S x) := by rw [mem_addS]; simp [e]
      simp only [this]
  size := by
    rw [size_put h.tidy, h.has x, h.size]
    unfold addS
    by_cases e : x ∈ S <;> simp [e]
  tidy := h.tidy.put (by first | trivial | decide | simp [WideAt.IsKeyLit]) _
/-- block b is a map that holds true at just these keys -/
def IsSet (w : World) (b n : Nat) (S : List Int) : Prop := ∃ D : DataW Unit, w.ownsMap Try.prog 3 (plainElem Try.prog 4) b n D ∧ SetD D S
theorem IsSet.made (w : World) : IsSet (w.alloc (.map #[] 0)) w.heap.size 0 [] := ⟨_, World.ownsMap_made w _ _ _, SetD.none⟩
theorem IsSet.lt {w : World} {b n : Nat} {S : List Int} (h : IsSet w b n S) : b < w.heap.size := by obtain ⟨D, h, _⟩ := h; exact h.lt
theorem IsSet.kept {w w' : World} {b n : Nat} {S : List Int} {row : Option Nat} (h : IsSet w b n S) (hg : w.grownBy w' row) (hne : some b ≠ row) : IsSet w' b n S := by obtain ⟨D, h, h2⟩ := h; exact ⟨D, h.kept hg hne, h2⟩
theorem IsSet.below {w w' : World} {b n B : Nat} {S : List Int} (h : IsSet w b n S) (hb : Below B w w') (hB : b < B) : IsSet w' b n S := by
  obtain ⟨D, ⟨es, clock, h1, h2⟩, h3⟩ := h
  exact ⟨D, ⟨es, clock, (hb.block b hB).trans h1, h2⟩, h3⟩
theorem IsSet.look {w : World} {b n : Nat} {S : List Int} (h : IsSet w b n S) (x : Int) (hx : Fits x) : (Instr.lookup 25 (.map (some b)) (.int .i64 x) false).run Try.prog w = .ok (.bool (decide (x ∈ S))) w := by
  obtain ⟨D, h, h2⟩ := h
  obtain ⟨v, ps, hrun, hv⟩ := h.lookup keyInt Try.underlying25 (zeroBool w) (plainElem_bool Try.underlying4 false) (keyOf_int_mk Try.underlying3 hx)
  rw [h2.at' x] at hv
  have : v = .bool (decide (x ∈ S)) := by
    unfold plainElem at hv
    rw [Try.underlying4] at hv
    cases v <;> simp at hv
    rw [← hv.1]
  rw [this] at hrun
  exact hrun
theorem IsSet.store {w : World} {b n : Nat} {S : List Int} (h : IsSet w b n S) (x : Int) (hx : Fits x) (hn : n < 1000000) : ∃ w', (Instr.mapUpdate 25 (.map (some b)) (.int .i64 x) (.bool true)).run Try.prog w = .ok () w' ∧ IsSet w' b (n + 1) (addS S x) ∧ w.grownBy w' (some b) := by
  obtain ⟨D, h, h2⟩ := h
  obtain ⟨w', h3, h4, h5⟩ := h.update keyInt Try.underlying25 (by unfold maxLen; omega) (keyOf_int_mk Try.underlying3 hx) (plainElem_bool Try.underlying4 true)
  exact ⟨w', h3, ⟨_, h4, h2.put x⟩, h5⟩
theorem IsSet.len {w : World} {b n : Nat} {S : List Int} (h : IsSet w b n S) (ty : TypeId) : (Builtin.len_ #[25] ty #[.map (some b)]).run Try.prog w = .ok (.int .i64 S.length) w := by
  obtain ⟨D, h, h2⟩ := h
  rw [h.len Try.underlying25 ty, h2.size]
end Go.Proofs.Ytjffaekajjokiaa
