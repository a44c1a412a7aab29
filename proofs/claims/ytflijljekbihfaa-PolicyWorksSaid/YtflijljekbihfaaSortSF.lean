/-
  slices.SortStableFunc at the element types that the program sorts, onto a row of one's own, nil too: it holds the sorted list, no class of equals is turned, nothing else is.
-/
import Derived.Test.YtflijljekbihfaaSortSt
namespace Go.Proofs.Ytflijljekbihfaa
open Go.Shelf Go.RowKit Go.Lib Go.Sort
set_option linter.unusedVariables false
theorem insNilLa (fv : Value) (w : World) : Calls Try.prog 35 #[.slice none 0 0, .int .i64 0, .int .i64 0, fv] w fun e w' => e = .returned (.tuple #[]) ∧ w = w' := by
  go_enter Try.func35, Try.ntmps35
  go_wp2
  go_rounds 1
  go_end0
  exact ⟨rfl, rfl⟩
theorem stNilLa (fv : Value) (w : World) : Calls Try.prog 27 #[.slice none 0 0, .int .i64 0, fv] w fun e w' => e = .returned (.tuple #[]) ∧ w = w' := by
  go_enter Try.func27, Try.ntmps27
  go_wp2
  refine wp_loop_rounds 1 ?_
  rw [rounds_succ]
  go_wp2_with (go_at_call 35; refine (insNilLa _ _).mono ?_; rintro e w' ⟨rfl, rfl⟩)
  go_rounds 1
  go_end0
  exact ⟨rfl, rfl⟩
/-- what SortStableFunc leaves of a row of one's own -/
def SortedLa {α : Type} (enc : α → List Value) (k base e : Nat) (lt : α → α → Bool) (v : Value) (l : List α) (w : World) (en : Ending) (w' : World) : Prop :=
  en = .returned (.tuple #[]) ∧ ∃ l', stableOf lt l l' ∧ l'.length = l.length ∧ Owns enc k base e w' v l' ∧ w.grownBy w' v.ownBlock
theorem sortStableLa {α : Type} [Inhabited α] (enc : α → List Value) (hk : ∀ x, (enc x).length = 14) (h1 : ∀ x, ∀ v ∈ enc x, v.oneCell' = true) (cf : α → α → Int) (hO : SWO (ltOf cf)) (g : Nat) (cb : Array Value) (base e : Nat) (v : Value) (l : List α) (w : World)
    (eg : ∀ args w, (callFunc g args).run Try.prog w = .ok (.enter g args) w)
    (hcmp : ∀ (W : World) (x y : α), Calls Try.prog g (#[.agg (enc x).toArray, .agg (enc y).toArray] ++ cb) W fun e w' => e = .returned (.int .i64 (cf x y)) ∧ ∃ q os', w' = grow (W.drewN q) os')
    (hv : Owns enc 14 base e w v l) (hl : l.length ≤ 1000000000) :
    Calls Try.prog 18 #[v, .func (.func g) #[] cb] w (SortedLa enc 14 base e (ltOf cf) v l w) := by
  have hshape := hv.2
  rcases hshape with ⟨rfl, hn⟩ | ⟨b, cap, cur, rfl, _, hh, _, _, _, _⟩
  · have hl0 : l = [] := List.eq_nil_of_length_eq_zero hn
    subst hl0
    have HV := Lib.hid hv
    clear hv hcmp eg hn hk h1
    go_enter Try.func18, Try.ntmps18
    go_wp2_with (go_at_call 27; refine (stNilLa _ _).mono ?_; rintro e w' ⟨rfl, rfl⟩)
    go_end0
    exact ⟨rfl, [], ⟨List.Pairwise.nil, fun _ => rfl⟩, rfl, HV.out, World.grownBy.refl _ _⟩
  · have hb : b < w.heap.size := (Array.getElem?_eq_some_iff.1 hh).1
    have hst := stableLa stLa enc cf hO g cb b 0 cap l.toArray w eg (fun m os dk _ x y => hcmp _ x y) ⟨hk, h1, owns_holds (by decide) hk hv, hb⟩ (by simpa using hl)
    rw [List.size_toArray] at hst
    have HV := Lib.hid hv
    have HST := Lib.hid hst
    have HK := Lib.hid hk
    clear hv hcmp eg hh hst hk h1
    have c1 : ((l.length : Nat) : Int) ≤ 1000000000 := by omega
    go_enter Try.func18, Try.ntmps18
    go_wp2_with fail
    refine HST.out.mono ?_
    rintro e w1 ⟨rfl, d', hs, hso, hw⟩
    have HW := Lib.hid hw
    have HSO := Lib.hid hso
    have HS := Lib.hid hs
    clear hw hso hs
    go_wp2_with fail
    go_end0
    refine ⟨rfl, d'.toList, HSO.out, by simpa using HS.out, ?_⟩
    obtain ⟨n, os, hw⟩ := HW.out
    rw [hw]
    exact ⟨owns_sorted (by decide) HK.out HV.out d' HS.out, grownBy_sort d'⟩


end Go.Proofs.Ytflijljekbihfaa
