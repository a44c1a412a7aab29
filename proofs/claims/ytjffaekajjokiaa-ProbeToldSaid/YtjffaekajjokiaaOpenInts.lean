/-
  How arguments with slices of ints are opened, in this text's own words (SlAt icells), with the bounds of the form's reach. No function of the program is entered.
-/
import Derived.Test.YtjffaekajjokiaaIntRow
import Derived.Test.YtjffaekajjokiaaRows
import Derived.ProofKit
import Derived.OpenShut
import Derived.SizedLaws
import Derived.DataElems
namespace Go.Proofs.Ytjffaekajjokiaa
open Go.ChangeShapes Go.WideShapes Go.ChangeAt Go.RowKit
set_option linter.unusedVariables false
theorem ownNone : ownKnob Try.prog.godebug = none := by kernel_rfl
theorem laidOutP : laidOutB Try.prog = true := by kernel_rfl

def I64 (n : Int) : Prop := -9223372036854775808 ≤ n ∧ n ≤ 9223372036854775807
theorem i64_of_wf {n : Int} (h : (Lit.int .i64 n).wf = true) : I64 n := by
  have hmin : IntKind.i64.min = -9223372036854775808 := rfl
  have hmax : IntKind.i64.max = 9223372036854775807 := rfl
  simp only [Lit.wf, Bool.and_eq_true, decide_eq_true_eq] at h
  exact ⟨by omega, by omega⟩

theorem u8_of_wf {n : Int} (h : (Lit.int .u8 n).wf = true) : 0 ≤ n ∧ n ≤ 255 := by
  have hmin : IntKind.u8.min = 0 := rfl
  have hmax : IntKind.u8.max = 255 := rfl
  simp only [Lit.wf, Bool.and_eq_true, decide_eq_true_eq] at h
  exact ⟨by omega, by omega⟩
theorem u64_of_wf {n : Int} (h : (Lit.int .u64 n).wf = true) : 0 ≤ n ∧ n < 18446744073709551616 := by
  have hmin : IntKind.u64.min = 0 := rfl
  have hmax : IntKind.u64.max = 18446744073709551615 := rfl
  simp only [Lit.wf, Bool.and_eq_true, decide_eq_true_eq] at h
  exact ⟨by omega, by omega⟩
theorem list4 {l : List Value} (h : l.length = 4) : ∃ a b c d, l = [a, b, c, d] := by
  match l, h with
  | [a, b, c, d], _ => exact ⟨a, b, c, d, rfl⟩
theorem list5 {l : List Value} (h : l.length = 5) : ∃ a b c d e, l = [a, b, c, d, e] := by
  match l, h with
  | [a, b, c, d, e], _ => exact ⟨a, b, c, d, e, rfl⟩
section
variable {H : Type} {enc : TypeId × Value → H} {w : World} {base : Nat} {spare : Nat → Bool} {held : Bool}
/-- each string, slice and map that is met takes at most the reach -/
def Within (t : TypeId) (d : DataW H) : Prop := ∀ n ∈ d.weights Try.prog t, n ≤ reachBytes

theorem within_arg {ts : List TypeId} {ds : List (DataW H)} (h : (DataW.weightsEach Try.prog ts ds).all (· ≤ reachBytes) = true) (j : Nat) {t : TypeId} {d : DataW H} (ht : ts[j]? = some t) (hd : ds[j]? = some d) : Within t d :=
  fun n hn => by simpa using List.all_eq_true.1 h _ (DataW.weights_mem_each ht hd n hn)

theorem within_mem {e : TypeId} : ∀ {l : List (DataW H)} {d : DataW H}, d ∈ l → ∀ n ∈ d.weights Try.prog e, n ∈ DataW.weightsAll Try.prog e l
  | d0 :: l, d, hd, n, hn => by
    simp only [DataW.weightsAll, List.mem_append]
    rcases List.mem_cons.1 hd with rfl | hd
    · exact .inl hn
    · exact .inr (within_mem hd n hn)

theorem within_slice {t e : TypeId} {elems rest : List (DataW H)} (hu : Try.prog.underlying t = some (.slice e)) (h : Within t (.slice elems rest)) : (elems.length + rest.length) * Try.prog.bytesOf e ≤ reachBytes ∧ ∀ d ∈ elems, Within e d := by
  unfold Within at h
  simp only [DataW.weights, hu, List.mem_cons, List.mem_append] at h
  exact ⟨h _ (.inl rfl), fun d hd n hn => h n (.inr (.inl (within_mem hd n hn)))⟩

theorem within_fld {t : TypeId} {fs : Array Field} {parts : List (DataW H)} (hu : Try.prog.underlying t = some (.struct fs)) (h : Within t (.agg parts)) (j : Nat) {f : Field} (hf : (fs.toList.map (·.type))[j]? = some f.type) {d : DataW H} (hd : parts[j]? = some d) : Within f.type d := by
  unfold Within at h
  simp only [DataW.weights, hu] at h
  exact fun n hn => h n (DataW.weights_mem_each hf hd n hn)

theorem pick_all {α : Type} {Q : Nat → α → Prop} : ∀ (n : Nat), (∀ i, i < n → ∃ a, Q i a) → ∃ l : List α, l.length = n ∧ ∀ i (h : i < l.length), Q i l[i]
  | 0, _ => ⟨[], rfl, fun i h => absurd h (by simp)⟩
  | n + 1, h => by
    obtain ⟨l, hl, hq⟩ := pick_all n fun i hi => h i (by omega)
    obtain ⟨a, ha⟩ := h n (by omega)
    refine ⟨l ++ [a], by simp [hl], fun i hi => ?_⟩
    by_cases e : i < l.length
    · rw [List.getElem_append_left e]; exact hq i e
    · obtain rfl : i = l.length := by simp at hi; omega
      simp only [List.getElem_concat_length]
      rw [hl]; exact ha

/-- a slice whose elements are read one by one -/
theorem trod_row {α : Type} (enc' : α → List Value) (k : Nat) (hk : ∀ x, (enc' x).length = k) (k0 : 0 < k) {t e : TypeId} (hu : Try.prog.underlying t = some (.slice e)) (hc : Try.prog.cellsOf e = k) (fit : α → Prop)
    (one : ∀ n cs (x : DataW H × List MemPlace), DataW.trod enc Try.prog w base spare held n e cs = some x → Within e x.1 → ∃ a : α, cs = enc' a ∧ fit a)
    {fuel : Nat} {cs : List Value} {x : DataW H × List MemPlace} (h : DataW.trod enc Try.prog w base spare held fuel t cs = some x) (hw : Within t x.1) :
    ∃ oa cap l, cs = [.slice oa l.length cap] ∧ SlAt enc' w (.slice oa l.length cap) l ∧ l.length * Try.prog.bytesOf e ≤ reachBytes ∧ ∀ a ∈ l, fit a := by
  rcases DataW.trod_slice hu h with ⟨rfl, rfl⟩ | ⟨a, len, cap, elems, rest, n, _, rfl, rfl, _, hlc, _, hel, hat, _, _⟩
  · exact ⟨none, 0, [], rfl, SlAt.nil _ _, by simp, fun a ha => by cases ha⟩
  · obtain ⟨hsz, hin⟩ := within_slice hu hw
    rw [hc] at hat
    have hall : ∀ i, i < len → ∃ b : α, (w.cells? base (a.add (i * k)) k) = some (enc' b) ∧ fit b := fun i hi => by
      have h1 := hat i hi
      have hlt : i < elems.length := by omega
      rw [List.getElem?_eq_getElem hlt] at h1
      obtain ⟨cs, hcs, htr⟩ := Option.bind_eq_some_iff.1 h1
      obtain ⟨b, rfl, hb⟩ := one n cs _ htr (hin _ (List.mem_map_of_mem (List.getElem_mem hlt)))
      exact ⟨b, hcs, hb⟩
    obtain ⟨l, hl, hq⟩ := pick_all len hall
    subst hl
    refine ⟨some a, cap, l, rfl, ⟨some a, cap, rfl, hlc, fun h => (nomatch h), fun a' ha' j u hj => ?_⟩, ?_, fun b hb => ?_⟩
    · cases ha'
      have hjl := (List.getElem?_eq_some_iff.1 hj).1
      rw [flat_len enc' k hk] at hjl
      have hi : j / k < l.length := (Nat.div_lt_iff_lt_mul k0).2 hjl
      have hcc : j % k < k := Nat.mod_lt _ k0
      have hjk : j / k * k + j % k = j := Nat.div_add_mod' j k
      have hf := flat_at enc' k hk l (j / k) (j % k) hi hcc
      rw [hjk, hj] at hf
      have h2 := (World.cells?_some (hq _ hi).1).2.2 (j % k) hcc
      rw [Addr.add_add, hjk, ← hf] at h2
      exact h2
    · refine Nat.le_trans (Nat.mul_le_mul_right _ ?_) hsz
      rw [List.length_map, hel]; omega
    · obtain ⟨i, hi, rfl⟩ := List.mem_iff_getElem.1 hb
      exact (hq i hi).2

theorem cellsInt : (Try.prog).cellsOf 3 = 1 := by kernel_rfl
theorem bytesInt : (Try.prog).bytesOf 3 = 8 := by kernel_rfl
theorem trod_ints {fuel : Nat} {cs : List Value} {x : DataW H × List MemPlace} (h : DataW.trod enc Try.prog w base spare held fuel 23 cs = some x) (hw : Within 23 x.1) :
    ∃ oa cap l, cs = [.slice oa l.length cap] ∧ SlAt icells w (.slice oa l.length cap) l ∧ l.length ≤ 17592186044416 := by
  obtain ⟨oa, cap, l, h1, h2, h3, _⟩ := trod_row icells 1 icells_len (by decide) Try.underlying23 cellsInt (fun _ => True) (fun n cs x h _ => by
    obtain ⟨z, h1, _, _⟩ := DataW.trod_int Try.underlying3 h
    exact ⟨z, h1, trivial⟩) h hw
  refine ⟨oa, cap, l, h1, h2, ?_⟩
  rw [bytesInt] at h3
  simp only [reachBytes] at h3
  omega
theorem open_ints {b0 : Nat} {r : Reach} {v : Value} {d : DataW H} {p : List MemPlace} (hv : Value.okWide Try.prog w r b0 23 v) (h : DataW.Trod enc Try.prog w base spare held 23 v d p) (hw : Within 23 d) :
    ∃ oa cap l, v = .slice oa l.length cap ∧ SlAt icells w (.slice oa l.length cap) l ∧ l.length ≤ 17592186044416 := by
  obtain ⟨a, len, cap0, rfl⟩ := okWide_slice Try.underlying23 hv
  obtain ⟨fuel, hf⟩ := h
  obtain ⟨oa, cap, l, hcs, hrest⟩ := trod_ints hf hw
  have e : (Value.slice a len cap0) = .slice oa l.length cap := by simpa [Value.cells] using hcs
  exact ⟨oa, cap, l, e, hrest⟩
/-- with each int in its kind's bounds -/
theorem trod_intsw {fuel : Nat} {cs : List Value} {x : DataW H × List MemPlace} (h : DataW.trod enc Try.prog w base spare held fuel 23 cs = some x) (hw : Within 23 x.1) :
    ∃ oa cap l, cs = [.slice oa l.length cap] ∧ SlAt icells w (.slice oa l.length cap) l ∧ l.length ≤ 17592186044416 ∧ ∀ z ∈ l, (Lit.int .i64 z).wf = true := by
  obtain ⟨oa, cap, l, h1, h2, h3, h4⟩ := trod_row icells 1 icells_len (by decide) Try.underlying23 cellsInt (fun z => (Lit.int .i64 z).wf = true) (fun n cs x h _ => by
    obtain ⟨z, h1, _, h2⟩ := DataW.trod_int Try.underlying3 h
    exact ⟨z, h1, h2⟩) h hw
  refine ⟨oa, cap, l, h1, h2, ?_, h4⟩
  rw [bytesInt] at h3
  simp only [reachBytes] at h3
  omega
theorem open_intsw {b0 : Nat} {r : Reach} {v : Value} {d : DataW H} {p : List MemPlace} (hv : Value.okWide Try.prog w r b0 23 v) (h : DataW.Trod enc Try.prog w base spare held 23 v d p) (hw : Within 23 d) :
    ∃ oa cap l, v = .slice oa l.length cap ∧ SlAt icells w (.slice oa l.length cap) l ∧ l.length ≤ 17592186044416 ∧ ∀ z ∈ l, (Lit.int .i64 z).wf = true := by
  obtain ⟨a, len, cap0, rfl⟩ := okWide_slice Try.underlying23 hv
  obtain ⟨fuel, hf⟩ := h
  obtain ⟨oa, cap, l, hcs, hrest⟩ := trod_intsw hf hw
  have e : (Value.slice a len cap0) = .slice oa l.length cap := by simpa [Value.cells] using hcs
  exact ⟨oa, cap, l, e, hrest⟩
end
end Go.Proofs.Ytjffaekajjokiaa
