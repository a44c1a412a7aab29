/-
  The plain law of WindowAdds: what the loads are with other workloads' samples, with a Set, and with one more node's sample. No function of the program is entered.
-/
import Derived.Test.YtfbbafmklahmmaaAlive10
namespace Go.Proofs.Ytfbbafmklahmmaa
open Go.Sort
set_option linter.unusedVariables false

theorem winOf_congr {a b : List Ev} {work node size : Int} (h : a.filter (isSample work node) = b.filter (isSample work node)) : winOf a work node size = winOf b work node size := by
  unfold winOf samples; rw [h]
theorem loadN_congr {a b : List Ev} {work size : Int} : ∀ (n : Nat), (∀ k : Nat, k < n → winOf a work k size = winOf b work k size) → loadN a work size n = loadN b work size n
  | 0, _ => rfl
  | n + 1, h => by
    simp only [loadN, loadStep]
    rw [h n (by omega), loadN_congr n fun k hk => h k (by omega)]
/-- samples that are of no node of this workload say nothing -/
theorem loadOf_other {a l : List Ev} {work size : Int} (h : ∀ e ∈ a, ∀ k : Nat, isSample work k e = false) : loadOf (l ++ a) work size = loadOf l work size := by
  unfold loadOf
  rw [loadN_congr (a := l ++ a) (b := l) 8 fun k _ => winOf_congr (by
    have hn : a.filter (isSample work k) = [] := List.filter_eq_nil_iff.2 fun e he => by rw [h e he k]; decide
    rw [List.filter_append, hn, List.append_nil])]
theorem stSort_nil : stSort newer [] = [] := stSort_sorted swo_newerE List.Pairwise.nil
theorem meanOf_nil : (meanOf []).2 = 2 := by decide
/-- the saturated sum's bounds -/
theorem loadN_range (evs : List Ev) (work size : Int) : ∀ n, -1099511627776 ≤ (loadN evs work size n).1 ∧ (loadN evs work size n).1 ≤ 1099511627776
  | 0 => by simp [loadN]
  | n + 1 => by
    have h := loadN_range evs work size n
    simp only [loadN, loadStep]
    split
    · exact satAdd_bd _ _
    · exact h
/-- one sample of a node that had none -/
theorem loadOf_own {l : List Ev} {size : Int} (v : Int) (h1 : within size 1 16 = size) (hv0 : 0 ≤ v) (hv1 : v ≤ 65535) (h : ∀ e ∈ l, isSample 0 7 e = false) (e : Ev) (he : e = sampleEv 7 3 v) :
    loadOf (l ++ [e]) 0 size = ((min ((loadOf l 0 size).1.1 + v) 1099511627776, (loadOf l 0 size).1.2 + 1), 0) := by
  subst he
  have hs : 1 ≤ size := by
    unfold within at h1
    split at h1
    · omega
    · split at h1 <;> omega
  unfold loadOf
  rw [if_pos h1, if_pos h1]
  have h7 : loadN (l ++ [sampleEv 7 3 v]) 0 size 7 = loadN l 0 size 7 := loadN_congr 7 fun k hk => winOf_congr (by
    rw [List.filter_append]
    have : isSample 0 k (sampleEv 7 3 v) = false := by
      unfold isSample sampleEv
      have : ((7 : Int) == (k : Int)) = false := by rw [beq_eq_false_iff_ne]; omega
      simp [this]
    simp [this])
  have hl : l.filter (isSample 0 7) = [] := List.filter_eq_nil_iff.2 fun e he => by rw [h e he]; decide
  have hw1 : winOf l 0 7 size = [] := by
    unfold winOf samples
    rw [hl, stSort_nil]; simp
  have hw2 : winOf (l ++ [sampleEv 7 3 v]) 0 7 size = [sampleEv 7 3 v] := by
    have hf : (l ++ [sampleEv 7 3 v]).filter (isSample 0 7) = [sampleEv 7 3 v] := by rw [List.filter_append, hl]; rfl
    unfold winOf samples
    rw [hf]
    have hst : stSort newer [sampleEv 7 3 v] = [sampleEv 7 3 v] := stSort_sorted swo_newerE (List.pairwise_singleton _ _)
    rw [hst]
    have : cutN size [sampleEv 7 3 v].length = 1 := by
      unfold cutN within
      simp only [List.length_cons, List.length_nil]
      split
      · rfl
      · split <;> omega
    rw [this]; rfl
  have e8 : loadN (l ++ [sampleEv 7 3 v]) 0 size 8 = loadStep (l ++ [sampleEv 7 3 v]) 0 size (loadN (l ++ [sampleEv 7 3 v]) 0 size 7) 7 := rfl
  have e8' : loadN l 0 size 8 = loadStep l 0 size (loadN l 0 size 7) 7 := rfl
  rw [e8, e8', h7]
  have c7 : ((7 : Nat) : Int) = 7 := rfl
  have hm : meanOf [sampleEv 7 3 v] = (v, 0) := by
    have e1 : sumOf [sampleEv 7 3 v] = v := by
      show satAdd 0 v = v
      unfold satAdd
      rw [clamp_id (n := 0) (by omega) (by omega), clamp_id (n := v) (by omega) (by omega), clamp_id (by omega) (by omega)]; omega
    have e0 : meanOf [sampleEv 7 3 v] = ceilDiv (sumOf [sampleEv 7 3 v]) 1 := rfl
    rw [e0, e1]
    unfold ceilDiv
    have c1 : clamp 1 = 1 := clamp_id (by omega) (by omega)
    have cv : clamp v = v := clamp_id (by omega) (by omega)
    simp only [c1, cv]
    rw [if_neg (by decide)]
    unfold ceilQ
    rw [Int.tmod_one, Int.tdiv_one, if_neg (by omega)]
  unfold loadStep
  simp only [c7, hw1, hw2, hm, meanOf_nil, if_true]
  rw [if_neg (by decide)]
  have hr := loadN_range l 0 size 7
  have : satAdd (loadN l 0 size 7).1 v = min ((loadN l 0 size 7).1 + v) 1099511627776 := by
    unfold satAdd
    rw [clamp_id (n := (loadN l 0 size 7).1) (by omega) (by omega), clamp_id (n := v) (by omega) (by omega)]
    unfold clamp within
    split
    · omega
    · split <;> omega
  rw [this]
end Go.Proofs.Ytfbbafmklahmmaa
