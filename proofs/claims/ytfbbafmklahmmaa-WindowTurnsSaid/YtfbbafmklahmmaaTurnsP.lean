/-
  The plain law of WindowTurns: events of unlike dots, turned round, have the same loads; so have the newest samples alone. No function of the program is entered.
-/
import Derived.Test.YtfbbafmklahmmaaAddsP
import Derived.Test.YtfbbafmklahmmaaUnlike
namespace Go.Proofs.Ytfbbafmklahmmaa
open Go.Sort
set_option linter.unusedVariables false

/-- where events stand says nothing -/
theorem loadOf_turn {a b : List Ev} {work size : Int} (h : unlike (a ++ b)) : loadOf (b ++ a) work size = loadOf (a ++ b) work size := by
  unfold loadOf
  rw [loadN_congr (a := b ++ a) (b := a ++ b) 8 fun k _ => winOf_turn h]

theorem winOf_mem {l : List Ev} {work node size : Int} {e : Ev} (h : e ∈ winOf l work node size) : isSample work node e = true := by
  have h1 := List.mem_of_mem_take h
  have h2 := (stSort_mem swo_newerE _ _).1 h1
  exact (List.mem_filter.1 h2).2
theorem winOf_sorted (l : List Ev) (work node size : Int) : SortedL newer (winOf l work node size) := sorted_take (stSort_stable swo_newerE _).1 _
theorem isSample_one {work : Int} {a b : Int} {e : Ev} (h1 : isSample work a e = true) (h2 : isSample work b e = true) : a = b := by
  simp only [isSample, Bool.and_eq_true, beq_iff_eq] at h1 h2
  omega
/-- the newest ones of all nodes -/
def newest (l : List Ev) (work size : Int) (n : Nat) : List Ev := (List.range n).flatMap fun (node : Nat) => winOf l work node size
theorem newest_succ (l : List Ev) (work size : Int) (n : Nat) : newest l work size (n + 1) = newest l work size n ++ winOf l work n size := by
  unfold newest
  rw [List.range_succ, List.flatMap_append]
  simp
theorem newest_filter (l : List Ev) (work size : Int) (n k : Nat) : (newest l work size n).filter (isSample work k) = if k < n then winOf l work k size else [] := by
  induction n with
  | zero => rw [if_neg (by omega)]; rfl
  | succ n ih =>
    rw [newest_succ, List.filter_append, ih]
    by_cases hk : k = n
    · subst hk
      rw [if_neg (by omega), if_pos (by omega), List.nil_append]
      exact List.filter_eq_self.2 fun e he => winOf_mem he
    · have hn : (winOf l work n size).filter (isSample work k) = [] := List.filter_eq_nil_iff.2 fun e he => by
        intro h2
        have := isSample_one (winOf_mem he) h2
        omega
      rw [hn, List.append_nil]
      by_cases hlt : k < n
      · rw [if_pos hlt, if_pos (by omega)]
      · rw [if_neg hlt, if_neg (by omega)]
theorem winOf_of {l : List Ev} {work node size : Int} {e : Ev} (h : e ∈ winOf l work node size) : e ∈ l :=
  (List.mem_filter.1 ((stSort_mem swo_newerE _ _).1 (List.mem_of_mem_take h))).1
theorem newest_mem {l : List Ev} {work size : Int} {n : Nat} {e : Ev} (h : e ∈ newest l work size n) : e ∈ l := by
  obtain ⟨k, _, hk⟩ := List.mem_flatMap.1 h
  exact winOf_of hk
theorem cutN_idem (size : Int) (n : Nat) : cutN size (cutN size n) = cutN size n := by
  have h1 := cutN_cast size n
  have h2 := cutN_cast size (cutN size n)
  unfold within at h1 h2
  split at h1 <;> split at h2 <;> (try split at h1) <;> (try split at h2) <;> omega
theorem winOf_length (l : List Ev) (work node size : Int) : (winOf l work node size).length = cutN size (samples l work node).length := by
  unfold winOf
  rw [List.length_take]
  have := cutN_le size (samples l work node).length
  omega
theorem winOf_newest (l : List Ev) (work size : Int) (n k : Nat) (hk : k < n) : winOf (newest l work size n) work k size = winOf l work k size := by
  have hs : samples (newest l work size n) work k = winOf l work k size := by
    unfold samples
    rw [newest_filter, if_pos hk]
    exact stSort_sorted swo_newerE (winOf_sorted _ _ _ _)
  have hl := winOf_length l work k size
  show (samples (newest l work size n) work k).take _ = _
  rw [hs, hl, cutN_idem, ← hl, List.take_length]
/-- older samples than the newest ones, and other workloads', say nothing -/
theorem loadOf_newest (l : List Ev) (work size : Int) : loadOf (newest l work size 8) work size = loadOf l work size := by
  unfold loadOf
  rw [loadN_congr (a := newest l work size 8) (b := l) 8 fun k hk => winOf_newest l work size 8 k hk]
end Go.Proofs.Ytfbbafmklahmmaa
