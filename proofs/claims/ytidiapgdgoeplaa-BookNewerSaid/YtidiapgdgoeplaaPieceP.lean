/-
  What is newer, in pieces, reckoned: one piece and the next. No function of the program is entered.
-/
import Derived.Test.YtidiapgdgoeplaaBookQ
namespace Go.Proofs.Ytidiapgdgoeplaa
set_option linter.unusedVariables false
theorem newerB_eq (S : BookS) (g : Grid) (most : Int) : newerB S g most = (S.holds.filter (lacks g)).take most.toNat := rfl
theorem piece_next {S : BookS} (hf : S.Fine) {g : Grid} {F : List Ev} {k : Nat} (hF : S.holds.filter (lacks g) = F.drop k) (m : Nat) : S.holds.filter (lacks (putAll g ((F.drop k).take m))) = F.drop (k + m) := by
  have h := piece_step hf.by' (fun e he => (hf.right e he).1) g m
  rw [hF] at h
  rw [h, List.drop_drop]
theorem piece_lacks {S : BookS} (hf : S.Fine) {g : Grid} {M : List Ev} {m : Nat} (hM : M = (S.holds.filter (lacks g)).take m) {i : Nat} (hi : i < M.length) : May M[i].dot ∧ putAll g (M.take i) M[i].dot.node.toNat M[i].dot.seq.toNat = false := by
  have hin : ∀ e ∈ M, e ∈ S.holds.filter (lacks g) := fun e he => by rw [hM] at he; exact List.mem_of_mem_take he
  have hmay : ∀ e ∈ M, May e.dot := fun e he => (hf.right e (List.mem_filter.1 (hin e he)).1).1
  have hmi := hmay _ (List.getElem_mem hi)
  refine ⟨hmi, ?_⟩
  rw [← Bool.not_eq_true, putAll_at (M.take i) g (fun e he => hmay e (List.mem_of_mem_take he)) _ hmi]
  rintro (h | ⟨e, he, h⟩)
  · have := (List.mem_filter.1 (hin _ (List.getElem_mem hi))).2
    unfold lacks at this
    rw [h] at this
    cases this
  · have hby : ByDot M := by rw [hM]; exact List.Pairwise.sublist (List.take_sublist _ _) (byDot_filter hf.by' _)
    obtain ⟨j, hj, hje⟩ := List.mem_iff_getElem.1 he
    rw [List.length_take] at hj
    rw [List.getElem_take] at hje
    have h2 := (List.pairwise_iff_getElem.1 hby) j i (by omega) hi (by omega)
    rw [hje, h] at h2
    exact Before.irrefl _ h2
theorem putAll_snoc (g : Grid) {M : List Ev} {i : Nat} (hi : i < M.length) : putAll g (M.take (i + 1)) = (putAll g (M.take i)).put M[i].dot.node.toNat M[i].dot.seq.toNat := by
  rw [List.take_succ_eq_append_getElem hi]
  unfold putAll
  rw [List.foldl_append]
  rfl
theorem putAll_zero (g : Grid) (M : List Ev) : putAll g (M.take 0) = g := by simp [putAll]
theorem newer_len {S : BookS} (g : Grid) (most : Int) : (newerB S g most).length ≤ S.holds.length ∧ (newerB S g most).length ≤ most.toNat := by
  rw [newerB_eq, List.length_take]
  have := List.length_filter_le (lacks g) S.holds
  omega
theorem newer_mem {S : BookS} {g : Grid} {most : Int} : ∀ e ∈ newerB S g most, e ∈ S.holds := fun e he => by
  rw [newerB_eq] at he
  exact (List.mem_filter.1 (List.mem_of_mem_take he)).1
end Go.Proofs.Ytidiapgdgoeplaa
