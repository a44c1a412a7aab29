/-
  A law's own book, events added to it one by one: what each round keeps.
-/
import Derived.Test.YtidiapgdgoeplaaBookAdd
import Derived.Test.YtidiapgdgoeplaaRef07
namespace Go.Proofs.Ytidiapgdgoeplaa
open Go.Shelf Go.RowKit Go.Lib Go.Sort
set_option linter.unusedVariables false
/-- a book of one's own: all its blocks are new since W0, and nothing else has turned -/
structure BookRun (W0 : World) (bb ms mh B : Nat) (S : BookS) (W : World) : Prop where
  book : BookAt W bb ms mh B S
  fine : S.Fine
  below : Below W0.heap.size W0 W
  l1 : W0.heap.size ≤ bb
  l2 : W0.heap.size ≤ ms
  l3 : W0.heap.size ≤ mh
theorem BookRun.past {W0 W W' : World} {bb ms mh B : Nat} {S : BookS} (h : BookRun W0 bb ms mh B S W) (hb : Below W.heap.size W W') : BookRun W0 bb ms mh B S W' :=
  ⟨h.book.below hb (Nat.le_refl _), h.fine, h.below.trans (hb.mono h.below.size), h.l1, h.l2, h.l3⟩
theorem BookRun.add {W0 wr W : World} {bb ms mh B : Nat} {S : BookS} (h : BookRun W0 bb ms mh B S wr) (hW : Below wr.heap.size wr W) (hd : Hdr) (ev : Ev) (hs : SlAt Dot.cells W0 hd.val ev.rem) (hl : ev.rem.length ≤ 1000000) :
    Calls Try.prog 9 #[.pointer (some ⟨bb, 0, none⟩), .agg #[.int .i64 ev.dot.node, .int .i64 ev.dot.seq, .int .i64 ev.time, .int .i64 ev.kind, .int .i64 ev.work, .int .i64 ev.value, .int .i64 ev.pol.mn, .int .i64 ev.pol.mx, .int .i64 ev.pol.goal, .int .i64 ev.pol.slack, .int .i64 ev.pol.up, .int .i64 ev.pol.down, .int .i64 ev.pol.cool, hd.val]] W fun e w' => e = .returned (.int .i64 (addB S ev).1) ∧ BookRun W0 bb ms mh B (addB S ev).2 w' := by
  have h1 := h.past hW
  have h2 := h1.l1
  have h3 := h1.l2
  have h4 := h1.l3
  refine (bookAdd_any bb ms mh B S hd ev W h1.book (hs.below Dot.cells_len (by decide) h1.below (Nat.le_refl _)) hl ?_ ?_).mono ?_
  · by_cases he : ev.rem = []
    · exact .inl he
    · refine .inr fun b hb => ?_
      have := hs.lt Dot.cells_len (by decide) he b hb
      omega
  · have := h.fine.t0
    have := h.fine.t1
    omega
  · rintro e w' ⟨rfl, hbk, ht⟩
    exact ⟨rfl, hbk, addB_fine h.fine ev, h1.below.trans (ht.below (by omega) (by omega) (by omega) h1.below.size), h2, h3, h4⟩
theorem addsB_take {ps : List PEv} {i : Nat} {p : PEv} (hp : ps[i]? = some p) (S : BookS) : addsB S ((ps.take (i + 1)).map (·.2)) = (addB (addsB S ((ps.take i).map (·.2))) p.2).2 := by
  obtain ⟨hi, hpi⟩ := List.getElem?_eq_some_iff.1 hp
  rw [List.take_succ_eq_append_getElem hi, hpi, List.map_append]
  unfold addsB
  rw [List.foldl_append]
  rfl
theorem addsB_zero (ps : List PEv) (S : BookS) : addsB S ((ps.take 0).map (·.2)) = S := by simp [addsB]
theorem fine_rems {S : BookS} (h : S.Fine) : ∀ e ∈ S.holds, e.rem.length ≤ 1000000 := fun e he => by have := (h.right e he).2.2.2.1; omega
theorem acc_rems {S : BookS} (h : S.Fine) {ps : List PEv} (hm : ∀ p ∈ ps, p.2 ∈ S.holds) : ∀ p ∈ ps, p.2.rem.length ≤ 1000000 := fun p hp => fine_rems h _ (hm p hp)
end Go.Proofs.Ytidiapgdgoeplaa
