/-
  The law GossipQuiet walked: it returns true, and turns nothing that was there.
-/
import Derived.Test.YtenkfnhcdfmkaaaGreatMGosR
import Derived.Test.YtenkfnhcdfmkaaaGreatRef07
namespace Go.Proofs.YtenkfnhcdfmkaaaGreat
open Go.Shelf Go.RowKit Go.Lib Go.Sort
set_option linter.unusedVariables false
set_option linter.unusedSimpArgs false
theorem newerB_all {S : BookS} (h : S.Fine) (n : Int) : newerB S S.saw n = [] := by
 unfold newerB
 have : S.holds.filter (fun e => !S.saw e.dot.node.toNat e.dot.seq.toNat) = [] := by
  rw [List.filter_eq_nil_iff]
  intro e he
  rw [show S.saw e.dot.node.toNat e.dot.seq.toNat = true from h.seen e he]
  simp
 rw [this, List.take_nil]
theorem newerB_none {S : BookS} (h : S.Fine) (hm : ∀ e ∈ S.holds, May e.dot) : newerB S Grid.none 768 = S.holds := by
 unfold newerB
 rw [List.filter_eq_self.2 (fun e _ => by rfl)]
 exact List.take_of_length_le (held_len h.by' hm)
theorem Pieces.none {mtu : Nat} {ps : List PEv} {cs : List (List Ev)} (h : Pieces mtu ps cs) (hl : ps = []) : cs = [] := by
 subst hl
 cases h with
 | nil => rfl
 | cons h1 h2 h3 => have := h2.le; simp at this; omega
theorem told_quiet {x : Gsp} {m : Msg} {ds tail : List Msg} (hf : x.S.Fine) (hg : m.set.grid = x.S.saw) (h : Told x m ds tail) : ds = [] ∧ tail = [] := by
 constructor
 ·obtain ⟨ps, hps, hpc⟩ := h.pieces
  rw [hg, newerB_all hf] at hps
  have := hpc.none (List.map_eq_nil_iff.1 hps)
  exact List.map_eq_nil_iff.1 this
 ·have ht := h.tail
  have ha : asksB x.S m = false := by
   unfold asksB
   rw [hg]
   have : (dotsOf x.S.saw).filter (fun d => !x.S.saw d.node.toNat d.seq.toNat) = [] := by
    rw [List.filter_eq_nil_iff]
    intro d hd
    rw [((mem_dotsOf hf.ok).1 hd).2]
    simp
   rw [this]
   simp
  rw [ha, if_neg (by decide)] at ht
  exact ht
theorem told_all {x : Gsp} {m : Msg} {ds tail : List Msg} (hf : x.S.Fine) (hm : ∀ e ∈ x.S.holds, May e.dot) (hg : m.set.grid = Grid.none) (h : Told x m ds tail) : (ds.map fun d => d.evs.map (·.2)).flatten = x.S.holds ∧ tail = [] := by
 constructor
 ·obtain ⟨ps, hps, hpc⟩ := h.pieces
  rw [hpc.all, hps, hg, newerB_none hf hm]
 ·have ht := h.tail
  have ha : asksB x.S m = false := by
   unfold asksB
   rw [hg, dots_none]
   simp
  rw [ha, if_neg (by decide)] at ht
  exact ht
theorem Owns.len {α : Type} {enc : α → List Value} {k base e : Nat} {w : World} {v : Value} {l : List α} (h : Owns enc k base e w v l) : l.length ≤ 9223372036854775807 := by
 rcases h.2 with ⟨hv, hn⟩ | ⟨g, cap, cur, hv, hb, hh, hc, hm, hs, ht⟩
 ·omega
 ·simp only [maxLen] at hm
  omega
theorem pieces_take {α β : Type} (f : α → List β) (l : List α) (i : Nat) (hi : i < l.length) : ((l.take (i + 1)).map f).flatten = ((l.take i).map f).flatten ++ f l[i] ∧ ((l.take i).map f).flatten.length + (f l[i]).length ≤ (l.map f).flatten.length := by
 have h1 : ((l.take (i + 1)).map f).flatten = ((l.take i).map f).flatten ++ f l[i] := by rw [List.take_succ_eq_append_getElem hi, List.map_append, List.flatten_append]; simp
 refine ⟨h1, ?_⟩
 have h2 : (l.map f).flatten = ((l.take (i + 1)).map f).flatten ++ ((l.drop (i + 1)).map f).flatten := by rw [← List.flatten_append, ← List.map_append, List.take_append_drop]
 rw [h2, h1, List.length_append, List.length_append]
 omega
theorem add_stepQ {M : GM} {x : Gsp} {wS wq : World} {e : Ev} (hxo : x.Ok) (hg : GAt wS M x) (hbk : BookAt wq M.bb M.ms M.mh M.B (addB x.S e).2) (ht : Turns3 M.bb M.ms M.mh wS.drew wq) : ∃ y : Gsp, y.Ok ∧ y.self = x.self ∧ GAt wq M y ∧ Touch M.own wS wq :=
 ⟨⟨x.self, x.mtu, x.s, (addB x.S e).2⟩, ⟨hxo.self, hxo.mtu, addB_fine hxo.fine e⟩, rfl, (hg.below (below_drew (Below.refl wS.heap.size wS)) (Nat.le_refl _)).booked hbk ht, (Touch.of_below (L := M.own) (below_drew (Below.refl wS.heap.size wS)) (Nat.le_refl _)).trans (turns_touch ht) fun n hn h => h⟩
theorem row_turnsQ {M : GM} {wS wq : World} {b : Nat} {o : Option Go.Obj} (ht : Turns3 M.bb M.ms M.mh wS.drew wq) (hrow : wS.heap[b]? = o) (hb : b < wS.heap.size) (hn : ∀ k, M.own k → k < b) : wq.heap[b]? = o := by
 have h1 := hn _ (.inr (.inl rfl))
 have h2 := hn _ (.inr (.inr (.inl rfl)))
 have h3 := hn _ (.inr (.inr (.inr rfl)))
 exact (ht.block b hb (by omega) (by omega) (by omega)).trans hrow
end Go.Proofs.YtenkfnhcdfmkaaaGreat
