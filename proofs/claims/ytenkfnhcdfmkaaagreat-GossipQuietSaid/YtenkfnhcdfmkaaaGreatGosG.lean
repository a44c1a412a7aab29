/-
  (*gossip.Gossip).given walked: events are taken in.
-/
import Derived.Test.YtenkfnhcdfmkaaaGreatGosD
namespace Go.Proofs.YtenkfnhcdfmkaaaGreat
open Go.RowKit Go.Lib Go.Shelf
set_option linter.unusedVariables false
set_option linter.unusedSimpArgs false
theorem owns_type {α : Type} {enc : α → List Value} {k base e : Nat} {w : World} {v : Value} {l : List α} (h : Owns enc k base e w v l) {g : Nat} (hg : v.ownBlock = some g) : ∃ c, w.heap[g]? = some (.cells c e) := by
 rcases h.2 with ⟨rfl, _⟩ | ⟨g', cap', cur, rfl, hb, hh, hc, hm, hs, ht⟩
 ·cases hg
 ·cases hg
  exact ⟨cur, hh⟩
theorem BookAt.turn {W W' : World} {bb ms mh B : Nat} {S : BookS} (h : BookAt W bb ms mh B S) {k : Nat} {c : Array Value} {e : Nat} (hk : W.heap[k]? = some (.cells c e)) (he : e ≠ 40) (hsz : W.heap.size ≤ W'.heap.size) (hb : ∀ i, i < W.heap.size → i ≠ k → W'.heap[i]? = W.heap[i]?) (h2 : k ≠ bb) (h3 : k ≠ ms) (h4 : k ≠ mh) : BookAt W' bb ms mh B S := by
 have h0 := h.size
 refine ⟨h.ltb, h.lts, h.lth, h.nbs, h.nbh, h.nsh, Nat.le_trans h.size hsz, (hb _ (by have := h.ltb; omega) (Ne.symm h2)).trans h.obj, ?_, ?_, h.may⟩
 ·obtain ⟨Es, k1, k2⟩ := h.seen
  exact ⟨Es, k1.keep (hb _ (by have := h.lts; omega) (Ne.symm h3)), k2⟩
 ·obtain ⟨Eh, hs, k1, k2, k3, k4⟩ := h.holds
  refine ⟨Eh, hs, k1.keep (hb _ (by have := h.lth; omega) (Ne.symm h4)), k2, k3, fun p hp => (k4 p hp).keep fun g hg => hb g ((k4 p hp).lt g hg).2 fun e2 => ?_⟩
  obtain ⟨c', hc'⟩ := owns_type (k4 p hp) hg
  rw [e2, hk] at hc'
  injection hc' with hc'
  injection hc' with _ h6 _
  exact he h6
theorem GAt.turn {W W' : World} {M : GM} {x : Gsp} (h : GAt W M x) {k : Nat} {c : Array Value} {e : Nat} (hk : W.heap[k]? = some (.cells c e)) (he : e ≠ 40) (hsz : W.heap.size ≤ W'.heap.size) (hb : ∀ i, i < W.heap.size → i ≠ k → W'.heap[i]? = W.heap[i]?) (h2 : ¬ M.own k) (h3 : k ≠ M.g) : GAt W' M x := by
 unfold GM.own at h2
 refine ⟨(hb _ h.lt (Ne.symm h3)).trans h.row, ?_, h.book.turn hk he hsz hb (fun e => h2 (.inr (.inl e))) (fun e => h2 (.inr (.inr (.inl e)))) (fun e => h2 (.inr (.inr (.inr e)))), h.lto, h.nob, h.nos, h.noh, h.ng⟩
 obtain ⟨v, h1, h2', h3', h4⟩ := h.ord
 exact ⟨v, h1.keep (hb _ h1.lt (fun e => h2 (.inl e.symm))), h2'.keep (.inl rfl), h3', h4⟩
theorem GAt.own_lt {W : World} {M : GM} {x : Gsp} (h : GAt W M x) {k : Nat} (hk : M.own k) : k < W.heap.size := by
 have h1 := h.ord.lt
 have h2 := h.book.size
 have h3 := h.book.ltb
 have h4 := h.book.lts
 have h5 := h.book.lth
 unfold GM.own at hk
 omega
theorem GAt.grown {W W' : World} {M : GM} {x : Gsp} (h : GAt W M x) {B : Nat} {v : Value} {qs : List PEv} (ho : Owns pcells 14 B 44 W v qs) (hg : W.grownBy W' v.ownBlock) (hlt : ∀ k, v.ownBlock = some k → ¬ M.own k ∧ k ≠ M.g) : GAt W' M x := by
 cases hv : v.ownBlock with
 | none =>
  rw [hv] at hg
  exact h.below (C := W.heap.size) ⟨hg.os, hg.tape, hg.output, hg.size, fun i hi => hg.block i hi (by simp)⟩ (Nat.le_refl _)
 | some k =>
  obtain ⟨c, hc⟩ := owns_type ho hv
  rw [hv] at hg
  exact h.turn hc (by decide) hg.size (fun i hi hne => hg.block i hi (fun e => hne (Option.some.inj e))) (hlt k hv).1 (hlt k hv).2
structure EvsClear (L : Nat → Prop) (v : Value) (l : List PEv) : Prop where
 row : l = [] ∨ ∀ b, v.ownBlock = some b → ¬ L b
 rem : ∀ p ∈ l, p.2.rem = [] ∨ ∀ b, p.1.val.ownBlock = some b → ¬ L b
theorem EvsAt.touch {L : Nat → Prop} {w w' : World} {v : Value} {l : List PEv} (h : EvsAt w v l) (ht : Touch L w w') (hn : EvsClear L v l) : EvsAt w' v l :=
 ⟨h.1.touch pcells_len (by decide) ht hn.row, fun p hp => (h.2 p hp).touch Dot.cells_len (by decide) ht (hn.rem p hp)⟩
theorem EvsAt.clear {w : World} {v : Value} {l : List PEv} (h : EvsAt w v l) {L : Nat → Prop} (hL : ∀ k, L k → w.heap.size ≤ k) : EvsClear L v l := by
 refine ⟨?_, fun p hp => ?_⟩
 ·by_cases hl : l = []
  ·exact .inl hl
  ·exact .inr fun b hb hk => by have := h.1.lt pcells_len (by decide) hl b hb; have := hL b hk; omega
 ·by_cases hl : p.2.rem = []
  ·exact .inl hl
  ·exact .inr fun b hb hk => by have := (h.2 p hp).lt Dot.cells_len (by decide) hl b hb; have := hL b hk; omega
def givenB (S : BookS) (l : List Ev) : BookS × List Ev := l.foldl (fun (p : BookS × List Ev) e => ((addB p.1 e).2, if (addB p.1 e).1 = 0 then p.2 ++ [e] else p.2)) (S, [])
theorem givenB_take {ps : List PEv} {i : Nat} (hi : i < ps.length) (S : BookS) : givenB S ((ps.take (i + 1)).map (·.2)) = ((addB (givenB S ((ps.take i).map (·.2))).1 ps[i].2).2, if (addB (givenB S ((ps.take i).map (·.2))).1 ps[i].2).1 = 0 then (givenB S ((ps.take i).map (·.2))).2 ++ [ps[i].2] else (givenB S ((ps.take i).map (·.2))).2) := by
 rw [List.take_succ_eq_append_getElem hi, List.map_append]
 unfold givenB
 rw [List.foldl_append]
 rfl
theorem Acc.stay {B e ed : Nat} {w w' : World} {v : Value} {qs : List PEv} (h : Acc B e ed w v qs) (hk : ∀ i, B ≤ i → i < w.heap.size → w'.heap[i]? = w.heap[i]?) : Acc B e ed w' v qs :=
 ⟨h.row.keep fun g hg => hk g (h.row.lt g hg).1 (h.row.lt g hg).2, fun q hq => ⟨(h.rem q hq).1.keep fun g hg => hk g ((h.rem q hq).1.lt g hg).1 ((h.rem q hq).1.lt g hg).2, (h.rem q hq).2⟩⟩
theorem acc_app {B e ed : Nat} {w4 w' : World} {lit : Go.Obj} {v v' : Value} {qs : List PEv} {hd : Hdr} {ev : Ev} (h : Acc B e ed w4 v qs) (hc : Owns Dot.cells 2 B ed w4 hd.val ev.rem) (hne : ∀ g, hd.val.ownBlock = some g → v.ownBlock ≠ some g)
  (ho : Owns pcells 14 B e w' v' (qs ++ [(hd, ev)])) (hg : (w4.alloc lit).grownBy w' v.ownBlock) (hv : v'.ownBlock = v.ownBlock ∨ ∀ g, v'.ownBlock = some g → w4.heap.size + 1 ≤ g) : Acc B e ed w' v' (qs ++ [(hd, ev)]) := by
 have h3 : Below w4.heap.size w4 (w4.alloc lit) := (Below.refl _ _).alloc (Nat.le_refl _) lit
 refine (h.below h3 (Nat.le_refl _)).push (fun q hq => ?_) ho hg (by simpa using hv)
 obtain rfl : q = (hd, ev) := by simpa using hq
 refine ⟨hc.below h3 (Nat.le_refl _), ?_⟩
 cases hx : hd.val.ownBlock with
 | none => exact .inl rfl
 | some g => exact .inr fun e2 => hne g hx e2.symm
end Go.Proofs.YtenkfnhcdfmkaaaGreat
