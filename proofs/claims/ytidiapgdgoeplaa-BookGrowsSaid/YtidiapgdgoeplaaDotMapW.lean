/-
  Maps whose keys are dots, in memory: look-up, store, delete, len, and a range over one.
-/
import Derived.Test.YtidiapgdgoeplaaDotMap
namespace Go.Proofs.Ytidiapgdgoeplaa
open Go.RowKit Go.Maps
set_option linter.unusedVariables false
/-- block b is a map that holds just these entries -/
def DotMapAt (w : World) (b : Nat) (E : List (Dot × Value)) : Prop := ∃ D, w.ownsMap Try.prog 28 heldR b E.length D ∧ MapD D E
theorem DotMapAt.of {w : World} {b n : Nat} {D : DataW Value} {E : List (Dot × Value)} (h : w.ownsMap Try.prog 28 heldR b n D) (hD : MapD D E) : DotMapAt w b E := by
  refine ⟨D, ?_, hD⟩
  obtain ⟨es, clock, hb, F, hs, rfl⟩ := h
  refine ⟨es, clock, hb, F, ?_, rfl⟩
  have := hD.size
  simp [Maps.size, length_sorted] at this
  omega
theorem DotMapAt.lt {w : World} {b : Nat} {E : List (Dot × Value)} (h : DotMapAt w b E) : b < w.heap.size := by obtain ⟨D, h, _⟩ := h; exact h.lt
theorem DotMapAt.made (w : World) : DotMapAt (w.alloc (.map #[] 0)) w.heap.size [] := ⟨_, World.ownsMap_made w _ _ _, MapD.none⟩
theorem DotMapAt.keep {w w' : World} {b : Nat} {E : List (Dot × Value)} (h : DotMapAt w b E) (hb : w'.heap[b]? = w.heap[b]?) : DotMapAt w' b E := by
  obtain ⟨D, ⟨es, clock, h1, h2⟩, h3⟩ := h
  exact ⟨D, ⟨es, clock, hb.trans h1, h2⟩, h3⟩
theorem DotMapAt.kept {w w' : World} {b : Nat} {E : List (Dot × Value)} {row : Option Nat} (h : DotMapAt w b E) (hg : w.grownBy w' row) (hne : some b ≠ row) : DotMapAt w' b E := h.keep (hg.block b h.lt hne)
theorem DotMapAt.below {w w' : World} {b B : Nat} {E : List (Dot × Value)} (h : DotMapAt w b E) (hb : Below B w w') (hB : b < B) : DotMapAt w' b E := h.keep (hb.block b hB)
theorem DotMapAt.look {w : World} {b : Nat} {E : List (Dot × Value)} (h : DotMapAt w b E) {mt et : TypeId} (ht : (Try.prog).underlying mt = some (.map 28 et)) {z : Value} (hz : (zeroValue et).run Try.prog w = .ok z w) {d : Dot} (hd : DFits d) :
    (Instr.lookup mt (.map (some b)) (dotVal d) false).run Try.prog w = .ok ((lookE E d).getD z) w := by
  obtain ⟨D, h, hD⟩ := h
  obtain ⟨v, ps, hrun, hv⟩ := h.lookup keyDot ht hz (zd := .held z) (zp := []) rfl (kl_is hd)
  rw [hD.at' d hd] at hv
  unfold heldR at hv
  simp only [Option.some.injEq, Prod.mk.injEq] at hv
  rw [hrun]
  cases he : lookE E d with
  | none => rw [he] at hv; simp only [DataW.held.injEq] at hv; rw [hv.1]; rfl
  | some u => rw [he] at hv; simp only [DataW.held.injEq] at hv; rw [hv.1]; rfl
theorem DotMapAt.store {w : World} {b : Nat} {E : List (Dot × Value)} (h : DotMapAt w b E) {mt et : TypeId} (ht : (Try.prog).underlying mt = some (.map 28 et)) (hn : E.length < 1000000) {d : Dot} (hd : DFits d) (v : Value) :
    ∃ w', (Instr.mapUpdate mt (.map (some b)) (dotVal d) v).run Try.prog w = .ok () w' ∧ DotMapAt w' b (putE E d v) ∧ w.grownBy w' (some b) := by
  obtain ⟨D, h, hD⟩ := h
  obtain ⟨w', h1, h2, h3⟩ := h.update keyDot ht (by unfold maxLen; omega) (kl_is hd) (d := .held v) (ps := []) rfl
  exact ⟨w', h1, .of h2 (hD.put hd v), h3⟩
theorem DotMapAt.drop {w : World} {b : Nat} {E : List (Dot × Value)} (h : DotMapAt w b E) {mt et : TypeId} (ht : (Try.prog).underlying mt = some (.map 28 et)) {d : Dot} (hd : DFits d) (ty : TypeId) :
    ∃ w', (Builtin.delete_ #[mt, 28] ty #[.map (some b), dotVal d]).run Try.prog w = .ok (.tuple #[]) w' ∧ DotMapAt w' b (delE E d) ∧ w.grownBy w' (some b) := by
  obtain ⟨D, h, hD⟩ := h
  obtain ⟨w', h1, h2, h3⟩ := h.drop keyDot ht (kl_is hd) ty
  exact ⟨w', h1, .of h2 (hD.del hd), h3.grown⟩
theorem DotMapAt.len {w : World} {b : Nat} {E : List (Dot × Value)} (h : DotMapAt w b E) {mt et : TypeId} (ht : (Try.prog).underlying mt = some (.map 28 et)) (ty : TypeId) : (Builtin.len_ #[mt] ty #[.map (some b)]).run Try.prog w = .ok (.int .i64 E.length) w := by
  obtain ⟨D, h, hD⟩ := h
  rw [h.len ht ty, hD.size]
/-- a range over a map under way: todo are the entries still to come -/
def DotRange (w : World) (b r : Nat) (E todo : List (Dot × Value)) : Prop :=
  ∃ D left cnt, w.ranges Try.prog 28 heldR b r E.length D left cnt ∧ MapD D E ∧ (∀ k, left k = true ↔ ∃ p ∈ todo, kl p.1 = k) ∧ (∀ p ∈ todo, p ∈ E) ∧ (todo.map (·.1)).Nodup
theorem DotRange.at {w : World} {b r : Nat} {E todo : List (Dot × Value)} (h : DotRange w b r E todo) : DotMapAt w b E := by
  obtain ⟨D, left, cnt, h, hD, _⟩ := h
  exact ⟨D, h.owns, hD⟩
theorem DotRange.lt {w : World} {b r : Nat} {E todo : List (Dot × Value)} (h : DotRange w b r E todo) : r < w.heap.size := by
  obtain ⟨D, left, cnt, h, _⟩ := h
  exact h.lt
theorem DotRange.kept {w w' : World} {b r : Nat} {E todo : List (Dot × Value)} {row : Option Nat} (h : DotRange w b r E todo) (hg : w.grownBy w' row) (hb : some b ≠ row) (hr : some r ≠ row) : DotRange w' b r E todo := by
  obtain ⟨D, left, cnt, h, rest⟩ := h
  exact ⟨D, left, cnt, h.kept hg hb hr, rest⟩
theorem DotMapAt.range {w : World} {b : Nat} {E : List (Dot × Value)} (h : DotMapAt w b E) {mt et : TypeId} (ht : (Try.prog).underlying mt = some (.map 28 et)) :
    ∃ w', (Instr.range mt (.map (some b))).run Try.prog w = .ok (.pointer (some ⟨w.heap.size, 0, none⟩)) w' ∧ DotRange w' b w.heap.size E E ∧ w.grownBy w' none ∧ w'.heap.size = w.heap.size + 1 := by
  obtain ⟨D, h, hD⟩ := h
  obtain ⟨w', h1, h2, h3, h4⟩ := h.range keyDot ht
  refine ⟨w', h1, ⟨D, _, _, h2, hD, fun k => ⟨hD.keys k, ?_⟩, fun p hp => hp, hD.nodup⟩, h3, h4⟩
  rintro ⟨p, hp, rfl⟩
  rw [hD.has p.1 (hD.fits p hp)]
  rw [(lookE_mem hD.nodup (d := p.1) (v := p.2)).2 hp]
  rfl
/-- the step -/
theorem DotRange.next {w : World} {b r : Nat} {E todo : List (Dot × Value)} (h : DotRange w b r E todo) (ty : TypeId) :
    (todo = [] ∧ (Instr.next (.pointer (some ⟨r, 0, none⟩)) false ty).run Try.prog w = .ok (.tuple #[.bool false]) w) ∨
    ∃ d v w', (d, v) ∈ todo ∧ (Instr.next (.pointer (some ⟨r, 0, none⟩)) false ty).run Try.prog w = .ok (.tuple #[.bool true, dotVal d, v]) w' ∧ DotRange w' b r E (delE todo d) ∧ (delE todo d).length + 1 = todo.length ∧ w.grownBy w' (some r) ∧ w'.heap.size = w.heap.size ∧
      (Instr.entry (.pointer (some ⟨r, 0, none⟩))).run Try.prog w' = .ok (.tuple #[dotVal d, v]) w' := by
  obtain ⟨D, left, cnt, h, hD, hl, hsub, hnd⟩ := h
  rcases h.next keyDot ty with ⟨_, hno, hrun⟩ | ⟨key, v, k, y, w', cnt', hkey, hlk, hv, hat, hrun, hrg, _, hg, hsz, hen⟩
  · refine .inl ⟨?_, hrun⟩
    cases todo with
    | nil => rfl
    | cons p t =>
      have := (hl (kl p.1)).2 ⟨p, by simp, rfl⟩
      rw [hno] at this
      cases this
  · obtain ⟨d, hd, rfl⟩ := keyOf_dot_inv hkey
    have hk : k = kl d := by rw [kl_is hd] at hkey; exact (Option.some.inj hkey).symm
    subst hk
    obtain ⟨p, hp, hpk⟩ := (hl (kl d)).1 hlk
    have hpd : p.1 = d := kl_inj (hD.fits p (hsub p hp)) hd hpk
    obtain ⟨d', v'⟩ := p
    simp only at hpd
    subst hpd
    have hlook := (lookE_mem hD.nodup).2 (hsub _ hp)
    have hvv : v = v' := by
      have h1 := hat (.held v)
      rw [hD.at' d' hd, hlook] at h1
      unfold heldR at hv
      simp only [Option.some.injEq] at hv
      rw [← hv] at h1
      simpa using h1.symm
    subst hvv
    have hlen := delE_len hnd d'
    rw [(lookE_mem hnd).2 hp] at hlen
    refine .inr ⟨d', v, w', hp, hrun, ⟨D, _, _, hrg, hD, fun k => ?_, fun q hq => hsub q (List.mem_filter.1 hq).1, List.Pairwise.sublist (List.Sublist.map _ List.filter_sublist) hnd⟩, by simpa using hlen, hg, hsz, hen⟩
    rw [Bool.and_eq_true, hl k, Bool.not_eq_true']
    constructor
    · rintro ⟨⟨q, hq, rfl⟩, hne⟩
      refine ⟨q, List.mem_filter.2 ⟨hq, ?_⟩, rfl⟩
      simp only [ne_eq, decide_eq_true_eq]
      intro e
      rw [e, WideAt.sameKey_self (kl_key hd)] at hne
      cases hne
    · rintro ⟨q, hq, rfl⟩
      obtain ⟨hq1, hq2⟩ := List.mem_filter.1 hq
      simp only [ne_eq, decide_eq_true_eq] at hq2
      refine ⟨⟨q, hq1, rfl⟩, ?_⟩
      cases hs : (kl q.1).sameKey (kl d') with
      | false => rfl
      | true => exact absurd (kl_inj (hD.fits q (hsub q hq1)) hd (WideAt.sameKey_eq hs)) hq2
end Go.Proofs.Ytidiapgdgoeplaa
