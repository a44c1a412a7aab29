/-
  (*book.Book).Events walked.
-/
import Derived.Test.YtidiapgdgoeplaaBookEvs
namespace Go.Proofs.Ytidiapgdgoeplaa
open Go.Shelf Go.RowKit Go.Lib Go.Sort
set_option linter.unusedVariables false
/-- a walk under way that gathers copies in block ob; F tells what has been gathered behind i events -/
def EvInv (w1 : World) (ob : Nat) (F : Nat → List Ev → Prop) (rb : Nat) (o : Obj) (i : Nat) (W : World) : Prop :=
  ∃ W0 hd ps, Below w1.heap.size w1 W0 ∧ rb < W0.heap.size ∧ rb ≠ ob ∧ W0.heap[rb]? = some o ∧ OutAt ob W0.heap.size W hd ps ∧ Spares ob W0.heap.size W0 W ∧ F i (ps.map (·.2))
theorem EvInv.same {w1 : World} {ob : Nat} {F : Nat → List Ev → Prop} {rb : Nat} {o : Obj} {i : Nat} {W : World} (h : EvInv w1 ob F rb o i W) {g : Nat} (hg : g < w1.heap.size) (hne : g ≠ ob) : W.heap[g]? = w1.heap[g]? := by
  obtain ⟨W0, hd, ps, h1, h2, h3, h4, h5, h6, h7⟩ := h
  exact (h6.block g (by have := h1.size; omega) hne).trans (h1.block g hg)
theorem EvInv.row {w1 : World} {ob : Nat} {F : Nat → List Ev → Prop} {rb : Nat} {o : Obj} {i : Nat} {W : World} (h : EvInv w1 ob F rb o i W) : W.heap[rb]? = some o := by
  obtain ⟨W0, hd, ps, h1, h2, h3, h4, h5, h6, h7⟩ := h
  exact (h6.block rb h2 h3).trans h4
theorem EvInv.mono {w1 : World} {ob : Nat} {F : Nat → List Ev → Prop} {rb : Nat} {o : Obj} {i : Nat} {W W' : World} (h : EvInv w1 ob F rb o i W) (hb : Below W.heap.size W W') : EvInv w1 ob F rb o i W' := by
  obtain ⟨W0, hd, ps, h1, h2, h3, h4, h5, h6, h7⟩ := h
  exact ⟨W0, hd, ps, h1, h2, h3, h4, h5.below hb (Nat.le_refl _), h6.trans (.of_below hb h5.size), h7⟩
theorem EvInv.start {w1 : World} {ob : Nat} {F : Nat → List Ev → Prop} (hob : w1.heap[ob]? = some (.cells #[.slice none 0 0] 22)) (hF : F 0 []) {rb : Nat} {o : Obj} {W : World} (h1 : w1.heap.size ≤ rb) (h2 : W.heap[rb]? = some o) (h3 : Below w1.heap.size w1 W) : EvInv w1 ob F rb o 0 W := by
  have hlt : ob < w1.heap.size := (Array.getElem?_eq_some_iff.1 hob).1
  exact ⟨W, ⟨none, 0, 0⟩, [], h3, (Array.getElem?_eq_some_iff.1 h2).1, by omega, h2, ⟨by have := h3.size; omega, Nat.le_refl _, (h3.block ob hlt).trans hob, Acc.nil _ _ _ _⟩, .refl _ _ _, hF⟩
theorem held_len {S : BookS} (hby : ByDot S.holds) (hm : ∀ e, e ∈ S.holds → May e.dot) : S.holds.length ≤ 768 := by
  have h1 : (S.holds.map fun e => e.dot).Nodup := by
    unfold List.Nodup
    rw [List.pairwise_map]
    exact hby.imp fun {a b} h e => by rw [e] at h; exact Before.irrefl _ h
  have := may_len h1 fun d hd => by obtain ⟨e, he, rfl⟩ := List.mem_map.1 hd; exact hm e he
  simpa using this
set_option maxHeartbeats 8000000 in
theorem events_any (bb ms mh B : Nat) (S : BookS) (w : World) (h : BookAt w bb ms mh B S) (hby : ByDot S.holds) (hrl : ∀ e ∈ S.holds, e.rem.length ≤ 1000000) :
    Calls Try.prog 10 #[.pointer (some ⟨bb, 0, none⟩)] w fun e w' => ∃ hd ps, e = .returned (Hdr.val hd) ∧ ps.map (·.2) = S.holds ∧ Acc w.heap.size 33 28 w' hd.val ps ∧ Below w.heap.size w w' := by
  have eg : ∀ args w, (callFunc 28 args).run Try.prog w = .ok (.enter 28 args) w := enters_of Try.func28 (by kernel_rfl) rfl
  have hsz := h.size
  have hlen := held_len hby h.may
  have hb1 := (Below.refl w.heap.size w).alloc (Nat.le_refl _) (.cells #[.slice none 0 0] 22)
  have hob : (w.alloc (.cells #[.slice none 0 0] 22)).heap[w.heap.size]? = some (.cells #[.slice none 0 0] 22) := heap_alloc_new w _
  have hsa : (w.alloc (.cells #[.slice none 0 0] 22)).heap.size = w.heap.size + 1 := World.size_alloc _ _
  obtain ⟨Eh, hs, k1, k2, k3, k4⟩ := h.holds
  have hh := h.obj
  have hmh := h.lth
  have hbb := h.ltb
  have hwk := bookWalk_any 28 #[] #[.pointer (some ⟨w.heap.size, 0, none⟩)] eg bb ms mh S.time Eh hs (by rw [k2]; exact hby) (fun p hp => h.may _ (by rw [← k2]; exact List.mem_map_of_mem hp)) k3
    (EvInv (w.alloc (.cells #[.slice none 0 0] 22)) w.heap.size fun i l => l = (hs.map (·.2)).take i)
    (fun W => ∃ hd ps, ps.map (·.2) = S.holds ∧ W.heap[w.heap.size]? = some (.cells #[Hdr.val hd] 22) ∧ Acc (w.heap.size + 1) 33 28 W hd.val ps ∧ Below w.heap.size w W)
    (w.alloc (.cells #[.slice none 0 0] 22))
    (fun rb o i W hI => ⟨⟨(hI.same (by omega) (by omega)).trans ((hb1.block bb (by omega)).trans hh), (k1.keep ((hI.same (by omega) (by omega)).trans (hb1.block mh (by omega))))⟩, hI.row⟩)
    (fun rb o i W W' hI hb => hI.mono hb)
    (fun rb o i hi W hI => by
      obtain ⟨W0, hd, ps, g1, g2, g3, g4, g5, g6, g7⟩ := id hI
      have hpl : ps.length ≤ 768 := by
        have := congrArg List.length g7
        rw [List.length_map, List.length_take, List.length_map] at this
        have h2 : hs.length = S.holds.length := by rw [← k2, List.length_map]
        omega
      have hmem : hs[i] ∈ hs := List.getElem_mem hi
      have hrem : SlAt Dot.cells W hs[i].1.val hs[i].2.rem := ((k4 _ hmem).keep fun g hg => by
        have := ((k4 _ hmem).lt g hg).2
        exact (hI.same (by omega) (by omega)).trans (hb1.block g this)).at
      refine (eventsFn_any w.heap.size W0.heap.size hs[i] W hd ps g5 hrem (hrl _ (by rw [← k2]; exact List.mem_map_of_mem hmem)) (by omega)).mono ?_
      rintro e w' ⟨rfl, hd', q, hq, ho, hsp⟩
      refine ⟨true, rfl, fun _ => ⟨W0, hd', ps ++ [q], g1, g2, g3, g4, ho, g6.trans hsp, ?_⟩, fun h => nomatch h⟩
      show (ps ++ [q]).map (·.2) = (hs.map (·.2)).take (i + 1)
      have g7' : ps.map (·.2) = (hs.map (·.2)).take i := g7
      rw [List.map_append, g7', List.map_singleton, hq, List.take_add_one, List.getElem?_map, List.getElem?_eq_getElem hi]
      rfl)
    (fun rb o W hI => by
      obtain ⟨W0, hd, ps, g1, g2, g3, g4, g5, g6, g7⟩ := id hI
      refine ⟨hd, ps, by rw [show ps.map (·.2) = (hs.map (·.2)).take hs.length from g7, ← k2]; exact List.take_of_length_le (by rw [List.length_map]; exact Nat.le_refl _), g5.obj, g5.acc.lower (by have := g1.size; omega), ?_⟩
      refine ⟨g6.os.trans (g1.os.trans hb1.os), g6.tape.trans (g1.tape.trans hb1.tape), g6.output.trans (g1.output.trans hb1.output), by have := g5.size; have := g1.size; omega, fun i hi => (hI.same (by omega) (by omega)).trans (hb1.block i hi)⟩)
    ⟨(hb1.block bb (by omega)).trans hh, k1.below hb1 (by omega)⟩
    (fun rb o W g1 g2 g3 => EvInv.start hob rfl g1 g2 g3)
  have HWK := Lib.hid hwk
  clear hwk k1 k2 k3 k4 hh hb1 hob h hrl hby
  go_enter Try.func10, Try.ntmps10
  go_wp2_with fail
  refine HWK.out.mono ?_
  rintro e w2 ⟨rfl, ⟨oa, n, cap⟩, ps, hps, hobj, hacc, hbl⟩
  have c0 := cell_of_row _ w.heap.size 0 _ _ _ hobj
  have z0 : w2.frozen? ⟨w.heap.size, 0, none⟩ = false := by unfold World.frozen?; rw [hobj]; simp
  simp only [Hdr.val] at c0
  have HACC := Lib.hid hacc
  have HBL := Lib.hid hbl
  clear HWK hobj hacc hbl
  go_wp2_with fail
  refine bodyPost_ret (v := .slice oa n cap) (by simp [results, Try.results10, go_sem, cell_set, c0]) rfl ⟨⟨oa, n, cap⟩, ps, rfl, hps, ?_, HBL.out.setCell (p := ⟨w.heap.size, 0, none⟩) (Nat.le_refl _) _⟩
  exact (HACC.out.past fun i hi => Below.heap_setCell w2 ⟨w.heap.size, 0, none⟩ _ _ (by show i ≠ w.heap.size; omega)).lower (by omega)
end Go.Proofs.Ytidiapgdgoeplaa
