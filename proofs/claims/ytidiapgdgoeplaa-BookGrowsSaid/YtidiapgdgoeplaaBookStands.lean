/-
  (*book.Book).Stands walked.
-/
import Derived.Test.YtidiapgdgoeplaaBookStF
import Derived.Test.YtidiapgdgoeplaaBookNewer
namespace Go.Proofs.Ytidiapgdgoeplaa
open Go.Shelf Go.RowKit Go.Lib Go.Sort
set_option linter.unusedVariables false
theorem len_eq_of_mem {l m : List Dot} (hl : l.Nodup) (hm : m.Nodup) (h : ∀ x, x ∈ l ↔ x ∈ m) : l.length = m.length :=
  Nat.le_antisymm (hl.length_le_of_subset fun x hx => (h x).1 hx) (hm.length_le_of_subset fun x hx => (h x).2 hx)
theorem dotsOf_nodup {g : Grid} (hg : g.Ok) : (dotsOf g).Nodup := (dotsTo_sorted g 784).imp fun {a b} hb e => by subst e; exact Before.irrefl _ hb
theorem grid_of_mem {l : List Dot} {d : Dot} (hd : May d) : dotsGrid l d.node.toNat d.seq.toNat = true ↔ d ∈ l := by
  have h1 := mem_dotsOf (dotsGrid_ok l) (d := d)
  have h2 := mem_dotsGrid (l := l) (d := d)
  constructor
  · exact fun h => (h2.1 (h1.2 ⟨hd, h⟩)).2
  · exact fun h => (h1.1 (h2.2 ⟨hd, h⟩)).2
theorem standsB_len {w : World} {km : Nat} {E : List (Dot × Value)} (S : BookS) (work : Int) (h : DotMapAt w km E) (hE : ∀ d v, (d, v) ∈ E ↔ v = .bool true ∧ May d ∧ d ∈ standsL S work) : E.length = (dotsOf (dotsGrid (standsL S work))).length := by
  have hl : (E.map (·.1)).length = E.length := List.length_map _
  rw [← hl]
  refine len_eq_of_mem h.nodup (dotsOf_nodup (dotsGrid_ok _)) fun x => ?_
  rw [mem_dotsGrid]
  constructor
  · intro hx
    obtain ⟨p, hp, rfl⟩ := List.mem_map.1 hx
    exact ((hE p.1 p.2).1 hp).2
  · intro hx
    exact List.mem_map_of_mem (f := (·.1)) ((hE x (.bool true)).2 ⟨rfl, hx⟩)
theorem standsB_big {S : BookS} {work : Int} {n : Nat} (hn : n = (dotsOf (dotsGrid (standsL S work))).length) (h : 96 < n) : standsB S work = ([], 7) := by
  unfold standsB
  exact if_pos (hn ▸ h)
theorem standsB_small {S : BookS} {work : Int} {n : Nat} (hn : n = (dotsOf (dotsGrid (standsL S work))).length) (h : ¬ 96 < n) : standsB S work = (dotsOf (dotsGrid (standsL S work)), 0) := by
  unfold standsB
  exact if_neg (hn ▸ h)
set_option maxHeartbeats 8000000 in
set_option maxRecDepth 8000 in
theorem stands_any (bb ms mh B : Nat) (S : BookS) (work : Int) (w : World) (h : BookAt w bb ms mh B S) (hf : S.Fine) :
    Calls Try.prog 11 #[.pointer (some ⟨bb, 0, none⟩), .int .i64 work] w fun e w' => ∃ hd : Hdr, e = .returned (.tuple #[hd.val, .int .i64 (standsB S work).2]) ∧ Owns Dot.cells 2 w.heap.size 28 w' hd.val (standsB S work).1 ∧ Below w.heap.size w w' := by
  have hmm := @run_makeMap Try.prog
  have eg : ∀ args w, (callFunc 29 args).run Try.prog w = .ok (.enter 29 args) w := enters_of Try.func29 (by kernel_rfl) rfl
  obtain ⟨r0, r1, r2, hb3, hsz3⟩ := alloc3 w (.cells #[.int .i64 work] 3) (.map #[] 0) (.cells #[.map (some (w.heap.size + 1))] 53)
  have hwk : ∀ W1 : World, W1.heap[w.heap.size]? = some (.cells #[.int .i64 work] 3) → W1.heap[w.heap.size + 1]? = some (.map #[] 0) → W1.heap[w.heap.size + 1 + 1]? = some (.cells #[.map (some (w.heap.size + 1))] 53) → Below w.heap.size w W1 → W1.heap.size = w.heap.size + 3 →
      Calls Try.prog 27 #[.pointer (some ⟨bb, 0, none⟩), .func (.func 29) #[] #[.pointer (some ⟨w.heap.size, 0, none⟩), .pointer (some ⟨w.heap.size + 1 + 1, 0, none⟩)]] W1 fun e w' => e = .returned (.tuple #[]) ∧ W1.grownBy w' (some (w.heap.size + 1)) ∧ MarksAt (w.heap.size + 1 + 1) (w.heap.size + 1) w' (fun x => x ∈ standsL S work) := by
    intro W1 r0 r1 r2 hb3 hsz3
    have hbk := h.below hb3 (Nat.le_refl _)
    have hsz := h.size
    have hlb := h.ltb
    have hlh := h.lth
    obtain ⟨Eh, hs, k0, k2, k3, k4⟩ := h.holds
    have k1 := k0.below hb3 (by omega)
    exact bookWalk_any 29 #[] #[.pointer (some ⟨w.heap.size, 0, none⟩), .pointer (some ⟨w.heap.size + 1 + 1, 0, none⟩)] eg bb ms mh S.time Eh hs (by rw [k2]; exact hf.by') (fun p hp => h.may _ (by rw [← k2]; exact List.mem_map_of_mem hp)) k3
      (fun rb ob i W => W1.heap.size ≤ rb ∧ W.heap[rb]? = some ob ∧ W1.grownBy W (some (w.heap.size + 1)) ∧ MarksAt (w.heap.size + 1 + 1) (w.heap.size + 1) W (fun x => ∃ p ∈ hs.take i, standsAt work p.2 x))
      (fun W => W1.grownBy W (some (w.heap.size + 1)) ∧ MarksAt (w.heap.size + 1 + 1) (w.heap.size + 1) W (fun x => x ∈ standsL S work))
      W1
      (fun rb ob i W hI => ⟨⟨(hI.2.2.1.block bb (by omega) (fun e => by have := Option.some.inj e; omega)).trans hbk.obj, k1.kept hI.2.2.1 (fun e => by have := Option.some.inj e; omega)⟩, hI.2.1⟩)
      (fun rb ob i W W' hI hb => ⟨hI.1, (hb.block rb (Array.getElem?_eq_some_iff.1 hI.2.1).1).trans hI.2.1, hI.2.2.1.trans ⟨hb.os, hb.tape, hb.output, hb.size, fun j hj _ => hb.block j hj⟩, hI.2.2.2.keep (hb.block _ hI.2.2.2.lt.1) (hb.block _ hI.2.2.2.lt.2)⟩)
      (fun rb ob i hi W hI => by
        obtain ⟨g1, g2, g3, g4⟩ := hI
        have hmem : hs[i] ∈ hs := List.getElem_mem hi
        have hev : hs[i].2 ∈ S.holds := by rw [← k2]; exact List.mem_map_of_mem hmem
        have hrt := hf.right _ hev
        have hown := k4 _ hmem
        have hkb : ∀ g, hs[i].1.val.ownBlock = some g → W.heap[g]? = w.heap[g]? := fun g hg => (g3.block g (by have := (hown.lt g hg).2; omega) (fun e => by have := Option.some.inj e; have := (hown.lt g hg).2; omega)).trans (hb3.block g (hown.lt g hg).2)
        refine (standsFn_any w.heap.size (w.heap.size + 1 + 1) (w.heap.size + 1) work _ hs[i] W (hown.keep hkb).at (by have := hrt.2.2.2.1; omega) (.inr fun b hb => by have := (hown.lt b hb).2; omega) ((g3.block _ (by omega) (fun e => by have := Option.some.inj e; omega)).trans r0) g4 hrt.1 (fun d hd => (hrt.2.2.2.2.1.1 d hd).1)).mono ?_
        rintro e w' ⟨rfl, h1, h2⟩
        refine ⟨true, rfl, fun _ => ⟨g1, (h2.block rb (Array.getElem?_eq_some_iff.1 g2).1 (fun e => by have := Option.some.inj e; omega)).trans g2, g3.trans h2, ?_⟩, fun h => nomatch h⟩
        have : (fun x => ∃ p ∈ hs.take (i + 1), standsAt work p.2 x) = fun x => (∃ p ∈ hs.take i, standsAt work p.2 x) ∨ standsAt work hs[i].2 x := by
          funext x
          rw [List.take_add_one, List.getElem?_eq_getElem hi, Option.toList_some]
          refine propext ⟨?_, ?_⟩
          · rintro ⟨p, hp, h⟩
            rcases List.mem_append.1 hp with hp | hp
            · exact .inl ⟨p, hp, h⟩
            · rw [List.mem_singleton] at hp
              subst hp
              exact .inr h
          · rintro (⟨p, hp, h⟩ | h)
            · exact ⟨p, List.mem_append_left _ hp, h⟩
            · exact ⟨_, List.mem_append_right _ (List.mem_singleton.2 rfl), h⟩
        rw [this]
        exact h1)
      (fun rb ob W hI => ⟨hI.2.2.1, by
        have : (fun x => ∃ p ∈ hs.take hs.length, standsAt work p.2 x) = fun x => x ∈ standsL S work := by
          funext x
          rw [List.take_length]
          refine propext ?_
          rw [mem_standsL]
          unfold standsAt
          constructor
          · rintro ⟨p, hp, h⟩
            exact ⟨p.2, by rw [← k2]; exact List.mem_map_of_mem hp, h⟩
          · rintro ⟨e, he, h⟩
            rw [← k2] at he
            obtain ⟨p, hp, rfl⟩ := List.mem_map.1 he
            exact ⟨p, hp, h⟩
        rw [← this]
        exact hI.2.2.2⟩)
      ⟨hbk.obj, k1⟩
      (fun rb ob W g1 g2 g3 => ⟨g1, g2, ⟨g3.os, g3.tape, g3.output, g3.size, fun j hj _ => g3.block j hj⟩, ⟨by omega, (g3.block _ (by omega)).trans r2, [], .empty ((g3.block _ (by omega)).trans r1), fun d v => by simp⟩⟩)
  have HWK := Lib.hid (hwk _ r0 r1 r2 hb3 hsz3)
  have HB3 := Lib.hid hb3
  have HS3 := Lib.hid hsz3
  clear hwk r0 r1 r2 hb3 hsz3 h hf
  go_enter Try.func11, Try.ntmps11
  go_wp2_with fail
  generalize (((w.alloc (.cells #[.int .i64 work] 3)).alloc (.map #[] 0)).alloc (.cells #[.map (some (w.heap.size + 1))] 53)) = W3 at *
  refine HWK.out.mono ?_
  rintro e w4 ⟨rfl, hg4, hm4⟩
  have c4 := cell_of_row _ (w.heap.size + 1 + 1) 0 _ _ _ hm4.obj
  obtain ⟨E, e1, e2⟩ := hm4.map
  have hln := fun ty => e1.len Try.underlying53 ty
  have hn := standsB_len S work e1 e2
  have hb4 : Below w.heap.size w w4 := HB3.out.grown hg4 (by have := HS3.out; omega) (fun k hk => by cases hk; omega)
  have hset := bookSet_any (w.heap.size + 1) (dotsGrid (standsL S work)) (dotsGrid_ok _) E w4 e1 (fun d v => by
    rw [e2]
    constructor
    · rintro ⟨h1, h2, h3⟩
      exact ⟨h1, h2, (grid_of_mem h2).2 h3⟩
    · rintro ⟨h1, h2, h3⟩
      exact ⟨h1, h2, (grid_of_mem h2).1 h3⟩)
  have HSET := Lib.hid hset
  have HN := Lib.hid hn
  have HB4 := Lib.hid hb4
  have hs4 := hb4.size
  clear hset hn hb4 hm4 hg4 e1 e2 HWK HB3 HS3
  generalize E.length = n at *
  by_cases hbig : 96 < n
  · have HST := Lib.hid (standsB_big HN.out hbig)
    have hbz : (96 : Int) < (n : Int) := by omega
    go_wp2_with fail
    go_ret2
    exact ⟨⟨none, 0, 0⟩, by rw [HST.out]; rfl, by rw [HST.out]; exact Owns.nil _ _ _ _ _, HB4.out⟩
  · have HST := Lib.hid (standsB_small HN.out hbig)
    have hbz : ¬ (96 : Int) < (n : Int) := by omega
    go_wp2_with fail
    refine HSET.out.mono ?_
    rintro e w5 ⟨⟨oa, m, cap⟩, r, rfl, hcl, hown, hb5⟩
    obtain rfl : m = r.more.length := by
      obtain ⟨_, _, hv, _⟩ := hown.at.slice_of
      simp only [Hdr.val, Value.slice.injEq] at hv
      exact hv.2.1
    have hgr := hcl.grid (dotsGrid_ok _)
    have hml : r.more.length ≤ 1000000 := by
      rw [hcl.rest]
      have h1 := List.length_filter_le (fun d : Dot => decide (r.u d.node.toNat < d.seq)) (dotsOf (dotsGrid (standsL S work)))
      have h2 := dotsOf_len (dotsGrid_ok (standsL S work))
      omega
    have hli := list_any oa cap r w5 hown.at hml
    rw [hgr] at hli
    have HLI := Lib.hid hli
    have HB5 := Lib.hid (HB4.out.trans (hb5.mono hs4))
    have hs5 := hb5.size
    have hq : (qcells (⟨oa, r.more.length, cap⟩, r)).toArray = #[.int .i64 (r.u 0), .int .i64 (r.u 1), .int .i64 (r.u 2), .int .i64 (r.u 3), .int .i64 (r.u 4), .int .i64 (r.u 5), .int .i64 (r.u 6), .int .i64 (r.u 7), .slice oa r.more.length cap] := rfl
    rw [hq]
    clear hq hgr hcl hown hb5 hli HSET c4 hln
    go_wp2_with fail
    refine HLI.out.mono ?_
    rintro e w6 ⟨⟨o6, n6, c6⟩, rfl, hown6, hb6⟩
    have HO6 := Lib.hid hown6
    have HB6 := Lib.hid (HB5.out.trans (hb6.mono (by omega)))
    clear hown6 hb6 HLI
    simp only [Hdr.val]
    go_wp2_with fail
    go_ret2
    exact ⟨⟨o6, n6, c6⟩, by rw [HST.out]; rfl, by rw [HST.out]; exact HO6.out.lower (by omega), HB6.out⟩
end Go.Proofs.Ytidiapgdgoeplaa
