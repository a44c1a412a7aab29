/-
  (*book.Book).Newer walked.
-/
import Derived.Test.YtidiapgdgoeplaaBookNewF
import Derived.Test.YtidiapgdgoeplaaBookAll
import Derived.Test.YtidiapgdgoeplaaBookSet
namespace Go.Proofs.Ytidiapgdgoeplaa
open Go.Shelf Go.RowKit Go.Lib Go.Sort
set_option linter.unusedVariables false
/-- what Newer has gathered behind i events -/
def newTo (f : Ev → Bool) (most : Int) (L : List Ev) (i : Nat) : List Ev := ((L.take i).filter f).take most.toNat
theorem newTo_full {f : Ev → Bool} {most : Int} {L : List Ev} {i : Nat} (h : most ≤ ((newTo f most L i).length : Int)) : newTo f most L i = (L.filter f).take most.toNat := by
  unfold newTo at *
  rw [List.length_take] at h
  conv => rhs; rw [← List.take_append_drop i L, List.filter_append, List.take_append_of_le_length (by omega)]
theorem newTo_all {f : Ev → Bool} {most : Int} {L : List Ev} : newTo f most L L.length = (L.filter f).take most.toNat := by
  unfold newTo
  rw [List.take_length]
theorem newTo_step {f : Ev → Bool} {most : Int} {L : List Ev} {i : Nat} (hi : i < L.length) (h : ((newTo f most L i).length : Int) < most) : newTo f most L (i + 1) = newTo f most L i ++ (if f L[i] then [L[i]] else []) := by
  unfold newTo at *
  rw [List.length_take] at h
  rw [List.take_add_one, List.getElem?_eq_getElem hi, Option.toList_some, List.filter_append]
  have h1 : ((L.take i).filter f).take most.toNat = (L.take i).filter f := List.take_of_length_le (by omega)
  rw [h1]
  cases hf : f L[i] with
  | true =>
    simp only [List.filter_cons, hf, List.filter_nil, if_true]
    exact List.take_of_length_le (by rw [List.length_append, List.length_singleton]; omega)
  | false =>
    simp only [List.filter_cons, hf, List.filter_nil, Bool.false_eq_true, if_false, List.append_nil]
    exact h1
theorem DotMapAt.empty {w : World} {b : Nat} (h : w.heap[b]? = some (.map #[] 0)) : DotMapAt w b [] := by
  obtain ⟨D, ⟨es, clock, h1, h2⟩, h3⟩ := DotMapAt.made w
  rw [heap_alloc_new] at h1
  simp only [Option.some.injEq, Obj.map.injEq] at h1
  obtain ⟨e1, e2⟩ := h1
  subst e1
  subst e2
  exact ⟨D, ⟨_, _, h, h2⟩, h3⟩
theorem list2_any (oa : Option Addr) (cap : Nat) (s : DSet) (w : World) (h : SlAt Dot.cells w (.slice oa s.more.length cap) s.more) (hl : s.more.length ≤ 1000000) :
    Calls Try.prog 21 #[.agg #[.int .i64 (s.u 0), .int .i64 (s.u 1), .int .i64 (s.u 2), .int .i64 (s.u 3), .int .i64 (s.u 4), .int .i64 (s.u 5), .int .i64 (s.u 6), .int .i64 (s.u 7), .slice oa s.more.length cap]] w fun e w' => ∃ oh c, e = .returned (.slice oh (dotsOf s.grid).length c) ∧ Owns Dot.cells 2 w.heap.size 28 w' (.slice oh (dotsOf s.grid).length c) (dotsOf s.grid) ∧ Below w.heap.size w w' := by
  refine (list_any oa cap s w h hl).mono ?_
  rintro e w' ⟨⟨o, n, c⟩, rfl, h1, h2⟩
  have hn : n = (dotsOf s.grid).length := by
    obtain ⟨_, _, hv, _⟩ := h1.at.slice_of
    simp only [Hdr.val, Value.slice.injEq] at hv
    exact hv.2.1
  have hv : Hdr.val ⟨o, n, c⟩ = .slice o n c := rfl
  rw [hv, hn] at h1
  rw [hv, hn]
  exact ⟨o, c, rfl, h1, h2⟩
theorem alloc5 (w : World) (o0 o1 o2 o3 o4 : Obj) : (((((w.alloc o0).alloc o1).alloc o2).alloc o3).alloc o4).heap[w.heap.size + 1]? = some o1 ∧ (((((w.alloc o0).alloc o1).alloc o2).alloc o3).alloc o4).heap[w.heap.size + 2]? = some o2 ∧ (((((w.alloc o0).alloc o1).alloc o2).alloc o3).alloc o4).heap[w.heap.size + 3]? = some o3 ∧ (((((w.alloc o0).alloc o1).alloc o2).alloc o3).alloc o4).heap[w.heap.size + 4]? = some o4 ∧
    Below w.heap.size w (((((w.alloc o0).alloc o1).alloc o2).alloc o3).alloc o4) ∧ (((((w.alloc o0).alloc o1).alloc o2).alloc o3).alloc o4).heap.size = w.heap.size + 5 := by
  have s1 : (w.alloc o0).heap.size = w.heap.size + 1 := World.size_alloc _ _
  have s2 : ((w.alloc o0).alloc o1).heap.size = w.heap.size + 2 := by rw [World.size_alloc, s1]
  have s3 : (((w.alloc o0).alloc o1).alloc o2).heap.size = w.heap.size + 3 := by rw [World.size_alloc, s2]
  have s4 : ((((w.alloc o0).alloc o1).alloc o2).alloc o3).heap.size = w.heap.size + 4 := by rw [World.size_alloc, s3]
  refine ⟨?_, ?_, ?_, ?_, (((((Below.refl _ _).alloc (Nat.le_refl _) _).alloc (by omega) _).alloc (by omega) _).alloc (by omega) _).alloc (by omega) _, by rw [World.size_alloc, s4]⟩
  · rw [Below.heap_alloc _ _ _ (by omega), Below.heap_alloc _ _ _ (by omega), Below.heap_alloc _ _ _ (by omega), ← s1, heap_alloc_new]
  · rw [Below.heap_alloc _ _ _ (by omega), Below.heap_alloc _ _ _ (by omega), ← s2, heap_alloc_new]
  · rw [Below.heap_alloc _ _ _ (by omega), ← s3, heap_alloc_new]
  · rw [← s4, heap_alloc_new]
set_option maxHeartbeats 8000000 in
theorem newer_any (bb ms mh B : Nat) (S : BookS) (oa : Option Addr) (cap : Nat) (s : DSet) (most : Int) (w : World) (h : BookAt w bb ms mh B S) (hby : ByDot S.holds) (hrl : ∀ e ∈ S.holds, e.rem.length ≤ 1000000) (hs : SlAt Dot.cells w (.slice oa s.more.length cap) s.more) (hl : s.more.length ≤ 1000000) :
    Calls Try.prog 17 #[.pointer (some ⟨bb, 0, none⟩), .agg #[.int .i64 (s.u 0), .int .i64 (s.u 1), .int .i64 (s.u 2), .int .i64 (s.u 3), .int .i64 (s.u 4), .int .i64 (s.u 5), .int .i64 (s.u 6), .int .i64 (s.u 7), .slice oa s.more.length cap], .int .i64 most] w fun e w' => ∃ hd ps, e = .returned (Hdr.val hd) ∧ ps.map (·.2) = newerB S s.grid most ∧ Acc w.heap.size 33 28 w' hd.val ps ∧ Below w.heap.size w w' := by
  have hmm := @run_makeMap Try.prog
  have eg1 : ∀ args w, (callFunc 35 args).run Try.prog w = .ok (.enter 35 args) w := enters_of Try.func35 (by kernel_rfl) rfl
  have eg2 : ∀ args w, (callFunc 36 args).run Try.prog w = .ok (.enter 36 args) w := enters_of Try.func36 (by kernel_rfl) rfl
  obtain ⟨r1, r2, r3, r4, hb5, hsz5⟩ := alloc5 w (.cells #[.int .i64 (s.u 0), .int .i64 (s.u 1), .int .i64 (s.u 2), .int .i64 (s.u 3), .int .i64 (s.u 4), .int .i64 (s.u 5), .int .i64 (s.u 6), .int .i64 (s.u 7), .slice oa s.more.length cap] 42) (.cells #[.int .i64 most] 3) (.cells #[.slice none 0 0] 22) (.map #[] 0) (.cells #[.map (some (w.heap.size + 3))] 53)
  have hli := list2_any oa cap s _ (hs.below Dot.cells_len (by decide) hb5 (Nat.le_refl _)) hl
  have hbk := h.below hb5 (Nat.le_refl _)
  have hsz := h.size
  have HLI := Lib.hid hli
  have HBK := Lib.hid hbk
  have R1 := Lib.hid r1
  have R2 := Lib.hid r2
  have R3 := Lib.hid r3
  have R4 := Lib.hid r4
  have HB5 := Lib.hid hb5
  clear hli hbk r1 r2 r3 r4 hb5 hs
  go_enter Try.func17, Try.ntmps17
  go_wp2_with fail
  generalize ((((w.alloc (.cells #[.int .i64 (s.u 0), .int .i64 (s.u 1), .int .i64 (s.u 2), .int .i64 (s.u 3), .int .i64 (s.u 4), .int .i64 (s.u 5), .int .i64 (s.u 6), .int .i64 (s.u 7), .slice oa s.more.length cap] 42)).alloc (.cells #[.int .i64 most] 3)).alloc (.cells #[.slice none 0 0] 22)).alloc (.map #[] 0)).alloc (.cells #[.map (some (w.heap.size + 3))] 53) = W5 at *
  refine HLI.out.mono ?_
  rintro e w6 ⟨o6, c6, rfl, hown6, hb6⟩
  have hlen := dotsOf_len s.grid_ok
  have hmay6 : ∀ d ∈ dotsOf s.grid, May d := fun d hd => ((mem_dotsOf s.grid_ok).1 hd).1
  have hk6 : ∀ i, i < w.heap.size + 5 → w6.heap[i]? = W5.heap[i]? := fun i hi => hb6.block i (by omega)
  have hm0 : MarksAt (w.heap.size + 4) (w.heap.size + 3) w6 (fun x => x ∈ (dotsOf s.grid).take 0) := by
    exact ⟨by omega, (hk6 _ (by omega)).trans R4.out, [], .empty ((hk6 _ (by omega)).trans R3.out), fun d v => by simp⟩
  have hea := beach_any 35 #[] #[.pointer (some ⟨w.heap.size + 4, 0, none⟩)] eg1 o6 c6 (dotsOf s.grid)
    (fun i W => MarksAt (w.heap.size + 4) (w.heap.size + 3) W (fun x => x ∈ (dotsOf s.grid).take i) ∧ w6.grownBy W (some (w.heap.size + 3)))
    ⟨fun i hi W hI => (newerMark_any _ _ _ (hmay6 _ (List.getElem_mem hi)) _ W hI.1).mono (by
      rintro e w' ⟨rfl, h1, h2⟩
      refine ⟨rfl, ?_, hI.2.trans h2⟩
      have : (fun x => x ∈ (dotsOf s.grid).take (i + 1)) = fun x => x ∈ (dotsOf s.grid).take i ∨ x = (dotsOf s.grid)[i] := by
        funext x
        rw [List.take_add_one, List.getElem?_eq_getElem hi, Option.toList_some]
        exact propext (by rw [List.mem_append, List.mem_singleton])
      rw [this]
      exact h1), fun i W W' hI hb => ⟨hI.1.keep (hb.block _ hI.1.lt.1) (hb.block _ hI.1.lt.2), hI.2.trans ⟨hb.os, hb.tape, hb.output, hb.size, fun j hj _ => hb.block j hj⟩⟩⟩
    (fun i W hI => (hown6.past hI.2 (by omega)).at) (by omega) w6 ⟨hm0, World.grownBy.refl _ _⟩
  rw [List.take_length] at hea
  have HEA := Lib.hid hea
  have HK6 := Lib.hid hk6
  have HB6 := Lib.hid hb6
  clear hea hm0 hmay6 hown6 hk6 hb6 HLI
  go_wp2_with fail
  refine HEA.out.mono ?_
  rintro e w7 ⟨rfl, hmk, hg7⟩
  have hk7 : ∀ i, i < w.heap.size + 5 → i ≠ w.heap.size + 3 → w7.heap[i]? = W5.heap[i]? := fun i hi hne => (hg7.block i (by have := HB6.out.size; omega) (fun e => hne (Option.some.inj e))).trans (HK6.out i hi)
  have hb7 : Below w.heap.size w w7 := (HB5.out.trans (HB6.out.mono (by omega))).grown hg7 (by have := HB6.out.size; omega) (fun k hk => by cases hk; omega)
  have h7 := h.below hb7 (Nat.le_refl _)
  have hlen7 := held_len hby h.may
  obtain ⟨Eh, hs, k0, k2, k3, k4⟩ := h.holds
  have hbb := h.ltb
  have hmh := h.lth
  have hsz7 : w.heap.size + 5 ≤ w7.heap.size := by have := HB6.out.size; have := hg7.size; omega
  have k1 := k0.below hb7 (by omega)
  have hL : S.holds.length = hs.length := by rw [← k2, List.length_map]
  have hwk := bookWalk_any 36 #[] #[.pointer (some ⟨w.heap.size + 2, 0, none⟩), .pointer (some ⟨w.heap.size + 1, 0, none⟩), .pointer (some ⟨w.heap.size + 4, 0, none⟩)] eg2 bb ms mh S.time Eh hs (by rw [k2]; exact hby) (fun p hp => h.may _ (by rw [← k2]; exact List.mem_map_of_mem hp)) k3
    (EvInv w7 (w.heap.size + 2) fun i l => l = newTo (fun e => !s.grid e.dot.node.toNat e.dot.seq.toNat) most S.holds i)
    (fun W => ∃ hd ps, ps.map (·.2) = newerB S s.grid most ∧ W.heap[w.heap.size + 2]? = some (.cells #[Hdr.val hd] 22) ∧ Acc w7.heap.size 33 28 W hd.val ps ∧ Below w.heap.size w W)
    w7
    (fun rb o i W hI => ⟨⟨(hI.same (by omega) (by omega)).trans h7.obj, k1.keep (hI.same (by omega) (by omega))⟩, hI.row⟩)
    (fun rb o i W W' hI hb => hI.mono hb)
    (fun rb o i hi W hI => by
      obtain ⟨W0, hd, ps, g1, g2, g3, g4, g5, g6, g7⟩ := id hI
      have hmem : hs[i] ∈ hs := List.getElem_mem hi
      have hrem : SlAt Dot.cells W hs[i].1.val hs[i].2.rem := ((k4 _ hmem).keep fun g hg => by
        have := ((k4 _ hmem).lt g hg).2
        exact (hI.same (by omega) (by omega)).trans (hb7.block g this)).at
      have hLi : S.holds[i]'(by omega) = hs[i].2 := by simp only [← k2, List.getElem_map]
      have hpl : ps.length ≤ 768 := by
        have h9 := congrArg List.length (show ps.map (·.2) = newTo _ most S.holds i from g7)
        have h8 := List.length_filter_le (fun e : Ev => !s.grid e.dot.node.toNat e.dot.seq.toNat) (S.holds.take i)
        unfold newTo at h9
        rw [List.length_map, List.length_take] at h9
        rw [List.length_take] at h8
        omega
      have hmay : May hs[i].2.dot := h.may _ (by rw [← k2]; exact List.mem_map_of_mem hmem)
      have hnf := newerFn_any (w.heap.size + 2) W0.heap.size (w.heap.size + 1) (w.heap.size + 4) (w.heap.size + 3) most (fun x => x ∈ dotsOf s.grid) hs[i] W hd ps g5 hrem (hrl _ (by rw [← k2]; exact List.mem_map_of_mem hmem)) (by omega)
        ((hI.same (by omega) (by omega)).trans ((hk7 _ (by omega) (by omega)).trans R1.out)) (hmk.keep (hI.same (by omega) (by omega)) (hI.same (by omega) (by omega))) hmay
      refine hnf.mono ?_
      rintro e w' ⟨c, rfl, hsp, hd', ps', ho, hcs⟩
      have hin : hs[i].2.dot ∈ dotsOf s.grid ↔ s.grid hs[i].2.dot.node.toNat hs[i].2.dot.seq.toNat = true := by
        rw [mem_dotsOf s.grid_ok]
        exact ⟨fun h => h.2, fun h => ⟨hmay, h⟩⟩
      have g7' : ps.map (·.2) = newTo (fun e => !s.grid e.dot.node.toNat e.dot.seq.toNat) most S.holds i := g7
      have hpe : ((newTo (fun e : Ev => !s.grid e.dot.node.toNat e.dot.seq.toNat) most S.holds i).length : Int) = ps.length := by rw [← g7', List.length_map]
      refine ⟨c, rfl, fun hc => ?_, fun hc => ?_⟩
      · refine ⟨W0, hd', ps', g1, g2, g3, g4, ho, g6.trans hsp, ?_⟩
        show ps'.map (·.2) = newTo (fun e => !s.grid e.dot.node.toNat e.dot.seq.toNat) most S.holds (i + 1)
        rcases hcs with ⟨h1, _⟩ | ⟨_, h2, h3, rfl⟩ | ⟨_, h2, h3, q, hq, rfl⟩
        · rw [hc] at h1; cases h1
        · rw [newTo_step (by omega) (by omega), hLi, hin.1 h3, g7']
          simp
        · rw [newTo_step (by omega) (by omega), hLi, List.map_append, List.map_singleton, hq, g7']
          have : s.grid hs[i].2.dot.node.toNat hs[i].2.dot.seq.toNat = false := by
            rw [← Bool.not_eq_true]; exact fun h => h3 (hin.2 h)
          rw [this]
          simp
      · rcases hcs with ⟨_, h2, rfl⟩ | ⟨h1, _⟩ | ⟨h1, _⟩
        · refine ⟨hd', _, ?_, ho.obj, ho.acc.lower g1.size, ?_⟩
          · rw [g7', newTo_full (by omega)]; rfl
          · exact ⟨hsp.os.trans (g6.os.trans (g1.os.trans hb7.os)), hsp.tape.trans (g6.tape.trans (g1.tape.trans hb7.tape)), hsp.output.trans (g6.output.trans (g1.output.trans hb7.output)), by have := ho.size; have := g1.size; omega, fun j hj => (hsp.block j (by have := g1.size; omega) (by omega)).trans ((hI.same (by omega) (by omega)).trans (hb7.block j hj))⟩
        · rw [hc] at h1; cases h1
        · rw [hc] at h1; cases h1)
    (fun rb o W hI => by
      obtain ⟨W0, hd, ps, g1, g2, g3, g4, g5, g6, g7⟩ := id hI
      refine ⟨hd, ps, by rw [show ps.map (·.2) = newTo _ most S.holds hs.length from g7, ← hL, newTo_all]; rfl, g5.obj, g5.acc.lower g1.size, ?_⟩
      exact ⟨g6.os.trans (g1.os.trans hb7.os), g6.tape.trans (g1.tape.trans hb7.tape), g6.output.trans (g1.output.trans hb7.output), by have := g5.size; have := g1.size; omega, fun i hi => (hI.same (by omega) (by omega)).trans (hb7.block i hi)⟩)
    ⟨h7.obj, k1⟩
    (fun rb o W g1 g2 g3 => EvInv.start ((hk7 _ (by omega) (by omega)).trans R2.out) (by show _ = _; unfold newTo; simp) g1 g2 g3)
  have HWK := Lib.hid hwk
  clear hwk k0 k1 k2 k3 k4 h7 hb7 hmk hg7 hk7 h hby hrl HEA HK6 HB6 HBK R1 R2 R3 R4 HB5 hL hlen7 hbb hmh
  go_wp2_with fail
  refine HWK.out.mono ?_
  rintro e w8 ⟨rfl, ⟨o8, n8, c8⟩, ps, hps, hobj, hacc, hbl⟩
  have c0 := cell_of_row _ (w.heap.size + 2) 0 _ _ _ hobj
  have z0 : w8.frozen? ⟨w.heap.size + 2, 0, none⟩ = false := by unfold World.frozen?; rw [hobj]; simp
  simp only [Hdr.val] at c0
  have HACC := Lib.hid hacc
  have HBL := Lib.hid hbl
  have HPS := Lib.hid hps
  clear HWK hobj hacc hbl hps
  go_wp2_with fail
  refine bodyPost_ret (v := .slice o8 n8 c8) (by simp [results, Try.results17, go_sem, cell_set, c0]) rfl ⟨⟨o8, n8, c8⟩, ps, rfl, HPS.out, ?_, HBL.out.setCell (p := ⟨w.heap.size + 2, 0, none⟩) (by show w.heap.size ≤ w.heap.size + 2; omega) _⟩
  exact (HACC.out.past fun i hi => Below.heap_setCell w8 ⟨w.heap.size + 2, 0, none⟩ _ _ (by show i ≠ w.heap.size + 2; omega)).lower (by omega)
end Go.Proofs.Ytidiapgdgoeplaa
